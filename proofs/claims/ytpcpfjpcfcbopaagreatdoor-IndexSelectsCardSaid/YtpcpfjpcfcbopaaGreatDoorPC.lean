import Derived.Test.YtpcpfjpcfcbopaaGreatDoorNC
import Derived.Sort.Walk0
import Derived.Test.YtpcpfjpcfcbopaaGreatDoorVC2
set_option maxRecDepth 20000
set_option linter.unusedVariables false
set_option linter.unusedSimpArgs false
namespace Go.Proofs.YtpcpfjpcfcbopaaGreatDoor
open Go Go.RowKit Go.Wk
def rowB (v:Nat):Nat→List Bool
 | 0=>[]
 | n+1=>rowB (v/2) n++[v%2==1]
theorem pow64:(2:Nat)^64=18446744073709551616:=by decide
theorem pow_le {m:Nat} (h:64≤m):18446744073709551616≤2^m:=by rw [← pow64];exact Nat.pow_le_pow_right (by omega) h
theorem shl64_mod (a:UInt64) (m:Nat):(shl64 a m).toNat=a.toNat*2^m%18446744073709551616:=by
 unfold shl64
 split
 ·rename_i h
  rw [UInt64.toNat_shiftLeft,Nat.shiftLeft_eq,pow64]
  have:(UInt64.ofNat m).toNat%64=m:=by rw [UInt64.toNat_ofNat'];omega
  rw [this]
 ·rename_i h
  obtain ⟨q,rfl⟩:∃ q,m=64+q:=⟨m-64,by omega⟩;rw [Nat.pow_add,pow64,Nat.mul_left_comm,Nat.mul_mod_right];rfl
theorem shr64_nat (a:UInt64) (m:Nat):(shr64 a m).toNat=a.toNat/2^m:=by
 unfold shr64
 split
 ·rename_i h
  rw [UInt64.toNat_shiftRight,Nat.shiftRight_eq_div_pow]
  have:(UInt64.ofNat m).toNat%64=m:=by rw [UInt64.toNat_ofNat'];omega
  rw [this]
 ·rename_i h
  have:=a.toNat_lt;have h2:=pow_le (Nat.le_of_not_lt h);rw [Nat.div_eq_of_lt (by omega)];rfl
def zig (x:Int):UInt64:=UInt64.ofNat (if 0≤x then 2*x.toNat else 2*(-1-x).toNat+1)
def szN (c:Nat):Nat:=if c=0 then 0 else if c=1 then 7 else if c=2 then 20 else 64
def clsN (v:Nat):Nat:=if v<1 then 0 else if v<128 then 1 else if v<1048576 then 2 else 3
def smB (v:Nat):List Bool:=rowB (clsN v) 2++rowB v (szN (clsN v))
theorem ofNat_nat {n:Nat} (h:n<18446744073709551616):(UInt64.ofNat n).toNat=n:=by rw [UInt64.toNat_ofNat'];exact Nat.mod_eq_of_lt h
def sI (u:UInt64):Int:=if u.toNat<9223372036854775808 then (u.toNat:Int) else (u.toNat:Int)-18446744073709551616
def sumN (l:List UInt64):Nat:=(l.map UInt64.toNat).sum
theorem sumN_cons (x:UInt64) (l:List UInt64):sumN (x::l)=x.toNat+sumN l:=by simp [sumN]
theorem or_zero (a b:UInt64):a|||b=0↔a=0∧b=0:=by
 constructor
 ·intro h
  have h1:(a|||b).toNat=0:=by rw [h];rfl
  rw [UInt64.toNat_or] at h1;have:=Nat.or_eq_zero_iff.1 h1;exact ⟨UInt64.toNat_inj.1 this.1,UInt64.toNat_inj.1 this.2⟩
 ·rintro ⟨rfl,rfl⟩;rfl
theorem tot_fold (l:List UInt64):∀ (a b:UInt64),((l.foldl (λ(s:UInt64×UInt64) x=>(s.1+x,s.2|||cry s.1 x)) (a,b)).1.toNat=(a.toNat+sumN l)%2^64) ∧
 ((l.foldl (λ(s:UInt64×UInt64) x=>(s.1+x,s.2|||cry s.1 x)) (a,b)).2=0↔b=0∧a.toNat+sumN l<2^64):=by
 induction l with
 | nil=>intro a b;have:=a.toNat_lt;simp [sumN];omega
 | cons x l ih=>
  intro a b;have ha:=a.toNat_lt;have hx:=x.toNat_lt;obtain ⟨h1,h2⟩:=ih (a+x) (b|||cry a x);rw [List.foldl_cons];dsimp only;rw [h1,h2,or_zero,sumN_cons];have e:(a+x).toNat=(a.toNat+x.toNat)%2^64:=UInt64.toNat_add a x
  constructor
  ·rw [e];omega
  ·unfold cry
   by_cases hc:18446744073709551616≤a.toNat+x.toNat
   ·rw [if_pos hc]
    constructor
    ·rintro ⟨⟨_,h⟩,_⟩;exact absurd h (by decide)
    ·rintro ⟨_,h⟩;omega
   ·rw [if_neg hc,e]
    constructor
    ·rintro ⟨⟨h,_⟩,k⟩;exact ⟨h,by omega⟩
    ·rintro ⟨h,k⟩;exact ⟨⟨h,rfl⟩,by omega⟩
def totN (h:T_api_Hist):Nat:=h.Zero.toNat+sumN h.Pos.Counts+sumN h.Neg.Counts
def totE (h:T_api_Hist):UInt64×Bool:=if totN h<2^64 then (UInt64.ofNat (totN h),true) else (0,false)
theorem Total_eq (h:T_api_Hist) (h1:h.Pos.Counts.length≤1000000) (h2:h.Neg.Counts.length≤1000000):m_hist_Total h=some (totE h):=by
 have hL2:∀ (z:T_api_Side) (j:UInt64→UInt64→Option (UInt64×Bool)) (a b:UInt64),z.Counts.length≤1000000→m_hist_Total_L2 z j fuel a b 0=j (z.Counts.foldl (λ(s:UInt64×UInt64) x=>(s.1+x,s.2|||cry s.1 x)) (a,b)).1 (z.Counts.foldl (λ(s:UInt64×UInt64) x=>(s.1+x,s.2|||cry s.1 x)) (a,b)).2:=by
  intro z j a b h;rw [m_hist_Total_L2_scan _ _ _ _ (by omega),scanL_fold (λ(s:UInt64×UInt64) x=>(s.1+x,s.2|||cry s.1 x)) (λi x s k _=>by rw [bndS])]
 unfold m_hist_Total m_hist_sides;rw [bndS,jn_eq];obtain ⟨m,hm⟩:=fuelS 3 (by omega)
 rw [show m_hist_Total_L1 { a0:=h.Pos,a1:=h.Neg } _ fuel _ _ _=m_hist_Total_L1 { a0:=h.Pos,a1:=h.Neg } _ (m+3) _ _ _ by rw [← hm],m_hist_Total_L1,if_pos (by omega),show idx [h.Pos,h.Neg] 0=some h.Pos from rfl,bndS,jn_eq,hL2 _ _ _ _ h1,W64_id (by omega) (by omega),show (0:Int)+1=1 from rfl,
  m_hist_Total_L1,if_pos (by omega),show idx [h.Pos,h.Neg] 1=some h.Neg from rfl,bndS,jn_eq,hL2 _ _ _ _ h2,W64_id (by omega) (by omega),show (1:Int)+1=2 from rfl,m_hist_Total_L1,if_neg (by omega)]
 obtain ⟨p1,p2⟩:=tot_fold h.Pos.Counts h.Zero 0;generalize h.Pos.Counts.foldl (λ(s:UInt64×UInt64) x=>(s.1+x,s.2|||cry s.1 x)) (h.Zero,0)=P at *;obtain ⟨q1,q2⟩:=tot_fold h.Neg.Counts P.1 P.2;generalize h.Neg.Counts.foldl (λ(s:UInt64×UInt64) x=>(s.1+x,s.2|||cry s.1 x)) (P.1,P.2)=Q at *;unfold totE totN
 by_cases hq:Q.2=0
 ·obtain ⟨a1,a2⟩:=q2.1 hq
  obtain ⟨_,a3⟩:=p2.1 a1;rw [if_neg (by rw [hq];decide),if_pos (by omega)]
  have:Q.1=UInt64.ofNat (h.Zero.toNat+sumN h.Pos.Counts+sumN h.Neg.Counts):=by
   apply UInt64.toNat_inj.1
   rw [q1,ofNat_nat (by omega)];omega
  rw [this]
 ·have hq':Q.2.toNat≠0:=λh=>hq (UInt64.toNat_inj.1 h)
  rw [if_pos (by omega),if_neg];intro h
  apply hq
  rw [q2];exact ⟨p2.2 ⟨rfl,by omega⟩,by omega⟩
theorem rsum_eq (y:UInt64) (l:List UInt64) (hl:l.length≤1000000):m_limnographref08_sum y l=some (if y.toNat+sumN l<2^64 then (UInt64.ofNat (y.toNat+sumN l),true) else (0,false)):=by
 unfold m_limnographref08_sum;rw [jn_eq,m_limnographref08_sum_L1_scan _ _ _ (by omega),scanL_pre (λ_ (q:List UInt64) (y:UInt64)=>some (if y.toNat+sumN q<2^64 then (UInt64.ofNat (y.toNat+sumN q),true) else (0,false)))]
 ·intro s
  have:=s.toNat_lt;rw [if_pos (by simp [sumN];omega)];simp [sumN]
 ·intro p x q s k _ hk
  have hs:=s.toNat_lt;have hx:=x.toNat_lt
  have e:((18446744073709551615:UInt64)-s).toNat=18446744073709551615-s.toNat:=by
   rw [UInt64.toNat_sub_of_le _ _ (by rw [UInt64.le_iff_toNat_le];show s.toNat≤18446744073709551615;omega)];rfl
  rw [bndS,bndS,e,sumN_cons]
  by_cases hc:(x.toNat:Int)>((18446744073709551615-s.toNat:Nat):Int)
  ·rw [if_pos hc,if_neg (by omega)]
  ·rw [if_neg hc,hk,show (s+x).toNat=s.toNat+x.toNat by rw [UInt64.toNat_add];omega,Nat.add_assoc]
theorem rTotal_eq (h:T_api_Hist) (h1:h.Pos.Counts.length≤1000000) (h2:h.Neg.Counts.length≤1000000):m_limnographref08_Total h=some (totE h):=by
 unfold m_limnographref08_Total totE totN;rw [rsum_eq _ _ h1,bndS]
 by_cases hp:h.Zero.toNat+sumN h.Pos.Counts<2^64
 ·rw [if_pos hp,if_neg (by simp),rsum_eq _ _ h2,bndS,ofNat_nat hp]
 ·rw [if_neg hp,if_pos (by simp),if_neg (by omega)]
def sdE (s:T_api_Side):Int:=
 if s.Counts.length>160 then 4
 else if s.Counts=[] then (if s.Offset≠0 then 3 else 0)
 else if s.Counts.headD 0=0∨s.Counts.getLastD 0=0 then 3
 else if s.Offset < -1073741824∨s.Offset+s.Counts.length-1>1073741824 then 1 else 0
theorem u64z' (x:UInt64):((x.toNat:Nat):Int)=0↔x=0:=by
 constructor
 ·intro h;apply UInt64.toNat_inj.1;show x.toNat=0;omega
 ·rintro rfl;rfl
theorem ends {l:List UInt64} (h:l≠[]) (hl:l.length≤1000000):idx l 0=some (l.headD 0)∧idx l (W64 ((l.length:Int)-1))=some (l.getLastD 0):=by
 have h0:0<l.length:=List.length_pos_iff.2 h
 constructor
 ·cases l with
  | nil=>exact absurd rfl h
  | cons a t=>rfl
 ·rw [W64_id (by omega) (by omega),show (l.length:Int)-1=((l.length-1:Nat):Int) by omega,idx_nat,← List.getLast?_eq_getElem?,List.getLast?_eq_some_getLast h]
  cases l with
  | nil=>exact absurd rfl h
  | cons a t=>rw [List.getLastD_cons,List.getLast_eq_getLastD]
theorem scheck_eq (s:T_api_Side):m_hist_check s=some (sdE s):=by
 unfold m_hist_check sdE
 by_cases h1:s.Counts.length>160
 ·rw [if_pos (by omega),if_pos h1]
 rw [if_neg (by omega),if_neg h1]
 by_cases h2:s.Counts=[]
 ·rw [if_pos h2,h2]
  by_cases h3:s.Offset≠0
  ·rw [if_pos ⟨rfl,h3⟩,if_pos h3]
  ·rw [if_neg (λh=>h3 h.2),if_pos (by rfl),if_neg h3]
 have h0:0<s.Counts.length:=List.length_pos_iff.2 h2;obtain ⟨e1,e2⟩:=ends h2 (by omega);rw [if_neg (by omega),if_neg (by omega),if_neg h2,e1,bndS];simp only [jn_eq]
 by_cases h3:s.Counts.headD 0=0
 ·rw [if_pos ((u64z' _).2 h3),if_pos (by trivial),if_pos (Or.inl h3)]
 rw [if_neg (λh=>h3 ((u64z' _).1 h)),e2,bndS]
 by_cases h4:s.Counts.getLastD 0=0
 ·rw [if_pos (decide_eq_true ((u64z' _).2 h4)),if_pos (Or.inr h4)]
 rw [if_neg (by rw [decide_eq_false (λh=>h4 ((u64z' _).1 h))];decide),if_neg (show ¬(s.Counts.headD 0=0∨s.Counts.getLastD 0=0) from λh=>h.elim h3 h4),W64_id (z:=(s.Counts.length:Int)-1) (by omega) (by omega),W64_id (by omega) (by omega)]
 by_cases h5:s.Offset < -1073741824
 ·rw [if_pos h5,if_pos (by trivial),if_pos (Or.inl h5)]
 rw [if_neg h5]
 by_cases h6:s.Offset>1073741824-((s.Counts.length:Int)-1)
 ·rw [if_pos (decide_eq_true h6),if_pos (by omega)]
 ·rw [if_neg (by rw [decide_eq_false h6];decide),if_neg (by omega)]
theorem rside_eq8 (s:T_api_Side):m_limnographref08_side s=some (sdE s):=by
 unfold m_limnographref08_side sdE
 by_cases h1:s.Counts.length>160
 ·rw [if_pos (by omega),if_pos h1]
 rw [if_neg (by omega),if_neg h1]
 by_cases h2:s.Counts=[]
 ·rw [if_pos h2,h2,if_pos (by rfl)]
  by_cases h3:s.Offset≠0
  ·rw [if_pos h3,if_pos h3]
  ·rw [if_neg h3,if_neg h3]
 have h0:0<s.Counts.length:=List.length_pos_iff.2 h2;obtain ⟨e1,e2⟩:=ends h2 (by omega);rw [if_neg (by omega),if_neg h2,e1,bndS];simp only [jn_eq]
 by_cases h3:s.Counts.headD 0=0
 ·rw [if_pos ((u64z' _).2 h3),if_pos (by trivial),if_pos (Or.inl h3)]
 rw [if_neg (λh=>h3 ((u64z' _).1 h)),e2,bndS]
 by_cases h4:s.Counts.getLastD 0=0
 ·rw [if_pos (decide_eq_true ((u64z' _).2 h4)),if_pos (Or.inr h4)]
 rw [if_neg (by rw [decide_eq_false (λh=>h4 ((u64z' _).1 h))];decide),if_neg (show ¬(s.Counts.headD 0=0∨s.Counts.getLastD 0=0) from λh=>h.elim h3 h4)]
 by_cases h5:s.Offset < -1073741824∨s.Offset>1073741824
 ·rw [if_pos h5,if_pos (by trivial),if_pos (by omega)]
 rw [if_neg h5,W64_id (z:=s.Offset+(s.Counts.length:Int)) (by omega) (by omega),W64_id (by omega) (by omega)]
 by_cases h6:s.Offset+(s.Counts.length:Int)-1>1073741824
 ·rw [if_pos (decide_eq_true h6),if_pos (Or.inr h6)]
 ·rw [if_neg (by rw [decide_eq_false h6];decide),if_neg (by omega)]
def hcE (h:T_api_Hist):Int:=
 if h.Scale < -10∨h.Scale>20 then 1 else if sdE h.Pos≠0 then sdE h.Pos else if sdE h.Neg≠0 then sdE h.Neg else if totN h<2^64 then 0 else 4
theorem Check8_eq (h:T_api_Hist) (h1:h.Pos.Counts.length≤1000000) (h2:h.Neg.Counts.length≤1000000):m_limnographref08_Check h=some (hcE h):=by
 unfold m_limnographref08_Check hcE
 by_cases hs:h.Scale < -10∨h.Scale>20
 ·rw [if_pos hs,if_pos hs]
 rw [if_neg hs,if_neg hs,rside_eq8,bndS]
 by_cases c1:sdE h.Pos≠0
 ·rw [if_pos c1,if_pos c1]
 rw [if_neg c1,if_neg c1,rside_eq8,bndS]
 by_cases c2:sdE h.Neg≠0
 ·rw [if_pos c2,if_pos c2]
 rw [if_neg c2,if_neg c2,rTotal_eq h h1 h2,bndS];unfold totE
 by_cases ht:totN h<2^64
 ·rw [if_pos ht,if_pos ht,if_neg (by simp)]
 ·rw [if_neg ht,if_neg ht,if_pos (by simp)]
theorem HCheck_eq (h:T_api_Hist) (h1:h.Pos.Counts.length≤1000000) (h2:h.Neg.Counts.length≤1000000):m_hist_Check h=some (hcE h):=by
 unfold m_hist_Check m_hist_sides hcE
 by_cases hs:h.Scale < -10∨h.Scale>20
 ·rw [if_pos hs,if_pos hs]
 rw [if_neg hs,if_neg hs,bndS,jn_eq];obtain ⟨m,hm⟩:=fuelS 3 (by omega);rw [hm,m_hist_Check_L1,if_pos (by omega),show idx [h.Pos,h.Neg] 0=some h.Pos from rfl,bndS,scheck_eq,bndS]
 by_cases c1:sdE h.Pos≠0
 ·rw [if_pos c1,if_pos c1]
 rw [if_neg c1,if_neg c1,W64_id (by omega) (by omega),show (0:Int)+1=1 from rfl,m_hist_Check_L1,if_pos (by omega),show idx [h.Pos,h.Neg] 1=some h.Neg from rfl,bndS,scheck_eq,bndS]
 by_cases c2:sdE h.Neg≠0
 ·rw [if_pos c2,if_pos c2]
 rw [if_neg c2,if_neg c2,W64_id (by omega) (by omega),show (1:Int)+1=2 from rfl,m_hist_Check_L1,if_neg (by omega),Total_eq h h1 h2,bndS];unfold totE
 by_cases ht:totN h<2^64
 ·rw [if_pos ht,if_pos ht,if_neg (by simp)]
 ·rw [if_neg ht,if_neg ht,if_pos (by simp)]
def alike (a b:T_api_Hist):Prop:=a.Scale=b.Scale∧a.Pos.Offset=b.Pos.Offset∧a.Neg.Offset=b.Neg.Offset∧a.Pos.Counts.length=b.Pos.Counts.length∧a.Neg.Counts.length=b.Neg.Counts.length
instance (a b:T_api_Hist):Decidable (alike a b):=by unfold alike;exact inferInstance
def allC (h:T_api_Hist):List UInt64:=h.Zero::(h.Pos.Counts++h.Neg.Counts)
def smS (l:List UInt64):List Bool:=l.flatMap λc=>smB c.toNat
def dfS (l m:List UInt64):List Bool:=(l.zip m).flatMap λc=>smB (zig (sI (c.1-c.2))).toNat
def shB (s:T_api_Side):List Bool:=rowB s.Counts.length 8++if s.Counts.length>0 then smB (zig s.Offset).toNat else []
def fullH (h:T_api_Hist):List Bool:=false::(rowB (h.Scale+10).toNat 5++(shB h.Pos++(shB h.Neg++smS (allC h))))
def hB (n:Nat) (last h:T_api_Hist):List Bool:=if 0<n∧alike last h then true::dfS (allC h) (allC last) else fullH h
abbrev h00:T_api_Hist:=⟨0,0,⟨0,[]⟩,⟨0,[]⟩⟩
abbrev Txt:=List UInt8
abbrev Pr:=T_api_Pair
def small (c:UInt8):Bool:=decide (97≤c.toNat)&&decide (c.toNat≤122)
def nmC (c:UInt8):Bool:=small c||(decide (48≤c.toNat)&&decide (c.toNat≤57))||decide (c.toNat=95)||decide (c.toNat=46)
def nameB (s:Txt):Bool:=decide (s.length≤32)&&match s with | []=>false | c::t=>small c&&t.all nmC
def valC (c:UInt8):Bool:=decide (33≤c.toNat)&&decide (c.toNat≤126)&&decide (c.toNat≠61)&&decide (c.toNat≠59)&&decide (c.toNat≠44)
def valB (s:Txt):Bool:=decide (s.length≤32)&&decide (1≤s.length)&&s.all valC
theorem small_eq (c:UInt8):m_label_small c=some (small c):=by unfold m_label_small small;rw [← Bool.decide_and];congr 1;apply decide_eq_decide.2;omega
theorem isName_eq (s:Txt):m_label_isName s=some (nameB s):=by
 unfold m_label_isName;simp only [jn_eq]
 split
 ·rename_i h;rcases h with rfl | h<;>simp [nameB];omega
 ·rename_i h
  match s,h with
  | c::t,h=>
   simp only [not_or] at h;have hb:=h.2;rw [idx0,bndS,small_eq,bndS,len_some (by omega),bndS,m_label_isName_L1_scan _ _ (by omega),scanL_all nmC (some false)]
   ·have:(c::t).length≤32:=by omega
    have hn:small c=true→nmC c=true:=λh=>by simp [nmC,h]
    unfold nameB
    cases hc:small c<;>simp_all
    split<;>simp_all
   ·intro i x k _
    rw [bndS,small_eq,bndS]
    refine ite_neg ?_ (λ_=>rfl) λ_=>rfl
    simp [nmC];grind
theorem isValue_eq (s:Txt):m_label_isValue s=some (valB s):=by
 unfold m_label_isValue;simp only [jn_eq]
 split
 ·rename_i h;rcases h with rfl | h<;>simp [valB];omega
 ·rename_i h
  simp only [not_or] at h;have hb:=h.2;have:=List.length_pos_iff.2 h.1;rw [len_some (by omega),bndS,m_label_isValue_L1_scan _ _ (by omega),scanL_all valC (some false)]
  ·unfold valB;split<;>simp_all<;>omega
  ·intro i x k _
   simp only [bndS,jn_eq,valC]
   grind
theorem refName_eq (s:Txt):m_limnographref11_Name s=some (nameB s):=by
 unfold m_limnographref11_Name;simp only [jn_eq]
 split
 ·rename_i h
  match s with
  | []=>rfl
  | c::t=>unfold nameB;simp at h ⊢;grind
 ·rename_i h
  rw [m_limnographref11_Name_L1_scan _ _ (by omega)]
  match s with
  | []=>simp at h
  | c::t=>
   unfold scanL;simp only [scan_cons,bndS];rw [scan_all nmC (some false)]
   ·unfold nameB small;simp at h ⊢;grind
   ·intro i x k hi _
    refine ite_neg ?_ (λ_=>rfl) λ_=>rfl
    simp [nmC,small];omega
theorem refValue_eq (s:Txt):m_limnographref11_Value s=some (valB s):=by
 unfold m_limnographref11_Value;simp only [jn_eq]
 split
 ·rename_i h;unfold valB;simp;omega
 ·rename_i h
  rw [m_limnographref11_Value_L1_scan _ _ (by omega),scanL_all valC (some false)]
  ·unfold valB;split<;>simp_all<;>omega
  ·intro i x k _
   simp only [bndS,valC]
   grind
def chk:List Pr→List Pr→Int
 | _,[]=>0
 | p,a::l=>if (nameB a.Key&&valB a.Val)=true then (if p.any (λb=>decide (b.Key=a.Key))=true then 8 else chk (p++[a]) l) else 3
def check (name:Txt) (l:List Pr):Int:=if nameB name=true then (if l.length>4 then 4 else chk [] l) else 3
theorem contains_eq (l:List Pr) (a:Pr) (h:l.length<4611686018427387904):m_slices_ContainsFunc_api_Pair_api_Pair_s2 l a=some (l.any λb=>decide (b.Key=a.Key)):=by
 unfold m_slices_ContainsFunc_api_Pair_api_Pair_s2 m_slices_IndexFunc_api_Pair_api_Pair_s1;rw [jn_eq,m_slices_IndexFunc_api_Pair_api_Pair_s1_L1_scan _ _ _ h];rw [scanL_pre (λp q _=>some (if q.any (λb=>decide (b.Key=a.Key))=true then ((p.length+q.findIdx λb=>decide (b.Key=a.Key):Nat):Int) else -1)) ?_ ?_]
 ·cases h:l.any (λb=>decide (b.Key=a.Key))<;>simp [bndS]
 ·intro s;rfl
 ·intro p x q _ k _ hk
  simp only [bndS,m_label_Check_1,hk]
  by_cases hx:x.Key=a.Key
  ·simp [hx,List.findIdx_cons]
  ·simp [hx,List.findIdx_cons];congr 1;omega
theorem check_eq (name:Txt) (l:List Pr):m_label_Check name l=some (check name l):=by
 unfold m_label_Check check;rw [isName_eq,bndS]
 by_cases hn:nameB name=true
 ·rw [hn,if_neg (by simp),if_pos rfl]
  by_cases hl:l.length>4
  ·rw [if_pos (by omega),if_pos hl]
  rw [if_neg (by omega),if_neg hl,jn_eq,m_label_Check_L1_scan _ _ (by omega)];refine scanL_pre (λp q _=>some (chk p q)) (λ_=>rfl) ?_;intro p x q _ k hp hk;subst hp;simp only [bndS,isName_eq,isValue_eq,jn_eq,cut_mid,contains_eq p x (by simp at hl;omega),hk,chk]
  cases nameB x.Key<;>cases valB x.Val<;>simp
  split<;>rfl
 ·simp at hn
  rw [hn];rfl
def insR (a:Pr):List Pr→List Pr
 | []=>[a]
 | b::l=>if Op.bytesLess a.Key b.Key=true then b::insR a l else a::b::l
def srt (l:List Pr):List Pr:=(l.foldl (λacc a=>insR a acc) []).reverse
theorem refL2c (l:List Pr) (x:Pr) (y:Nat) (hx:idx l (y:Int)=some x) (j:Unit→Option Int):∀ (b a q:List Pr) (n:Nat),l=a++b++q→y=(a++b).length→b.length<n→l.length<4611686018427387904 →
 m_limnographref11_Check_L2 l y j n (a.length:Int)=if b.any (λb=>decide (b.Key=x.Key))=true then some 8 else j ()
 | [],a,q,n,hl,hy,h,_=>by
  obtain ⟨n,rfl⟩:∃ m,n=m+1:=⟨n-1,by omega⟩;rw [m_limnographref11_Check_L2,if_neg (by simp at hy;omega)];rfl
 | z::b,a,q,n,hl,hy,h,hb=>by
  obtain ⟨n,rfl⟩:∃ m,n=m+1:=⟨n-1,by omega⟩;simp only [List.length_cons] at h
  have hz:idx l (a.length:Int)=some z:=by rw [hl,List.append_assoc];exact idx_mid _ _ _
  have ih:=refL2c l x y hx j b (a++[z]) q n (by rw [hl];simp) (by rw [hy];simp) (by omega) hb;rw [m_limnographref11_Check_L2,if_pos (by rw [hy];simp;omega),hz,bndS,hx,bndS,W64_up (by simp [hl] at hb;omega)];rw [List.length_append,List.length_singleton] at ih;rw [ih,List.any_cons]
  by_cases hk:z.Key=x.Key<;>simp [hk]
theorem refCheck_eq (name:Txt) (l:List Pr):m_limnographref11_Check name l=some (check name l):=by
 unfold m_limnographref11_Check check;rw [refName_eq,bndS]
 by_cases hn:nameB name=true
 ·rw [hn,if_neg (by simp),if_pos rfl]
  by_cases hl:l.length>4
  ·rw [if_pos (by omega),if_pos hl]
  rw [if_neg (by omega),if_neg hl,jn_eq,m_limnographref11_Check_L1_scan _ _ (by omega)];refine scanL_pre (λp q _=>some (chk p q)) (λ_=>rfl) ?_;intro p x q _ k hp hk
  have h2:=λj=>refL2c l x p.length (by rw [← hp];exact idx_mid _ _ _) j p [] (x::q) fuel (by simpa using hp.symm) (by simp) (by unfold fuel;simp [← hp] at hl;omega) (by omega)
  simp only [List.length_nil,Int.natCast_zero,Int.cast_ofNat_Int] at h2;simp only [bndS,refName_eq,refValue_eq,jn_eq,h2,hk,chk]
  cases nameB x.Key<;>cases valB x.Val<;>simp
  split<;>rfl
 ·simp at hn
  rw [hn];rfl
def at1 (a:Pr):Txt:=[59]++a.Key++[61]++a.Val
def texts (l:List Pr):Txt:=l.flatMap at1
def cut1 (c:UInt8):Txt→Txt×Txt×Bool
 | []=>([],[],false)
 | x::s=>if x=c then ([],s,true) else (x::(cut1 c s).1,(cut1 c s).2)
theorem cut1_no {c:UInt8}:∀ {s:Txt},(cut1 c s).2.2=false→cut1 c s=(s,[],false)
 | [],_=>rfl
 | x::s,h=>by
  unfold cut1 at h ⊢
  split at h
  ·cases h
  ·rename_i hx;rw [if_neg hx,cut1_no h]
theorem cut1_yes {c:UInt8}:∀ {s:Txt},(cut1 c s).2.2=true→s=(cut1 c s).1++c::(cut1 c s).2.1
 | [],h=>by cases h
 | x::s,h=>by
  unfold cut1 at h ⊢
  split at h
  ·rename_i hx;rw [if_pos hx,hx];rfl
  ·rename_i hx;rw [if_neg hx];have:=cut1_yes h;show x::s=x::((cut1 c s).1++c::(cut1 c s).2.1);rw [← this]
theorem cut1_len {c:UInt8}:∀ {s:Txt},(cut1 c s).1.length+(cut1 c s).2.1.length≤s.length
 | []=>by simp [cut1]
 | x::s=>by
  unfold cut1
  split
  ·simp
  ·have:=cut1_len (c:=c) (s:=s);simp;omega
theorem indexByte_cut (c:UInt8):∀ s:Txt,Lib.indexByte s c=if (cut1 c s).2.2=true then ((cut1 c s).1.length:Int) else -1
 | []=>rfl
 | x::s=>by
  unfold Lib.indexByte cut1
  by_cases hx:x=c
  ·simp [hx]
  ·rw [indexByte_cut c s]
   simp only [hx,beq_iff_eq,if_false]
   split
   ·rw [if_neg (by omega),List.length_cons];simp
   ·simp
theorem strCut_eq (s:Txt) (c:UInt8) (h:s.length<4611686018427387904):m_strings_Cut s [c]=some (cut1 c s):=by
 have key:m_internal_stringslite_Index s [c]=some (if (cut1 c s).2.2=true then ((cut1 c s).1.length:Int) else -1):=by
  unfold m_internal_stringslite_Index
  by_cases hs:[c]=s
  ·rw [if_pos (.inr hs),← hs];simp [cut1]
  ·rw [if_neg (by simp [hs]),if_pos (show (([c]:Txt).length:Int)=1 from rfl),idx0,bndS,m_internal_stringslite_IndexByte,bndS,indexByte_cut]
 unfold m_strings_Cut m_internal_stringslite_Cut;rw [key,bndS]
 by_cases hf:(cut1 c s).2.2=true
 ·have h1:=cut1_yes hf
  have hl:=congrArg List.length h1;simp at hl
  have c1:cutL s 0 ((cut1 c s).1.length:Int)=some (cut1 c s).1:=by
   conv=>lhs;arg 1;rw [h1]
   exact cut_mid _ _
  have c2:cutL s (((cut1 c s).1.length:Int)+1) (s.length:Nat)=some (cut1 c s).2.1:=by
   have:=cut_end ((cut1 c s).1++[c]) (cut1 c s).2.1;rw [List.append_assoc,List.singleton_append,← h1] at this;simpa using this
  rw [if_pos hf,if_pos (by omega),c1,bndS];show ((cutL s (W64 (((cut1 c s).1.length:Int)+1)) (s.length:Nat)).bind _).bind _=_;rw [W64_id (by omega) (by omega),c2,bndS,bndS];simp [← hf]
 ·have h1:=cut1_no (by simpa using hf:(cut1 c s).2.2=false)
  rw [if_neg hf,if_neg (by omega),bndS,h1]
def pairOf (s:Txt):Option Pr:=if ((cut1 61 s).2.2&&nameB (cut1 61 s).1&&valB (cut1 61 s).2.1)=true then some ⟨(cut1 61 s).1,(cut1 61 s).2.1⟩ else none
theorem pair_eq (s:Txt) (h:s.length<4611686018427387904):m_label_pair s=some (match pairOf s with | some a=>(a,0) | none=>(⟨[],[]⟩,3)):=by
 unfold m_label_pair pairOf;rw [strCut_eq s _ h,bndS];simp only [jn_eq,isName_eq,isValue_eq,bndS]
 cases (cut1 61 s).2.2<;>cases nameB (cut1 61 s).1<;>cases valB (cut1 61 s).2.1<;>simp
def foll (l:List Pr) (key:Txt):Int:=if l.any (λb=>decide (b.Key=key))=true then 8 else match l.getLast? with | some b=>if Op.bytesLess key b.Key=true then 9 else 0 | none=>0
theorem follows_eq (l:List Pr) (key:Txt) (h0:l≠[]) (h:l.length<4611686018427387904):m_label_follows l key=some (foll l key):=by
 unfold m_label_follows foll;rw [jn_eq,m_label_follows_L1_scan _ _ _ h,scanL_all (λb=>!decide (b.Key=key)) (some 8)]
 ·obtain ⟨b,hb⟩:∃ b,l.getLast?=some b:=⟨_,List.getLast?_eq_some_getLast h0⟩
  have hp:=List.length_pos_iff.2 h0
  have hi:idx l (W64 ((l.length:Int)-1))=some b:=by
   rw [W64_id (by omega) (by omega),show (l.length:Int)-1=((l.length-1:Nat):Int) by omega,idx_nat,← List.getLast?_eq_getElem?];exact hb
  rw [hi,bndS,hb]
  by_cases ha:l.any (λb=>decide (b.Key=key))=true
  ·rw [if_pos ha,if_neg]
   simp at ha ⊢;exact ha
  ·rw [if_neg ha,if_pos]
   ·show (if _ then _ else _)=some (if _ then _ else _)
    split<;>rfl
   ·simp at ha ⊢;exact ha
 ·intro i x k _
  rw [bndS]
  by_cases hx:x.Key=key<;>simp [hx]
def spl:Txt→Txt×List Txt
 | []=>([],[])
 | x::s=>if x=59 then ([],(spl s).1::(spl s).2) else (x::(spl s).1,(spl s).2)
def partsOf (more:Bool) (rest:Txt):List Txt:=if more=true then (spl rest).1::(spl rest).2 else []
theorem spl_cut:∀ s,(cut1 59 s).1=(spl s).1∧partsOf (cut1 59 s).2.2 (cut1 59 s).2.1=(spl s).2
 | []=>⟨rfl,rfl⟩
 | x::s=>by
  unfold cut1 spl
  by_cases hx:x=59
  ·rw [if_pos hx,if_pos hx];exact ⟨rfl,rfl⟩
  ·rw [if_neg hx,if_neg hx];have:=spl_cut s;exact ⟨by simp [this.1],this.2⟩
theorem spl_join:∀ s,s=(spl s).1++(spl s).2.flatMap (λp=>59::p)
 | []=>rfl
 | x::s=>by
  unfold spl
  by_cases hx:x=59
  ·rw [if_pos hx];show x::s=[]++(59::(spl s).1++(spl s).2.flatMap (λp=>59::p));rw [hx,List.nil_append,List.cons_append,← spl_join s]
  ·rw [if_neg hx];show x::s=x::((spl s).1++_);rw [← spl_join s]
abbrev Res:=Txt×List Pr×Int×Int
def pgo (name:Txt):List Pr→Int→List Txt→Res
 | l,_,[]=>(name,l,0,0)
 | l,at_,p::ps=>
  if l.length=4 then ([],[],at_,4) else
  match pairOf p with
  | none=>([],[],at_,3)
  | some a=>if foll l a.Key=0 then pgo name (l++[a]) (at_+p.length+1) ps else ([],[],at_,foll l a.Key)
def parse (s:Txt):Res:=if nameB (spl s).1=true then pgo (spl s).1 [] ((spl s).1.length+1) (spl s).2 else ([],[],0,3)
theorem parseL (name:Txt) (j:List Pr→Option Res) (hj:∀ l,j l=some (name,l,0,0)):∀ (n:Nat) (l:List Pr) (at_:Int) (rest:Txt) (more:Bool),(if more=true then 1+rest.length else 0)<n→l.length≤4→0≤at_→at_+rest.length≤1000000 →
 m_label_Parse_L1 j n l at_ rest more=some (pgo name l at_ (partsOf more rest)):=by
 intro n
 induction n with
 | zero=>intro l at_ rest more h;omega
 | succ n ih=>
  intro l at_ rest more h hl h0 h1;rw [m_label_Parse_L1]
  cases more with
  | false=>rw [if_neg (by simp),hj];rfl
  | true=>
   rw [if_pos rfl] at h ⊢;obtain ⟨e1,e2⟩:=spl_cut rest;have hcl:=cut1_len (c:=59) (s:=rest)
   have hpo:partsOf true rest=(cut1 59 rest).1::partsOf (cut1 59 rest).2.2 (cut1 59 rest).2.1:=by rw [e1,e2];rfl
   rw [strCut_eq rest _ (by omega),bndS,pair_eq _ (by omega),bndS,hpo,pgo];simp only [jn_eq]
   have hmore:(if (cut1 59 rest).2.2=true then 1+(cut1 59 rest).2.1.length else 0)<n∧((cut1 59 rest).2.2=true→(cut1 59 rest).1.length+(cut1 59 rest).2.1.length+1=rest.length):=by
    by_cases hm:(cut1 59 rest).2.2=true
    ·have hc:=congrArg List.length (cut1_yes hm)
     simp at hc;rw [if_pos hm];omega
    ·rw [if_neg hm];exact ⟨by omega,λh=>absurd h hm⟩
   generalize (cut1 59 rest).1=pt at *;generalize (cut1 59 rest).2.1=rst at *;generalize (cut1 59 rest).2.2=mr at *
   by_cases h4:l.length=4
   ·rw [if_pos (by omega),if_pos h4,if_neg (by simp),if_pos (by simp)]
   ·rw [if_neg (by omega),if_neg h4]
    cases hp:pairOf pt with
    | none=>simp
    | some a=>
     have hnext:m_label_Parse_L1 j n (l++[a]) (W64 (at_+W64 ((pt.length:Int)+1))) rst mr=some (pgo name (l++[a]) (at_+pt.length+1) (partsOf mr rst)):=by
      rw [W64_id (z:=(pt.length:Int)+1) (by omega) (by omega),W64_id (by omega) (by omega),← Int.add_assoc]
      cases mr with
      | false=>
       obtain ⟨m,rfl⟩:∃ m,n=m+1:=⟨n-1,by omega⟩;rw [m_label_Parse_L1,if_neg (by simp),hj];rfl
      | true=>exact ih _ _ _ _ hmore.1 (by simp;omega) (by omega) (by have:=hmore.2 rfl;omega)
     have hap:appL l [(⟨a.Key,a.Val⟩:Pr)]=some (l++[a]):=app_some (by simp;omega);dsimp only
     by_cases hl0:l=[]
     ·subst hl0
      rw [if_neg (by simp),if_neg (by simp),hap,bndS,hnext,if_pos (show foll [] a.Key=0 from rfl)]
     ·have:=List.length_pos_iff.2 hl0
      rw [if_pos ⟨rfl,by omega⟩,follows_eq l a.Key hl0 (by omega),bndS]
      by_cases hf:foll l a.Key=0
      ·rw [if_neg (by omega),hap,bndS,hnext,if_pos hf]
      ·rw [if_pos hf,if_neg hf]
theorem spl_len (s:Txt):(spl s).1.length≤s.length:=by have:=congrArg List.length (spl_join s);simp at this;omega
theorem parse_eq (s:Txt) (h:s.length≤100000):m_label_Parse s=some (parse s):=by
 unfold m_label_Parse parse;obtain ⟨e1,e2⟩:=spl_cut s;have hcl:=cut1_len (c:=59) (s:=s);rw [strCut_eq s _ (by omega),bndS,isName_eq,bndS,e1];have hsl:=spl_len s
 by_cases hn:nameB (spl s).1=true
 ·rw [hn,if_neg (by simp),if_pos rfl,jn_eq,← e2]
  rw [W64_id (by omega) (by omega)];exact parseL _ _ (λl=>rfl) _ _ _ _ _ (by unfold fuel;split<;>omega) (by simp) (by omega) (by rw [← e1];omega)
 ·simp at hn
  rw [hn];rfl
theorem find_loop (c:UInt8) (j:Int→Option Int):∀ (p a r:Txt) (n:Nat),(∀ x∈p,x≠c)→(r=[]∨∃ t,r=c::t)→p.length<n→(a++p++r).length<4611686018427387904 →
 m_limnographref11_find_L1 (a++p++r) c j n (a.length:Int)=j ((a.length+p.length:Nat):Int)
 | [],a,r,n,hp,hr,h,hb=>by
  obtain ⟨n,rfl⟩:∃ m,n=m+1:=⟨n-1,by omega⟩;rw [m_limnographref11_find_L1,jn_eq]
  rcases hr with rfl|⟨t,rfl⟩
  ·rw [if_neg (by simp)];simp
  ·rw [if_pos (by simp;omega),List.append_nil,idx_mid,bndS];simp
 | x::p,a,r,n,hp,hr,h,hb=>by
  obtain ⟨n,rfl⟩:∃ m,n=m+1:=⟨n-1,by omega⟩;have ih:=find_loop c j p (a++[x]) r n (λy hy=>hp y (by simp [hy])) hr (by simp at h;omega) (by simpa using hb);have hx:=hp x (by simp)
  have e:a++x::p++r=a++x::(p++r):=by simp
  have hne:(x.toNat:Int)≠(c.toNat:Int):=λh=>hx (UInt8.toNat_inj.1 (by omega))
  rw [m_limnographref11_find_L1,jn_eq,if_pos (by simp;omega)]
  have e2:a++x::p++r=a++[x]++p++r:=by simp
  rw [show idx (a++x::p++r) (a.length:Int)=some x by rw [e];exact idx_mid _ _ _,bndS];dsimp only;rw [if_pos (by simp [hne]),W64_up (by simp at hb;omega),e2];rw [List.length_append,List.length_singleton] at ih;rw [ih,List.length_cons];congr 2;omega
theorem find_eq (c:UInt8) (p a r:Txt) (hp:∀ x∈p,x≠c) (hr:r=[]∨∃ t,r=c::t) (hb:(a++p++r).length<4611686018427387904) :
 m_limnographref11_find (a++p++r) (a.length:Int) c=some ((a.length+p.length:Nat):Int):=by
 unfold m_limnographref11_find;rw [jn_eq,find_loop c _ p a r _ hp hr (by unfold fuel;simp at hb;omega) hb]
theorem cut1_free {c:UInt8}:∀ {s:Txt},∀ x∈(cut1 c s).1,x≠c
 | [],x,hx=>by cases hx
 | y::s,x,hx=>by
  unfold cut1 at hx
  split at hx
  ·cases hx
  ·rename_i hy
   rcases List.mem_cons.1 hx with rfl|hx
   ·exact hy
   ·exact cut1_free x hx
theorem spl_free:∀ (s:Txt),(∀ x∈(spl s).1,x≠59)∧∀ p∈(spl s).2,∀ x∈p,x≠59
 | []=>⟨λx hx=>(by cases hx),λx hx=>(by cases hx)⟩
 | y::s=>by
  unfold spl;have ih:=spl_free s
  split
  ·refine ⟨λx hx=>(by cases hx),λp hp=>?_⟩
   rcases List.mem_cons.1 hp with rfl|hp
   ·exact ih.1
   ·exact ih.2 p hp
  ·rename_i hy
   refine ⟨λx hx=>?_,ih.2⟩
   rcases List.mem_cons.1 hx with rfl|hx
   ·exact hy
   ·exact ih.1 x hx
def got (r:Res):T_limnographref11_Got:=⟨r.1,r.2.1,r.2.2.1,r.2.2.2⟩
theorem cut1_find (s:Txt) (h:s.length<4611686018427387904):m_limnographref11_find s 0 61=some (((cut1 61 s).1.length:Nat):Int):=by
 by_cases hf:(cut1 61 s).2.2=true
 ·have h1:=cut1_yes hf
  have:=find_eq 61 (cut1 61 s).1 [] (61::(cut1 61 s).2.1) cut1_free (.inr ⟨_,rfl⟩) (by rw [List.nil_append,← h1];exact h);rw [List.nil_append,← h1] at this;simpa using this
 ·have h1:=cut1_no (by simpa using hf:(cut1 61 s).2.2=false)
  have hfr:=cut1_free (c:=61) (s:=s);rw [h1] at hfr ⊢;have:=find_eq 61 s [] [] hfr (.inl rfl) (by simpa using h);simpa using this
theorem refFoll (l:List Pr) (key:Txt) (a:Int) (nm:Txt) (at_ e:Int) (j:Unit→Option T_limnographref11_Got) (h:l.length<4611686018427387904) :
 m_limnographref11_Parse_L2 a ⟨nm,l,at_,e⟩ key j fuel 0=if l.any (λb=>decide (b.Key=key))=true then some ⟨[],[],W64 (a+1),8⟩ else j ():=by
 rw [m_limnographref11_Parse_L2_scan _ _ _ _ h,scanL_all (λb=>!decide (b.Key=key)) (some ⟨[],[],W64 (a+1),8⟩)]
 ·by_cases ha:l.any (λb=>decide (b.Key=key))=true
  ·rw [if_pos ha,if_neg]
   simp at ha ⊢;exact ha
  ·rw [if_neg ha,if_pos]
   simp at ha ⊢;exact ha
 ·intro i x k _
  rw [bndS]
  by_cases hx:x.Key=key<;>simp [hx]
theorem refParseL (s name:Txt) (j:T_limnographref11_Got→Option T_limnographref11_Got) (hj:∀ l,j ⟨name,l,0,0⟩=some ⟨name,l,0,0⟩) (hs:s.length≤1000000):∀ (ps:List Txt) (pre:Txt) (n:Nat) (l:List Pr),s=pre++ps.flatMap (λp=>59::p)→(∀ p∈ps,∀ x∈p,x≠59)→ps.length<n→l.length≤4 →
 m_limnographref11_Parse_L1 s j n (pre.length:Int) ⟨name,l,0,0⟩=some (got (pgo name l ((pre.length:Int)+1) ps))
 | [],pre,n,l,he,hp,h,hl=>by
  obtain ⟨n,rfl⟩:∃ m,n=m+1:=⟨n-1,by omega⟩;rw [m_limnographref11_Parse_L1,if_neg (by rw [he];simp),hj];rfl
 | p::ps,pre,n,l,he,hp,h,hl=>by
  obtain ⟨n,rfl⟩:∃ m,n=m+1:=⟨n-1,by omega⟩;have hlen:=congrArg List.length he;simp only [List.flatMap_cons,List.length_append,List.length_cons] at hlen
  have e1:s=(pre++[59])++p++ps.flatMap (λp=>59::p):=by rw [he];simp
  have hfind:m_limnographref11_find s ((pre.length:Int)+1) 59=some (((pre++[59]++p).length:Nat):Int):=by
   have:=find_eq 59 p (pre++[59]) (ps.flatMap λp=>59::p) (hp p (by simp)) (by cases ps with | nil=>exact .inl rfl | cons q ps=>exact .inr ⟨_,rfl⟩) (by rw [← e1];omega);rw [← e1] at this;rw [show ((pre.length:Int)+1)=((pre++[59]:Txt).length:Nat) by simp,this];simp;omega
  have hcut:cutL s ((pre.length:Int)+1) ((pre++[59]++p).length:Nat)=some p:=by
   rw [cut_some (by omega) (by simp;omega) (by simp;omega)]
   congr 1
   rw [Int.toNat_natCast,e1,List.take_left]
   have:((pre.length:Int)+1).toNat=(pre++[59]).length:=by simp
   rw [this,List.drop_left]
  have ih:=λl' (hl':l'.length≤4)=>refParseL s name j hj hs ps (pre++[59]++p) n l' e1 (λq hq=>hp q (by simp [hq])) (by simp at h;omega) hl'
  have hcl:=cut1_len (c:=61) (s:=p);rw [m_limnographref11_Parse_L1,if_pos (by omega),W64_id (by omega) (by omega),hfind,bndS,hcut,bndS,pgo];dsimp only
  by_cases h4:l.length=4
  ·rw [if_pos (by omega),if_pos h4];rfl
  ·rw [if_neg (by omega),if_neg h4,cut1_find p (by omega),bndS]
   simp only [jn_eq];unfold pairOf
   by_cases hf:(cut1 61 p).2.2=true
   ·have h1:=cut1_yes hf
    have hpl:=congrArg List.length h1;simp only [List.length_append,List.length_cons] at hpl
    have c1:cutL p 0 ((cut1 61 p).1.length:Int)=some (cut1 61 p).1:=by
     conv=>lhs;arg 1;rw [h1]
     exact cut_mid _ _
    have c2:cutL p (((cut1 61 p).1.length:Int)+1) (p.length:Nat)=some (cut1 61 p).2.1:=by
     have:=cut_end ((cut1 61 p).1++[61]) (cut1 61 p).2.1;rw [List.append_assoc,List.singleton_append,← h1] at this;simpa using this
    rw [W64_id (z:=((cut1 61 p).1.length:Int)+1) (by omega) (by omega),if_neg (by omega),c1,bndS,c2,refName_eq,bndS];simp only [bndS,refValue_eq,hf];generalize (cut1 61 p).1=kk at *;generalize (cut1 61 p).2.1=vv at *
    cases hn:nameB kk with
    | false=>simp [got]
    | true=>
     cases hv:valB vv with
     | false=>simp [got]
     | true=>
      simp only [Bool.not_true,Bool.false_eq_true,if_false,Bool.and_self,if_true,bndS];rw [refFoll l kk _ _ _ _ _ (by omega),W64_id (by omega) (by omega)];have hap:appL l [(⟨kk,vv⟩:Pr)]=some (l++[⟨kk,vv⟩]):=app_some (by simp;omega);have ih:=ih (l++[⟨kk,vv⟩]) (by simp;omega)
      have hat:((pre++[59]++p).length:Int)+1=(pre.length:Int)+1+p.length+1:=by simp;omega
      rw [hat] at ih
      by_cases ha:l.any (λb=>decide (b.Key=kk))=true
      ·have hfo:foll l kk=8:=by unfold foll;rw [if_pos ha]
       rw [if_pos ha,hfo];rfl
      ·rw [if_neg ha]
       by_cases hl0:l=[]
       ·subst hl0
        have hfo:foll [] kk=0:=rfl;rw [hfo,if_pos (show (0:Int)=0 from rfl),if_neg (by simp),hap,bndS,ih]
       ·obtain ⟨b,hb⟩:∃ b,l.getLast?=some b:=⟨_,List.getLast?_eq_some_getLast hl0⟩
        have hp0:=List.length_pos_iff.2 hl0
        have hi:idx l (W64 ((l.length:Int)-1))=some b:=by
         rw [W64_id (by omega) (by omega),show (l.length:Int)-1=((l.length-1:Nat):Int) by omega,idx_nat,← List.getLast?_eq_getElem?];exact hb
        have hfo:foll l kk=if Op.bytesLess kk b.Key=true then 9 else 0:=by unfold foll;rw [if_neg ha,hb]
        rw [if_pos (by omega),hi,bndS]
        by_cases hlt:Op.bytesLess kk b.Key=true
        ·rw [if_pos hlt] at hfo;rw [if_pos hlt,hfo];rfl
        ·rw [if_neg hlt] at hfo;rw [if_neg hlt,hfo,hap,bndS,ih];rfl
   ·have h1:=cut1_no (by simpa using hf:(cut1 61 p).2.2=false)
    rw [h1];simp [got]
theorem refParse_eq (s:Txt) (h:s.length≤100000):m_limnographref11_Parse s=some (got (parse s)):=by
 unfold m_limnographref11_Parse parse;have hj:=spl_join s;have hf:=spl_free s;have hlen:=congrArg List.length hj;simp only [List.length_append] at hlen
 have hfind:m_limnographref11_find s 0 59=some (((spl s).1.length:Nat):Int):=by
  have:=find_eq 59 (spl s).1 [] ((spl s).2.flatMap λp=>59::p) hf.1 (by cases (spl s).2 with | nil=>exact .inl rfl | cons q ps=>exact .inr ⟨_,rfl⟩) (by rw [List.nil_append,← hj];omega);rw [List.nil_append,← hj] at this;simpa using this
 have hcut:cutL s 0 ((spl s).1.length:Int)=some (spl s).1:=by
  conv=>lhs;arg 1;rw [hj]
  exact cut_mid _ _
 rw [hfind,bndS,hcut,bndS,refName_eq,bndS]
 by_cases hn:nameB (spl s).1=true
 ·rw [hn,if_neg (by simp),if_pos rfl,jn_eq]
  refine refParseL s (spl s).1 _ (λl=>rfl) (by omega) (spl s).2 (spl s).1 fuel [] hj hf.2 ?_ (by simp)
  have:∀ ps:List Txt,ps.length≤(ps.flatMap λp=>59::p).length:=by
   intro ps
   induction ps with
   | nil=>simp
   | cons p ps ih=>simp at ih ⊢;omega
  have:=this (spl s).2;unfold fuel;omega
 ·simp at hn
  rw [hn];rfl
def fall:List Pr→Prop
 | []=>True
 | [_]=>True
 | a::b::l=>Op.bytesLess a.Key b.Key=false∧fall (b::l)
theorem srt_fall:∀ (q p:List Pr),fall (q.reverse++p)→q.foldl (λacc a=>insR a acc) p=q.reverse++p
 | [],p,_=>rfl
 | x::q,p,h=>by
  rw [List.foldl_cons]
  have hx:insR x p=x::p:=by
   cases p with
   | nil=>rfl
   | cons b p=>
    have:∀ u:List Pr,fall (u++(x::b::p))→Op.bytesLess x.Key b.Key=false:=by
     intro u
     induction u with
     | nil=>exact λh=>h.1
     | cons y u ih=>
      intro h
      cases u with
      | nil=>exact h.2.1
      | cons z u=>exact ih h.2
    rw [insR,if_neg (by rw [this q.reverse (by simpa using h)];simp)]
  rw [hx,srt_fall q (x::p) (by simpa using h)];simp
theorem srt_id {l:List Pr} (h:fall l.reverse):srt l=l:=by unfold srt;rw [srt_fall l [] (by simpa using h)];simp
theorem chk_snoc:∀ (q p:List Pr) (a:Pr),chk p q=0→nameB a.Key=true→valB a.Val=true→(p++q).any (λb=>decide (b.Key=a.Key))=false→chk p (q++[a])=0
 | [],p,a,_,h1,h2,h3=>by rw [List.append_nil] at h3;show chk p [a]=0;rw [chk,h1,h2,h3];rfl
 | x::q,p,a,h,h1,h2,h3=>by
  rw [chk] at h;rw [List.cons_append,chk]
  split at h
  ·rename_i hx
   rw [if_pos hx]
   split at h
   ·cases h
   ·rename_i hp
    rw [if_neg hp];exact chk_snoc q (p++[x]) a h h1 h2 (by simpa using h3)
  ·cases h
theorem pairOf_some {p:Txt} {a:Pr} (h:pairOf p=some a):p=a.Key++61::a.Val∧nameB a.Key=true∧valB a.Val=true:=by
 unfold pairOf at h
 split at h
 ·rename_i hh
  simp only [Bool.and_eq_true] at hh
  cases h
  exact ⟨cut1_yes hh.1.1,hh.1.2,hh.2⟩
 ·cases h
theorem pgo_ok (name:Txt):∀ (ps:List Txt) (l:List Pr) (at_:Int),l.length≤4→chk [] l=0→fall l.reverse→(pgo name l at_ ps).2.2.2=0 →
 ∃ m,pgo name l at_ ps=(name,m,0,0)∧m.length≤4∧chk [] m=0∧fall m.reverse∧texts m=texts l++ps.flatMap (λp=>59::p)
 | [],l,at_,h4,hc,hf,_=>⟨l,rfl,h4,hc,hf,by simp⟩
 | p::ps,l,at_,h4,hc,hf,h=>by
  rw [pgo] at h ⊢
  split at h
  ·cases h
  ·rename_i hl
   rw [if_neg hl]
   cases hp:pairOf p with
   | none=>rw [hp] at h;cases h
   | some a=>
    rw [hp] at h;dsimp only at h ⊢
    split at h
    ·rename_i hfo
     rw [if_pos hfo];obtain ⟨e,hn,hv⟩:=pairOf_some hp;have hfo':=hfo;unfold foll at hfo
     split at hfo
     ·cases hfo
     ·rename_i hany
      have hfl:fall (l++[a]).reverse:=by
       rw [List.reverse_append]
       cases hr:l.reverse with
       | nil=>trivial
       | cons b r=>
        have hb:l.getLast?=some b:=by rw [← List.head?_reverse,hr];rfl
        rw [hb] at hfo;dsimp only at hfo
        split at hfo
        ·cases hfo
        ·rename_i hlt
         refine ⟨by simpa using hlt,?_⟩;rw [← hr];exact hf
      obtain ⟨m,h1,h2,h3,h5,h6⟩:=pgo_ok name ps (l++[a]) (at_+p.length+1) (by simp;omega) (chk_snoc l [] a hc hn hv (by simpa using hany)) hfl h;refine ⟨m,h1,h2,h3,h5,?_⟩;rw [h6,e];simp [texts,at1]
    ·rename_i hfo
     exact absurd h hfo
theorem parse_ok {s:Txt} (h:(parse s).2.2.2=0):∃ name m,parse s=(name,m,0,0)∧nameB name=true∧m.length≤4∧chk [] m=0∧srt m=m∧s=name++texts m:=by
 unfold parse at h ⊢
 split at h
 ·rename_i hn
  rw [if_pos hn];obtain ⟨m,h1,h2,h3,h4,h5⟩:=pgo_ok _ _ [] _ (by simp) rfl trivial h;refine ⟨_,m,h1,hn,h2,h3,srt_id h4,?_⟩;rw [h5];simpa [texts] using spl_join s
 ·cases h
theorem chk_iff:∀ (l p:List Pr),chk p l=0↔(∀ a∈l,nameB a.Key=true∧valB a.Val=true)∧(∀ a∈l,∀ b∈p,b.Key≠a.Key)∧l.Pairwise (λa b=>a.Key≠b.Key)
 | [],p=>by simp [chk]
 | x::l,p=>by
  rw [chk]
  by_cases hx:(nameB x.Key&&valB x.Val)=true
  ·rw [if_pos hx]
   by_cases hp:p.any (λb=>decide (b.Key=x.Key))=true
   ·rw [if_pos hp]
    simp at hp;obtain ⟨b,hb,hk⟩:=hp
    constructor
    ·intro h;cases h
    ·intro h;exact absurd hk (h.2.1 x (by simp) b hb)
   ·rw [if_neg hp,chk_iff l (p++[x])]
    simp at hx hp ⊢
    grind
  ·rw [if_neg hx]
   simp at hx ⊢
   grind
def finB (x:UInt64):Bool:=decide (x.toNat/4503599627370496%2048≠2047)
theorem and_exp (x:Nat):x&&&9218868437227405312=(x/4503599627370496%2048)*4503599627370496:=by
 have e1:x/4503599627370496%2048=(x>>>52)&&&(2^11-1):=by rw [Nat.and_two_pow_sub_one_eq_mod,Nat.shiftRight_eq_div_pow]
 have e2:((x>>>52)&&&(2^11-1))*4503599627370496=((x>>>52)&&&(2^11-1))<<<52:=by rw [Nat.shiftLeft_eq]
 rw [e1,e2]
 apply Nat.eq_of_testBit_eq
 intro i;rw [Nat.testBit_and,Nat.testBit_shiftLeft,Nat.testBit_and,Nat.testBit_shiftRight,Nat.testBit_two_pow_sub_one,show (9218868437227405312:Nat)=(2^11-1)<<<52 by decide,Nat.testBit_shiftLeft,Nat.testBit_two_pow_sub_one]
 by_cases h:i≥52
 ·rw [show 52+(i-52)=i by omega]
  simp [h]
 ·simp [h]
theorem fin_eq (x:UInt64):m_num_Finite x=some (finB x):=by
 unfold m_num_Finite finB
 congr 1
 apply decide_eq_decide.2
 rw [UInt64.toNat_and,show (9218868437227405312:UInt64).toNat=9218868437227405312 by rfl,and_exp]
 omega
theorem quo_n (x:UInt64) (k:UInt64) (hk:k≠0):quo64 x k=some (UInt64.ofNat (x.toNat/k.toNat)):=by
 unfold quo64;rw [if_neg hk]
 congr 1
 apply UInt64.toNat_inj.1
 have:=x.toNat_lt;rw [UInt64.toNat_div,ofNat_nat (Nat.lt_of_le_of_lt (Nat.div_le_self _ _) (by omega))]
theorem rem_n (x:UInt64) (k:UInt64) (hk:k≠0):rem64 x k=some (UInt64.ofNat (x.toNat%k.toNat)):=by
 unfold rem64;rw [if_neg hk]
 congr 1
 apply UInt64.toNat_inj.1
 have:=x.toNat_lt;rw [UInt64.toNat_mod,ofNat_nat (Nat.lt_of_le_of_lt (Nat.mod_le _ _) (by omega))]
theorem rfin_eq (x:UInt64):m_limnographref05_Finite x=some (finB x):=by
 have hx:=x.toNat_lt;unfold m_limnographref05_Finite finB;rw [quo_n _ _ (by decide),bndS,rem_n _ _ (by decide),bndS,show (4503599627370496:UInt64).toNat=4503599627370496 by rfl,show (2048:UInt64).toNat=2048 by rfl,ofNat_nat (n:=x.toNat/4503599627370496) (by omega),ofNat_nat (n:=x.toNat/4503599627370496%2048) (by omega)]
 congr 1
 apply decide_eq_decide.2
 omega
def ltZ (x:UInt64):Bool:=decide (9223372036854775808≤x.toNat∧x.toNat%9223372036854775808≠0∧x.toNat%9223372036854775808≤9218868437227405312)
theorem rless_eq (x:UInt64):m_limnographref05_Less x 0=some (ltZ x):=by
 have hx:=x.toNat_lt
 have o0:m_limnographref05_Odd 0=some false:=by decide
 have ox:m_limnographref05_Odd x=some (decide (x.toNat%9223372036854775808>9218868437227405312)):=by
  unfold m_limnographref05_Odd;simp only [jn_eq];rw [quo_n _ _ (by decide),bndS,rem_n _ _ (by decide),bndS,rem_n _ _ (by decide),bndS,show (4503599627370496:UInt64).toNat=4503599627370496 by rfl,show (2048:UInt64).toNat=2048 by rfl,ofNat_nat (n:=x.toNat/4503599627370496) (by omega),ofNat_nat (n:=x.toNat/4503599627370496%2048) (by omega),ofNat_nat (n:=x.toNat%4503599627370496) (by omega)]
  by_cases h:x.toNat/4503599627370496%2048=2047
  ·rw [if_pos (by omega)];congr 1;apply decide_eq_decide.2;omega
  ·rw [if_neg (by omega)];congr 1;symm;rw [decide_eq_false_iff_not];omega
 unfold m_limnographref05_Less ltZ;simp only [jn_eq];rw [ox,bndS,o0,bndS,rem_n _ _ (by decide),bndS,rem_n _ _ (by decide),bndS,show (9223372036854775808:UInt64).toNat=9223372036854775808 by rfl,ofNat_nat (by omega),show (0:UInt64).toNat=0 by rfl]
 by_cases h1:x.toNat%9223372036854775808>9218868437227405312
 ·rw [if_pos (decide_eq_true h1),if_pos (by first | trivial | rfl)];congr 1;symm;rw [decide_eq_false_iff_not];omega
 ·rw [if_neg (by rw [decide_eq_false h1];decide),if_neg (by decide)]
  by_cases h2:x.toNat%9223372036854775808=0
  ·rw [if_pos ⟨by omega,by rfl⟩];congr 1;symm;rw [decide_eq_false_iff_not];omega
  ·rw [if_neg (λk=>h2 (by have:=k.1;omega)),if_neg (by omega)]
   by_cases h3:x.toNat<9223372036854775808
   ·rw [if_pos ⟨by omega,by decide⟩];congr 1;apply decide_eq_decide.2
    rw [show (UInt64.ofNat (0%9223372036854775808)).toNat=0 by rfl];omega
   ·rw [if_neg (λk=>h3 (by have:=k.1;omega))];congr 1;apply decide_eq_decide.2;omega
theorem less_eq (x:UInt64):m_num_Less x 0=some (ltZ x):=by
 have hx:=x.toNat_lt;unfold m_num_Less m_num_of fltLt ltZ;rw [bndS,bndS]
 congr 1
 have r0:Ieee.Format.read Ieee.double (0:UInt64).toNat=.number false 0 (-1074):=by decide
 show (Ieee.Datum.order (Ieee.Format.read Ieee.double x.toNat) (Ieee.Format.read Ieee.double (0:UInt64).toNat)==some .lt)=_;rw [r0];generalize x.toNat=v at *;unfold Ieee.Format.read
 have sw:Ieee.double.signWeight=9223372036854775808:=by decide
 have bn:Ieee.double.binade=4503599627370496:=by decide
 have ir:Ieee.double.infRung=9218868437227405312:=by decide
 have lp:Ieee.double.leastPlace=-1074:=by decide
 dsimp only;rw [sw,bn,ir,lp]
 have hs:(v/9223372036854775808%2==1)=decide (9223372036854775808≤v):=by
  by_cases h:9223372036854775808≤v
  ·rw [decide_eq_true h];have:v/9223372036854775808%2=1:=by omega
   rw [this];rfl
  ·rw [decide_eq_false h];have:v/9223372036854775808%2=0:=by omega
   rw [this];rfl
 rw [hs];generalize hb:decide (9223372036854775808≤v)=s
 have hb':s=true↔9223372036854775808≤v:=by rw [← hb];exact decide_eq_true_iff
 have cmp:∀ (m k:Nat),(Ieee.Datum.order (.number s m (-1074+(k:Int))) (.number false 0 (-1074))==some .lt)=decide (s=true∧m≠0):=by
  intro m k
  have e1:min (-1074+(k:Int)) (-1074)=-1074:=by omega
  show (some (compare (Ieee.signed s m ((-1074+(k:Int))-min (-1074+(k:Int)) (-1074)).toNat) (Ieee.signed false 0 ((-1074:Int)-min (-1074+(k:Int)) (-1074)).toNat))==some .lt)=_;rw [e1,show ((-1074+(k:Int))-(-1074)).toNat=k by omega,show ((-1074:Int)-(-1074)).toNat=0 by rfl];unfold Ieee.signed;rw [if_neg (show ¬(false=true) by decide),show ((0<<<0:Nat):Int)=0 by rfl,Nat.shiftLeft_eq];have hp:=Nat.two_pow_pos k
  cases s with
  | false=>
   have:¬(((m*2^k:Nat):Int)<0):=by omega
   simp only [compare,compareOfLessAndEq];rw [if_neg (show ¬(if false=true then -((m*2^k:Nat):Int) else ((m*2^k:Nat):Int))<0 from this)]
   (repeat' split)<;>first | rfl | (exfalso;simp_all) | simp
  | true=>
   by_cases hm:m=0
   ·subst hm;simp [compare,compareOfLessAndEq]
   ·have h0:0<m*2^k:=Nat.mul_pos (by omega) hp
    have:(-((m*2^k:Nat):Int)<0):=by omega
    simp only [compare,compareOfLessAndEq];rw [if_pos (show (if True then -((m*2^k:Nat):Int) else ((m*2^k:Nat):Int))<0 by rw [if_pos trivial];exact this)];simp [hm]
 by_cases h1:v%9223372036854775808<4503599627370496
 ·rw [if_pos h1]
  refine (cmp (v%9223372036854775808) 0).trans ?_
  apply decide_eq_decide.2;rw [hb'];omega
 ·rw [if_neg h1]
  by_cases h2:v%9223372036854775808<9218868437227405312
  ·rw [if_pos h2]
   refine (cmp (4503599627370496+v%9223372036854775808%4503599627370496) _).trans ?_
   apply decide_eq_decide.2;rw [hb'];omega
  ·rw [if_neg h2]
   by_cases h3:v%9223372036854775808=9218868437227405312
   ·rw [if_pos h3]
    show (some (if s=true then Ordering.lt else .gt)==some .lt)=_
    have:decide (s=true)=decide (9223372036854775808≤v∧v%9223372036854775808≠0∧v%9223372036854775808≤9218868437227405312):=by apply decide_eq_decide.2;rw [hb'];omega
    rw [← this];cases s<;>rfl
   ·rw [if_neg h3]
    show false=_
    symm;rw [decide_eq_false_iff_not];omega
abbrev Pt:=T_api_Point
def kindsB (p:Pt):Bool:=if p.Kind=3 then decide (p.Temp=0) else decide (1≤p.Kind∧p.Kind≤5)&&decide (p.Temp=1∨p.Temp=2)
theorem kinds_eq (p:Pt):m_point_kinds p=some (kindsB p):=by
 unfold m_point_kinds kindsB;rw [jn_eq]
 by_cases h3:p.Kind=3
 ·rw [if_pos h3,if_pos h3]
 ·rw [if_neg h3,if_neg h3]
  by_cases h1:p.Kind=1
  ·simp [h1]
  ·by_cases h2:p.Kind=2
   ·simp [h2]
   ·by_cases h4:p.Kind=4
    ·simp [h4]
    ·by_cases h5:p.Kind=5
     ·simp [h5]
     ·have:¬(1≤p.Kind∧p.Kind≤5):=by omega
      simp [h1,h2,h4,h5,this]
def timesB (p:Pt):Bool:=decide (0≤p.Start∧p.Time≤4503599627370496∧(if p.Kind=3 then p.Start=p.Time else p.Start<p.Time))
theorem times_eq (p:Pt):m_point_times p=some (timesB p):=by
 unfold m_point_times timesB
 by_cases h:p.Start<0∨p.Time>4503599627370496
 ·rw [if_pos h];congr 1;symm;rw [decide_eq_false_iff_not];omega
 ·rw [if_neg h]
  split<;>(congr 1;apply decide_eq_decide.2;omega)
def bareB (h:T_api_Hist):Bool:=decide (h.Scale=0∧h.Zero=0∧h.Pos.Offset=0∧h.Neg.Offset=0∧h.Pos.Counts=[]∧h.Neg.Counts=[])
theorem u64z (x:UInt64):((x.toNat:Nat):Int)=0↔x=0:=by
 constructor
 ·intro h;apply UInt64.toNat_inj.1;simp;omega
 ·rintro rfl;rfl
theorem bare_eq (h:T_api_Hist) (h1:h.Pos.Counts.length≤1000000) (h2:h.Neg.Counts.length≤1000000):m_point_bare h=some (bareB h):=by
 unfold m_point_bare bareB;rw [jn_eq,W64_id (by omega) (by omega)];simp only [u64z]
 have e:((h.Pos.Counts.length:Int)+(h.Neg.Counts.length:Int)=0)↔h.Pos.Counts=[]∧h.Neg.Counts=[]:=by
  rw [← List.length_eq_zero_iff,← List.length_eq_zero_iff];omega
 simp only [e]
 split
 ·rename_i hh;congr 1;apply decide_eq_decide.2;simp [hh]
 ·rename_i hh;congr 1;symm;rw [decide_eq_false_iff_not];intro hc;exact hh ⟨⟨⟨hc.1,hc.2.1⟩,hc.2.2.1⟩,hc.2.2.2.1⟩
def ownB (p:Pt):Bool:=decide ((p.Kind≠1→p.Int_=0)∧(¬(p.Kind=2∨p.Kind=3∨p.Kind=5)→p.Re=0)∧(p.Kind≠5→p.Im=0)∧(p.Kind≠4→bareB p.Hist=true)∧0≤p.Flags∧p.Flags≤31)
theorem own_eq (p:Pt) (h1:p.Hist.Pos.Counts.length≤1000000) (h2:p.Hist.Neg.Counts.length≤1000000):m_point_own p=some (ownB p):=by
 unfold m_point_own ownB;rw [jn_eq,bare_eq _ h1 h2,jn_eq];simp only [u64z,ne_eq]
 by_cases a1:¬p.Kind=1∧¬p.Int_=0
 ·rw [if_pos a1,decide_eq_true a1,if_pos rfl];congr 1;symm;rw [decide_eq_false_iff_not];intro hc;exact a1.2 (hc.1 a1.1)
 ·rw [if_neg a1]
  by_cases a2:(¬((p.Kind=2∨p.Kind=3)∨p.Kind=5))∧¬p.Re=0
  ·rw [if_pos a2,decide_eq_true a2,if_pos rfl];congr 1;symm;rw [decide_eq_false_iff_not];intro hc;exact a2.2 (hc.2.1 (by intro h;exact a2.1 (by omega)))
  ·rw [if_neg a2]
   by_cases a3:¬p.Kind=5∧¬p.Im=0
   ·rw [if_pos a3,decide_eq_true a3,if_pos rfl];congr 1;symm;rw [decide_eq_false_iff_not];intro hc;exact a3.2 (hc.2.2.1 a3.1)
   ·rw [if_neg a3]
    have b1:¬p.Kind=1→p.Int_=0:=λh=>Classical.byContradiction λh'=>a1 ⟨h,h'⟩
    have b2:¬(p.Kind=2∨p.Kind=3∨p.Kind=5)→p.Re=0:=λh=>Classical.byContradiction λh'=>a2 ⟨by omega,h'⟩
    have b3:¬p.Kind=5→p.Im=0:=λh=>Classical.byContradiction λh'=>a3 ⟨h,h'⟩
    by_cases a4:p.Kind=4
    ·rw [if_neg (by simpa using a4)]
     simp only [Bool.false_eq_true,if_false]
     by_cases a5:p.Flags<0∨p.Flags>31
     ·rw [decide_eq_true a5,if_pos rfl];congr 1;symm;rw [decide_eq_false_iff_not];omega
     ·rw [decide_eq_false a5];simp only [Bool.false_eq_true,if_false];congr 1;symm;rw [decide_eq_true_iff];exact ⟨b1,b2,b3,λh=>(h a4).elim,by omega,by omega⟩
    ·rw [if_pos a4,bndS]
     cases hb:bareB p.Hist with
     | false=>simp only [Bool.not_false,if_true];congr 1;symm;rw [decide_eq_false_iff_not];intro hc;have:=hc.2.2.2.1 a4;cases this
     | true=>
      simp only [Bool.not_true,Bool.false_eq_true,if_false]
      by_cases a5:p.Flags<0∨p.Flags>31
      ·rw [decide_eq_true a5,if_pos rfl];congr 1;symm;rw [decide_eq_false_iff_not];omega
      ·rw [decide_eq_false a5];simp only [Bool.false_eq_true,if_false];congr 1;symm;rw [decide_eq_true_iff];exact ⟨b1,b2,b3,λ_=>by first | rfl | trivial,by omega,by omega⟩
def pcE (p:Pt):Int:=
 if check p.Name p.Attrs≠0 then check p.Name p.Attrs
 else if kindsB p=false then 14
 else if p.Mono=true∧p.Kind≠1∧p.Kind≠2 then 1
 else if timesB p=false then 1
 else if ownB p=false then 3
 else if (p.Mono=true∧p.Kind=2)∧finB p.Re=false then 11
 else if p.Mono=true∧(p.Int_<0∨ltZ p.Re=true) then 1
 else if p.Kind=4 then hcE p.Hist else 0
theorem PCheck_eq (p:Pt) (h1:p.Hist.Pos.Counts.length≤1000000) (h2:p.Hist.Neg.Counts.length≤1000000):m_point_Check p=some (pcE p):=by
 unfold m_point_Check pcE m_point_sum;rw [check_eq,bndS]
 by_cases c:check p.Name p.Attrs≠0
 ·rw [if_pos c,if_pos c]
 rw [if_neg c,if_neg c,kinds_eq,bndS]
 cases hk:kindsB p with
 | false=>rw [if_pos (by rfl),if_pos rfl]
 | true=>
  rw [if_neg (by decide),if_neg (show ¬(true=false) by decide)];simp only [jn_eq,bndS,times_eq,own_eq p h1 h2,fin_eq,less_eq,HCheck_eq p.Hist h1 h2]
  have e1:(p.Mono=true∧p.Kind≠1∧p.Kind≠2)↔(if p.Mono=true then (!decide ((p.Kind=1)∨(p.Kind=2))) else false)=true:=by
   cases p.Mono<;>simp
  cases hm:p.Mono with
  | false=>
   simp only [Bool.false_eq_true,if_false,false_and]
   cases timesB p<;>simp
   cases ownB p<;>simp
   split<;>rfl
  | true=>
   simp only [if_true,true_and]
   by_cases hs:p.Kind=1∨p.Kind=2
   ·rw [decide_eq_true hs]
    simp only [Bool.not_true,Bool.false_eq_true,if_false];rw [if_neg (show ¬(p.Kind≠1∧p.Kind≠2) by omega)]
    cases timesB p<;>simp
    cases ownB p<;>simp
    have h4:¬p.Kind=4:=by omega
    by_cases h2:p.Kind=2
    ·simp only [h2,if_true,true_and]
     cases finB p.Re<;>simp
     by_cases hi:p.Int_<0
     ·simp [hi]
     ·simp [hi];split<;>rfl
    ·simp only [h2,if_false,false_and]
     by_cases hi:p.Int_<0
     ·simp [hi]
     ·simp [hi,h4];split<;>rfl
   ·rw [decide_eq_false hs,if_pos (show p.Kind≠1∧p.Kind≠2 by omega)]
    simp
theorem u64ne (x y:UInt64):(((x.toNat:Nat):Int)≠((y.toNat:Nat):Int))↔x≠y:=by
 constructor
 ·rintro h rfl;exact h rfl
 ·intro h hh;exact h (UInt64.toNat_inj.1 (by omega))
theorem u64eq (x y:UInt64):(((x.toNat:Nat):Int)=((y.toNat:Nat):Int))↔x=y:=by
 constructor
 ·intro hh;exact UInt64.toNat_inj.1 (by omega)
 ·rintro rfl;rfl
theorem scan_same {α:Type} [DecidableEq α] (a b:List α) (hl:a.length=b.length) (B:Nat→α→Unit→(Unit→Option Bool)→Option Bool) (J:Unit→Option Bool) (hJ:J ()=some true)
 (hB:∀ i x k,B i x () k=(idx b (i:Int)).bind λy=>if x≠y then some false else k ()):scanL a () B J=some (decide (a=b)):=by
 rw [scanL_pre (λp q _=>some (decide (q=b.drop p.length))) ?_ ?_]
 ·simp
 ·intro s;rw [hJ];simp [hl]
 ·intro p x q _ k hp hk
  rw [hB,hk]
  have:p.length<b.length:=by rw [← hl,← hp];simp
  rw [idx_at this,bndS,List.drop_eq_getElem_cons this,List.length_append,List.length_singleton]
  by_cases hx:x=b[p.length]
  ·rw [if_neg (λh=>h hx)];congr 1;apply decide_eq_decide.2;rw [List.cons.injEq];exact ⟨λh=>⟨hx,h⟩,λh=>h.2⟩
  ·rw [if_pos hx,decide_eq_false];rw [List.cons.injEq];exact λh=>hx h.1
theorem side_ext (a b:T_api_Side):a=b↔a.Offset=b.Offset∧a.Counts=b.Counts:=by cases a;cases b;simp
theorem rsame_eq (a b:T_api_Side) (h:a.Counts.length≤1000000):m_limnographref08_SameSide a b=some (decide (a=b)):=by
 unfold m_limnographref08_SameSide
 by_cases hc:a.Offset≠b.Offset∨(a.Counts.length:Int)≠(b.Counts.length:Int)
 ·rw [if_pos hc];congr 1;symm;rw [decide_eq_false_iff_not,side_ext];rintro ⟨h1,h2⟩;rw [h1,h2] at hc;simp at hc
 ·rw [if_neg hc,jn_eq,m_limnographref08_SameSide_L1_scan _ _ _ (by omega)]
  have:=scan_same a.Counts b.Counts (by omega) (λii xx ss kk=>(some xx).bind λz21=>(idx b.Counts (ii:Int)).bind λz24=>if ((z21).toNat:Int)≠((z24).toNat:Int) then (some false) else (kk ())) (λ_=>some true) rfl λi x k=>by rw [bndS];simp only [u64ne]
  refine this.trans ?_
  congr 1;apply decide_eq_decide.2;rw [side_ext];constructor
  ·intro h;exact ⟨by omega,h⟩
  ·exact λh=>h.2
theorem hist_ext (a b:T_api_Hist):a=b↔(a.Scale=b.Scale∧a.Zero=b.Zero)∧a.Pos=b.Pos∧a.Neg=b.Neg:=by cases a;cases b;simp [and_assoc]
theorem rHist_eq (a b:T_api_Hist) (h1:a.Pos.Counts.length≤1000000) (h2:a.Neg.Counts.length≤1000000):m_limnographref08_Same a b=some (decide (a=b)):=by
 unfold m_limnographref08_Same;rw [rsame_eq _ _ h1,rsame_eq _ _ h2];simp only [u64eq,bndS,jn_eq]
 by_cases hc:a.Scale=b.Scale∧a.Zero=b.Zero
 ·rw [if_pos hc]
  by_cases hp:a.Pos=b.Pos
  ·rw [decide_eq_true hp,if_pos rfl];congr 1;apply decide_eq_decide.2;rw [hist_ext];simp [hc,hp]
  ·rw [decide_eq_false hp];simp only [Bool.false_eq_true,if_false];congr 1;symm;rw [decide_eq_false_iff_not,hist_ext];exact λh=>hp h.2.1
 ·rw [if_neg hc];simp only [Bool.false_eq_true,if_false];congr 1;symm;rw [decide_eq_false_iff_not,hist_ext];exact λh=>hc h.1
theorem none_eq (h:T_api_Hist) (h1:h.Pos.Counts.length≤1000000) (h2:h.Neg.Counts.length≤1000000):m_limnographref12_none h=some (bareB h):=by
 unfold m_limnographref12_none bareB;rw [rHist_eq _ _ h1 h2,bndS]
 congr 1
 apply decide_eq_decide.2
 rw [hist_ext,side_ext,side_ext]
 constructor
 ·rintro ⟨⟨a,b⟩,⟨c,d⟩,e,f⟩;exact ⟨a,b,c,e,d,f⟩
 ·rintro ⟨a,b,c,e,d,f⟩;exact ⟨⟨a,b⟩,⟨c,d⟩,e,f⟩
theorem RCheck_eq (p:Pt) (h1:p.Hist.Pos.Counts.length≤1000000) (h2:p.Hist.Neg.Counts.length≤1000000):m_limnographref12_Check p=some (pcE p):=by
 unfold m_limnographref12_Check pcE;rw [refCheck_eq,bndS]
 by_cases c:check p.Name p.Attrs≠0
 ·rw [if_pos c,if_pos c]
 rw [if_neg c,if_neg c];simp only [jn_eq,bndS,none_eq p.Hist h1 h2,rfin_eq,rless_eq,Check8_eq p.Hist h1 h2]
 cases hk:kindsB p with
 | false=>
  rw [if_pos (show false=false from rfl)]
  by_cases a:p.Kind<1∨p.Kind>5
  ·rw [if_pos a]
  ·rw [if_neg a,if_pos]
   unfold kindsB at hk
   by_cases h3:p.Kind=3
   ·rw [if_pos h3] at hk;exact Or.inl ⟨h3,of_decide_eq_false hk⟩
   ·rw [if_neg h3,decide_eq_true (show 1≤p.Kind∧p.Kind≤5 by omega),Bool.true_and] at hk
    have:=of_decide_eq_false hk;exact Or.inr ⟨⟨h3,λh=>this (Or.inl h)⟩,λh=>this (Or.inr h)⟩
 | true=>
  rw [if_neg (show ¬(true=false) by decide)]
  have k:1≤p.Kind∧p.Kind≤5∧(p.Kind=3→p.Temp=0)∧(p.Kind≠3→p.Temp=1∨p.Temp=2):=by
   unfold kindsB at hk
   by_cases h3:p.Kind=3
   ·rw [if_pos h3] at hk;have:=of_decide_eq_true hk;omega
   ·rw [if_neg h3,Bool.and_eq_true] at hk
    have a:=of_decide_eq_true hk.1;have b:=of_decide_eq_true hk.2;exact ⟨a.1,a.2,λh=>(h3 h).elim,λ_=>b⟩
  rw [if_neg (show ¬(p.Kind<1∨p.Kind>5) by omega),if_neg (show ¬((p.Kind=3∧p.Temp≠0)∨((p.Kind≠3∧p.Temp≠1)∧p.Temp≠2)) by omega)]
  by_cases hs:p.Mono=true∧p.Kind≠1∧p.Kind≠2
  ·rw [if_pos (show (p.Mono=true∧p.Kind≠1)∧p.Kind≠2 from ⟨⟨hs.1,hs.2.1⟩,hs.2.2⟩),if_pos hs]
  rw [if_neg (show ¬((p.Mono=true∧p.Kind≠1)∧p.Kind≠2) from λh=>hs ⟨h.1.1,h.1.2,h.2⟩),if_neg hs]
  have ht:((((p.Start<0)∨(p.Time>4503599627370496))∨((p.Kind=3)∧(p.Start≠p.Time)))∨((p.Kind≠3)∧(p.Start≥p.Time)))↔timesB p=false:=by
   unfold timesB;rw [decide_eq_false_iff_not]
   by_cases h3:p.Kind=3
   ·rw [if_pos h3];omega
   ·rw [if_neg h3];omega
  by_cases t:timesB p=false
  ·rw [if_pos (ht.2 t),if_pos t]
  rw [if_neg (λh=>t (ht.1 h)),if_neg t]
  have ho:ownB p=false↔((((p.Kind≠1)∧(p.Int_≠0))∨((p.Kind≠5)∧(((p.Im).toNat:Int)≠0)))∨(p.Kind≠4∧bareB p.Hist=false)∨(((((p.Kind=1)∨(p.Kind=4))∧(((p.Re).toNat:Int)≠0))∨(p.Flags<0))∨(p.Flags>31))):=by
   unfold ownB;rw [decide_eq_false_iff_not,ne_eq,ne_eq (((p.Im).toNat:Int)),ne_eq (((p.Re).toNat:Int)),u64z,u64z]
   have e:bareB p.Hist=false↔¬bareB p.Hist=true:=by cases bareB p.Hist<;>simp
   rw [e]
   by_cases z1:p.Re=0<;>by_cases z2:p.Im=0<;>by_cases z3:bareB p.Hist=true<;>(simp [z1,z2,z3];try omega)
  by_cases ab:((p.Kind≠1)∧(p.Int_≠0))∨((p.Kind≠5)∧(((p.Im).toNat:Int)≠0))
  ·rw [if_pos (ho.2 (Or.inl ab)),if_pos ab,if_pos (by first | trivial | rfl)]
  rw [if_neg ab]
  by_cases hb:p.Kind≠4∧bareB p.Hist=false
  ·rw [if_pos (ho.2 (Or.inr (Or.inl hb))),if_pos hb.1,if_pos (by rw [hb.2];rfl)]
  have go:∀ (X:Option Int),(if p.Kind≠4 then (if (!bareB p.Hist)=true then some 3 else X) else (if false=true then some 3 else X))=X:=by
   intro X
   by_cases k4:p.Kind≠4
   ·have:bareB p.Hist=true:=by cases h:bareB p.Hist with | true=>rfl | false=>exact (hb ⟨k4,h⟩).elim
    rw [if_pos k4,if_neg (by rw [this];decide)]
   ·rw [if_neg k4,if_neg (by decide)]
  refine (go _).trans ?_
  by_cases c3:((((p.Kind=1)∨(p.Kind=4))∧(((p.Re).toNat:Int)≠0))∨(p.Flags<0))∨(p.Flags>31)
  ·rw [if_pos (ho.2 (Or.inr (Or.inr c3))),if_pos c3]
  have oT:¬ownB p=false:=λh=>(ho.1 h).elim ab λh=>h.elim hb c3
  rw [if_neg oT,if_neg c3]
  by_cases m2:p.Mono=true∧p.Kind=2
  ·rw [if_pos m2,if_pos m2]
   have i0:¬p.Int_<0:=by omega
   cases hf:finB p.Re with
   | false=>rw [if_pos (by rfl),if_pos (show (p.Mono=true∧p.Kind=2)∧false=false from ⟨m2,rfl⟩)]
   | true=>
    rw [if_neg (by decide),if_neg (show ¬((p.Mono=true∧p.Kind=2)∧true=false) by simp)]
    cases hl:ltZ p.Re with
    | true=>rw [if_pos (Or.inl rfl),if_pos ⟨m2.1,Or.inr rfl⟩]
    | false=>rw [if_neg (show ¬(false=true∨(p.Mono=true∧p.Kind=1)∧p.Int_<0) by simp [i0]),if_neg (show ¬(p.Mono=true∧(p.Int_<0∨false=true)) by simp [i0])];split<;>rfl
  ·rw [if_neg m2,if_neg (show ¬(false=true) by decide),if_neg m2,if_neg (show ¬((p.Mono=true∧p.Kind=2)∧finB p.Re=false) from λh=>m2 h.1)]
   by_cases m1:p.Mono=true∧p.Kind=1
   ·have r0:p.Re=0:=by apply (u64z _).1;omega
    have l0:ltZ p.Re=false:=by rw [r0];decide
    rw [l0]
    by_cases hi:p.Int_<0
    ·rw [if_pos (Or.inr ⟨m1,hi⟩),if_pos ⟨m1.1,Or.inl hi⟩]
    ·rw [if_neg (show ¬(false=true∨(p.Mono=true∧p.Kind=1)∧p.Int_<0) by simp [hi]),if_neg (show ¬(p.Mono=true∧(p.Int_<0∨false=true)) by simp [hi])];split<;>rfl
   ·have hm:¬p.Mono=true:=by
     intro hm;exact hs ⟨hm,λh=>m1 ⟨hm,h⟩,λh=>m2 ⟨hm,h⟩⟩
    rw [if_neg (show ¬(false=true∨(p.Mono=true∧p.Kind=1)∧p.Int_<0) by simp [hm]),if_neg (show ¬(p.Mono=true∧(p.Int_<0∨ltZ p.Re=true)) from λh=>hm h.1)];split<;>rfl
abbrev zPt:Pt:=⟨[],[],0,0,false,0,0,0,0,0,h00,0⟩
def sPt (nm:Txt) (l:List Pr) (a b c:UInt8):Pt:=⟨nm,l,W64 ((a.toNat:Int)-48),W64 ((b.toNat:Int)-48),decide (((c).toNat:Int)=49),if W64 ((a.toNat:Int)-48)=3 then 1 else 0,1,0,0,0,h00,0⟩
def oPt (nm:Txt) (l:List Pr) (a b c:UInt8):Pt:=⟨nm,l,W64 ((a.toNat:Int)-48),W64 ((b.toNat:Int)-48),decide (((c).toNat:Int)=49),0,0,0,0,0,h00,0⟩
def serE (s:Txt):Pt×Int:=
 if (((cut1 32 s).2.2=true∧(cut1 32 s).2.1.length=3)∧(parse (cut1 32 s).1).2.2.2=0)∧((cut1 32 s).2.1.getD 2 0=48∨(cut1 32 s).2.1.getD 2 0=49) ∧
  pcE (sPt (parse (cut1 32 s).1).1 (parse (cut1 32 s).1).2.1 ((cut1 32 s).2.1.getD 0 0) ((cut1 32 s).2.1.getD 1 0) ((cut1 32 s).2.1.getD 2 0))=0
 then (oPt (parse (cut1 32 s).1).1 (parse (cut1 32 s).1).2.1 ((cut1 32 s).2.1.getD 0 0) ((cut1 32 s).2.1.getD 1 0) ((cut1 32 s).2.1.getD 2 0),0) else (zPt,3)
theorem byteZ (c:UInt8) (k:Nat) (hk:k<256):((c.toNat:Nat):Int)=(k:Int)↔c=UInt8.ofNat k:=by
 constructor
 ·intro h;apply UInt8.toNat_inj.1;rw [UInt8.toNat_ofNat'];omega
 ·rintro rfl;rw [UInt8.toNat_ofNat'];omega
theorem three {l:List UInt8} (h:l.length=3):∃ a b c,l=[a,b,c]:=by
 match l,h with
 | [a,b,c],_=>exact ⟨a,b,c,rfl⟩
theorem series_eq (s:Txt) (hs:s.length≤10000):m_chunk_Series s=some (serE s):=by
 unfold m_chunk_Series serE;have hl:=cut1_len (c:=32) (s:=s);rw [strCut_eq s 32 (by omega),bndS];generalize hc:cut1 32 s=t at *;obtain ⟨p,q,f⟩:=t;dsimp only at hl ⊢;rw [parse_eq p (by omega),bndS];generalize parse p=r;obtain ⟨nm,l,at_,e⟩:=r;dsimp only;simp only [jn_eq]
 by_cases h:(f=true∧q.length=3)∧e=0
 ·obtain ⟨⟨hf,hq⟩,he⟩:=h
  obtain ⟨a,b,c,rfl⟩:=three hq;subst hf he;rw [if_neg (show ¬(((!true)=true∨(0:Int)≠0)∨(([a,b,c]:List UInt8).length:Int)≠3) by simp),show idx [a,b,c] 2=some c from rfl,bndS,bndS,show idx [a,b,c] 0=some a from rfl,bndS,show idx [a,b,c] 1=some b from rfl,bndS,bndS];rw [show ([a,b,c]:List UInt8).getD 0 0=a from rfl,show ([a,b,c]:List UInt8).getD 1 0=b from rfl,show ([a,b,c]:List UInt8).getD 2 0=c from rfl]
  have fin:(if W64 ((a.toNat:Int)-48)=3 then (m_point_Check ⟨nm,l,W64 ((a.toNat:Int)-48),W64 ((b.toNat:Int)-48),decide (((c).toNat:Int)=49),1,1,0,0,0,h00,0⟩).bind λp54=>if p54≠0 then some (zPt,(3:Int)) else some (oPt nm l a b c,0) else (m_point_Check ⟨nm,l,W64 ((a.toNat:Int)-48),W64 ((b.toNat:Int)-48),decide (((c).toNat:Int)=49),0,1,0,0,0,h00,0⟩).bind λp54=>if p54≠0 then some (zPt,(3:Int)) else some (oPt nm l a b c,0))=some (if pcE (sPt nm l a b c)=0 then (oPt nm l a b c,0) else (zPt,3)):=by
   have e1:pcE (sPt nm l a b c)=pcE ⟨nm,l,W64 ((a.toNat:Int)-48),W64 ((b.toNat:Int)-48),decide (((c).toNat:Int)=49),if W64 ((a.toNat:Int)-48)=3 then 1 else 0,1,0,0,0,h00,0⟩:=rfl;rw [e1]
   by_cases h3:W64 ((a.toNat:Int)-48)=3
   ·rw [if_pos h3,if_pos h3,PCheck_eq _ (by simp) (by simp),bndS]
    by_cases hh:pcE ⟨nm,l,W64 ((a.toNat:Int)-48),W64 ((b.toNat:Int)-48),decide (((c).toNat:Int)=49),1,1,0,0,0,h00,0⟩=0
    ·rw [if_neg (λk=>k hh),if_pos hh]
    ·rw [if_pos hh,if_neg hh]
   ·rw [if_neg h3,if_neg h3,PCheck_eq _ (by simp) (by simp),bndS]
    by_cases hh:pcE ⟨nm,l,W64 ((a.toNat:Int)-48),W64 ((b.toNat:Int)-48),decide (((c).toNat:Int)=49),0,1,0,0,0,h00,0⟩=0
    ·rw [if_neg (λk=>k hh),if_pos hh]
    ·rw [if_pos hh,if_neg hh]
  by_cases h48:c=48
  ·rw [if_neg (show ¬((c.toNat:Int)≠48) by rw [h48];decide),if_neg (show ¬(false=true) by decide)]
   refine fin.trans ?_
   congr 1
   exact ite_cong ⟨λh=>⟨⟨⟨rfl,rfl⟩,rfl⟩,Or.inl h48,h⟩,λh=>h.2.2⟩ (λ_=>rfl) (λ_=>rfl)
  ·rw [if_pos (show (c.toNat:Int)≠48 from λh=>h48 ((byteZ c 48 (by omega)).1 h))]
   by_cases h49:c=49
   ·rw [if_neg (by rw [h49];decide)]
    refine fin.trans ?_
    congr 1
    exact ite_cong ⟨λh=>⟨⟨⟨rfl,rfl⟩,rfl⟩,Or.inr h49,h⟩,λh=>h.2.2⟩ (λ_=>rfl) (λ_=>rfl)
   ·rw [if_pos (decide_eq_true (show (c.toNat:Int)≠49 from λh=>h49 ((byteZ c 49 (by omega)).1 h))),if_neg (λh=>h.2.1.elim h48 h49)]
 ·rw [if_neg (c:=((f=true∧q.length=3)∧e=0)∧_) (λk=>h k.1),if_pos,if_pos (by first | trivial | rfl)]
  cases f with
  | false=>exact Or.inl (Or.inl rfl)
  | true=>
   by_cases hq:q.length=3
   ·exact Or.inl (Or.inr λhe=>h ⟨⟨rfl,hq⟩,he⟩)
   ·exact Or.inr (by omega)
theorem cut1_at (s:Txt):∀ (i:Nat),i<(cut1 32 s).1.length→∃ x,s[i]?=some x∧x≠32:=by
 intro i hi
 have e:∃ t,s=(cut1 32 s).1++t:=by
  by_cases h:(cut1 32 s).2.2=true
  ·exact ⟨_,cut1_yes h⟩
  ·have:=cut1_no (c:=32) (s:=s) (by simpa using h)
   exact ⟨[],by rw [this];simp⟩
 obtain ⟨t,ht⟩:=e;refine ⟨(cut1 32 s).1[i],?_,cut1_free _ (List.getElem_mem hi)⟩;exact (congrArg (λz:Txt=>z[i]?) ht).trans (by rw [List.getElem?_append_left hi,List.getElem?_eq_getElem hi])
theorem rseries_loop (s:Txt) (hs:s.length≤10000) (j:Int→Option (Pt×Int)):∀ (r i f:Nat),i+r=(cut1 32 s).1.length→r<f→m_limnographref13_Series_L1 s j f (i:Int)=j (((cut1 32 s).1.length:Nat):Int):=by
 have hl:=cut1_len (c:=32) (s:=s);intro r
 induction r with
 | zero=>
  intro i f hi hf;obtain ⟨f,rfl⟩:∃ k,f=k+1:=⟨f-1,by omega⟩;rw [m_limnographref13_Series_L1];simp only [jn_eq]
  have hi':i=(cut1 32 s).1.length:=by omega
  by_cases h:(cut1 32 s).2.2=true
  ·have e:=cut1_yes h
   have hx:idx s (i:Int)=some 32:=by rw [hi'];exact (congrArg (λz:Txt=>idx z (((cut1 32 s).1.length:Nat):Int)) e).trans (idx_mid _ _ _)
   have hlt:i<s.length:=by have:=congrArg List.length e;simp at this;omega
   rw [if_pos (by omega),hx,bndS,if_neg (by decide),hi']
  ·have e:=cut1_no (c:=32) (s:=s) (by simpa using h)
   rw [if_neg (by rw [hi',e];simp),if_neg (by decide),hi']
 | succ r ih=>
  intro i f hi hf;obtain ⟨f,rfl⟩:∃ k,f=k+1:=⟨f-1,by omega⟩;obtain ⟨x,hx,h32⟩:=cut1_at s i (by omega)
  have hlt:i<s.length:=by omega
  rw [m_limnographref13_Series_L1];simp only [jn_eq];rw [if_pos (by omega),idx_nat,hx,bndS,if_pos (decide_eq_true (show (x.toNat:Int)≠32 from λh=>h32 ((byteZ x 32 (by omega)).1 h))),W64_up (by omega)];exact ih (i+1) f (by omega) (by omega)
theorem rseries_eq (s:Txt) (hs:s.length≤10000):m_limnographref13_Series s=some (serE s):=by
 unfold m_limnographref13_Series serE;have hl:=cut1_len (c:=32) (s:=s);obtain ⟨ff,hf⟩:=fuelS 20001 (by omega);rw [jn_eq];refine (rseries_loop s hs _ (cut1 32 s).1.length 0 fuel (by omega) (by rw [hf];omega)).trans ?_;rw [W64_id (z:=(s.length:Int)-_) (by omega) (by omega)]
 by_cases h:(cut1 32 s).2.2=true∧(cut1 32 s).2.1.length=3
 ·obtain ⟨h1,h3⟩:=h
  have e:=cut1_yes h1;have el:=congrArg List.length e;simp only [List.length_append,List.length_cons] at el;obtain ⟨a,b,c,hq⟩:=three h3;generalize hp:(cut1 32 s).1=p at *;rw [hq] at e el;simp only [List.length_cons,List.length_nil] at el;rw [if_neg (by omega),h1,hq]
  have c1:cutL s 0 (p.length:Int)=some p:=by rw [e];exact cut_mid p _
  have w1:W64 ((p.length:Int)+1)=((p.length+1:Nat):Int):=W64_up (by omega)
  have w2:W64 ((p.length:Int)+2)=((p.length+2:Nat):Int):=by rw [W64_id (by omega) (by omega)];rfl
  have w3:W64 ((p.length:Int)+3)=((p.length+3:Nat):Int):=by rw [W64_id (by omega) (by omega)];rfl
  have i1:idx s ((p.length+1:Nat):Int)=some a:=by rw [idx_nat,e,List.getElem?_append_right (by omega),Nat.add_sub_cancel_left];rfl
  have i2:idx s ((p.length+2:Nat):Int)=some b:=by rw [idx_nat,e,List.getElem?_append_right (by omega),Nat.add_sub_cancel_left];rfl
  have i3:idx s ((p.length+3:Nat):Int)=some c:=by rw [idx_nat,e,List.getElem?_append_right (by omega),Nat.add_sub_cancel_left];rfl
  rw [c1,bndS,refParse_eq p (by omega),bndS,w1,w2,w3,i1,bndS,i2,bndS,i3,bndS];simp only [jn_eq,bndS,if_true,Bool.false_eq_true,if_false];rw [show ([a,b,c]:List UInt8).getD 0 0=a from rfl,show ([a,b,c]:List UInt8).getD 1 0=b from rfl,show ([a,b,c]:List UInt8).getD 2 0=c from rfl];unfold got;generalize parse p=r;obtain ⟨nm,l,at_,er⟩:=r;dsimp only;have key:∀ st:Int,(st=if W64 ((a.toNat:Int)-48)=3 then 1 else 0)→∀ X:Pt,X=⟨nm,l,W64 ((a.toNat:Int)-48),W64 ((b.toNat:Int)-48),decide (((c).toNat:Int)=49),st,1,0,0,0,h00,0⟩ →
   (if er≠0 then some (zPt,(3:Int)) else (m_limnographref12_Check X).bind λp65=>if decide (p65≠0)=true then some (zPt,(3:Int)) else if (c.toNat:Int)≠48 then (if decide ((c.toNat:Int)≠49)=true then some (zPt,(3:Int)) else some (oPt nm l a b c,0)) else some (oPt nm l a b c,0)) =
   some (if ((True∧(3:Nat)=3)∧er=0)∧(c=48∨c=49)∧pcE (sPt nm l a b c)=0 then (oPt nm l a b c,0) else (zPt,3)):=by
   intro st hst X hX
   have e1:sPt nm l a b c=X:=by rw [hX,hst];rfl
   rw [e1]
   by_cases h0:er=0
   ·rw [if_neg (λk=>k h0),RCheck_eq X (by rw [hX];simp) (by rw [hX];simp),bndS]
    by_cases hc:pcE X=0
    ·rw [if_neg (by rw [decide_eq_false (λk=>k hc)];decide)]
     by_cases h48:c=48
     ·rw [if_neg (show ¬((c.toNat:Int)≠48) by rw [h48];decide),if_pos ⟨⟨⟨trivial,rfl⟩,h0⟩,Or.inl h48,hc⟩]
     ·rw [if_pos (show (c.toNat:Int)≠48 from λh=>h48 ((byteZ c 48 (by omega)).1 h))]
      by_cases h49:c=49
      ·rw [if_neg (by rw [h49];decide),if_pos ⟨⟨⟨trivial,rfl⟩,h0⟩,Or.inr h49,hc⟩]
      ·rw [if_pos (decide_eq_true (show (c.toNat:Int)≠49 from λh=>h49 ((byteZ c 49 (by omega)).1 h))),if_neg (λh=>h.2.1.elim h48 h49)]
    ·rw [if_pos (decide_eq_true hc),if_neg (λk=>hc k.2.2)]
   ·rw [if_pos h0,if_neg (λk=>h0 k.1.2)]
  by_cases h3':W64 ((a.toNat:Int)-48)=3
  ·rw [if_pos h3']
   refine (key 1 (by rw [if_pos h3']) _ rfl).trans ?_
   congr 1
  ·rw [if_neg h3']
   refine (key 0 (by rw [if_neg h3']) _ rfl).trans ?_
   congr 1
 ·rw [if_pos,if_neg (λk=>h k.1.1)]
  by_cases h1:(cut1 32 s).2.2=true
  ·have e:=cut1_yes h1
   have el:=congrArg List.length e;simp only [List.length_append,List.length_cons] at el;intro k;exact h ⟨h1,by omega⟩
  ·have e:=cut1_no (c:=32) (s:=s) (by simpa using h1)
   rw [e];dsimp only;omega
end Go.Proofs.YtpcpfjpcfcbopaaGreatDoor
set_option linter.unusedVariables false
set_option linter.unusedSimpArgs false
namespace Go.Proofs.YtpcpfjpcfcbopaaGreatDoor
open Go Go.RowKit Go.Wk
theorem cutTl {α:Type} (x:α) (a:List α):cutL (x::a) 1 ((x::a).length:Int)=some a:=by
 unfold cutL;rw [if_pos (by simp only [List.length_cons];omega)];simp
def mstep (K:Bool→Bool→Option Bool) (J:List Int→Option (List Int)) (L:List Int→List Int→List Int→Option (List Int)) (y9 y12 y15:List Int):Option (List Int):=
 if ((y9.length:Int)>0)∨((y12.length:Int)>0) then
 (jn (λ(y24:Bool)=>
  (jn (λ(y26:Bool)=>
   (jn (λ(y28:(List Int)) (y31:Int)=>
    (jn (λ(y33:(List Int)) (y36:Int)=>
     ((K y24 y26).bind λp38=>
      if p38=true then
      ((appL y15 [y36]).bind λz41=>
       L y28 y33 z41)
      else
      (L y28 y33 y15))) λj5=>
     if y26=true then
     ((idx y12 0).bind λz45=>
      (cutL y12 1 ((y12).length)).bind λz48=>
      j5 z48 z45)
     else
     (j5 y12 y31))) λj4=>
    if y24=true then
    ((idx y9 0).bind λz54=>
     (cutL y9 1 ((y9).length)).bind λz57=>
     j4 z57 z54)
    else
    (j4 y9 0))) λj3=>
   if (y12.length:Int)>0 then
   (if (y9.length:Int)=0 then
    (j3 true)
    else
    ((idx y12 0).bind λz64=>
     (idx y9 0).bind λz67=>
     j3 (decide (z64≤z67))))
   else
   (j3 false))) λj2=>
  if (y9.length:Int)>0 then
  (if (y12.length:Int)=0 then
   (j2 true)
   else
   ((idx y9 0).bind λz73=>
    (idx y12 0).bind λz76=>
    j2 (decide (z73≤z76))))
  else
  (j2 false))
 else
 (J y15)
section
variable {K:Bool→Bool→Bool} {J:List Int→Option (List Int)} {L:List Int→List Int→List Int→Option (List Int)} {acc:List Int}
def kpM (L:List Int→List Int→List Int→Option (List Int)) (k:Bool) (x:Int) (a b acc:List Int):Option (List Int):=if k=true then (appL acc [x]).bind λz=>L a b z else L a b acc
theorem len_pos (x:Int) (a:List Int):((x::a).length:Int)>0:=by simp only [List.length_cons];omega
theorem len_ne (x:Int) (a:List Int):¬((x::a).length:Int)=0:=by simp only [List.length_cons];omega
theorem mstep_nil:mstep (λx y=>some (K x y)) J L [] [] acc=J acc:=by
 unfold mstep;rw [if_neg (by simp)]
theorem mstep_l (x:Int) (a:List Int):mstep (λx y=>some (K x y)) J L (x::a) [] acc=kpM L (K true false) x a [] acc:=by
 unfold mstep;rw [if_pos (.inl (len_pos x a))];simp only [jn_eq,if_pos (len_pos x a),List.length_nil,Int.ofNat_zero,if_true,idx0,bndS,cutTl,show ¬((0:Int)>0) from by omega,if_false,kpM,Bool.false_eq_true]
theorem mstep_r (y:Int) (b:List Int):mstep (λx y=>some (K x y)) J L [] (y::b) acc=kpM L (K false true) y [] b acc:=by
 unfold mstep;rw [if_pos (.inr (len_pos y b))];simp only [jn_eq,if_pos (len_pos y b),List.length_nil,Int.ofNat_zero,if_true,idx0,bndS,cutTl,show ¬((0:Int)>0) from by omega,if_false,kpM,Bool.false_eq_true]
theorem mstep_b (x y:Int) (a b:List Int):mstep (λx y=>some (K x y)) J L (x::a) (y::b) acc=if x<y then kpM L (K true false) x a (y::b) acc else if y<x then kpM L (K false true) y (x::a) b acc else kpM L (K true true) x a b acc:=by
 unfold mstep;rw [if_pos (.inl (len_pos x a))];simp only [jn_eq,if_pos (len_pos x a),if_pos (len_pos y b),if_neg (len_ne x a),if_neg (len_ne y b),idx0,bndS,cutTl]
 by_cases h1:x<y
 ·rw [if_pos h1]
  have e1:decide (x≤y)=true:=by simp;omega
  have e2:decide (y≤x)=false:=by simp;omega
  simp only [e1,e2,if_true,Bool.false_eq_true,if_false,kpM]
 ·rw [if_neg h1]
  by_cases h2:y<x
  ·rw [if_pos h2]
   have e1:decide (x≤y)=false:=by simp;omega
   have e2:decide (y≤x)=true:=by simp;omega
   simp only [e1,e2,if_true,Bool.false_eq_true,if_false,kpM]
  ·rw [if_neg h2]
   have e:x=y:=by omega
   subst e
   have e1:decide (x≤x)=true:=by simp
   simp only [e1,if_true,kpM]
def mgE (K:Bool→Bool→Bool) (a b:List Int):List Int:=
 match a,b with
 | [],[]=>[]
 | x::a,[]=>(if K true false=true then [x] else [])++mgE K a []
 | [],y::b=>(if K false true=true then [y] else [])++mgE K [] b
 | x::a,y::b=>if x<y then (if K true false=true then [x] else [])++mgE K a (y::b) else if y<x then (if K false true=true then [y] else [])++mgE K (x::a) b else (if K true true=true then [x] else [])++mgE K a b
termination_by a.length+b.length
theorem kpM_eq {M:List Int→List Int→List Int→Option (List Int)} {G:List Int} (k:Bool) (x:Int) (a b acc:List Int) (hl:acc.length+1≤1073741824) (h:∀ acc',acc'.length≤acc.length+1→M a b acc'=J (acc'++G)):kpM M k x a b acc=J (acc++((if k=true then [x] else [])++G)):=by
 unfold kpM
 cases k with
 | true=>rw [if_pos rfl,if_pos rfl,app_some (by simpa using hl),bndS,h _ (by simp)];simp
 | false=>rw [if_neg (by simp),if_neg (by simp),h _ (by omega)];simp
theorem merge_eq (M:Nat→List Int→List Int→List Int→Option (List Int)) (hM:∀ n a b acc,M (n+1) a b acc=mstep (λx y=>some (K x y)) J (M n) a b acc) :
 ∀ (m n:Nat) (a b acc:List Int),a.length+b.length=m→m<n→acc.length+m≤1073741824→M n a b acc=J (acc++mgE K a b)
 | m,0,_,_,_,_,h,_=>by omega
 | 0,n+1,a,b,acc,h,_,_=>by
  have ha:a=[]:=List.eq_nil_of_length_eq_zero (by omega);have hb:b=[]:=List.eq_nil_of_length_eq_zero (by omega);subst ha hb;rw [hM,mstep_nil,mgE];simp
 | m+1,n+1,a,b,acc,h,hn,hl=>by
  rw [hM]
  match a,b,h with
  | [],[],h=>simp at h
  | x::a,[],h=>
   rw [mstep_l,mgE]
   exact kpM_eq _ _ _ _ _ (by omega) λacc' ha=>merge_eq M hM m n a [] acc' (by simp at h ⊢;omega) (by omega) (by omega)
  | [],y::b,h=>
   rw [mstep_r,mgE]
   exact kpM_eq _ _ _ _ _ (by omega) λacc' ha=>merge_eq M hM m n [] b acc' (by simp at h ⊢;omega) (by omega) (by omega)
  | x::a,y::b,h=>
   rw [mstep_b,mgE]
   by_cases h1:x<y
   ·rw [if_pos h1,if_pos h1]
    exact kpM_eq _ _ _ _ _ (by omega) λacc' ha=>merge_eq M hM m n a (y::b) acc' (by simp at h ⊢;omega) (by omega) (by omega)
   ·rw [if_neg h1,if_neg h1]
    by_cases h2:y<x
    ·rw [if_pos h2,if_pos h2]
     exact kpM_eq _ _ _ _ _ (by omega) λacc' ha=>merge_eq M hM m n (x::a) b acc' (by simp at h ⊢;omega) (by omega) (by omega)
    ·rw [if_neg h2,if_neg h2]
     have hl2:a.length+b.length+2=m+1:=by simp at h;omega
     match m,hl2 with
     | m+1,hl2=>exact kpM_eq _ _ _ _ _ (by omega) λacc' ha=>merge_eq M hM m n a b acc' (by omega) (by omega) (by omega)
end
def kOr (_ _:Bool):Bool:=true
def kAnd (a b:Bool):Bool:=a&&b
def kLess (_ b:Bool):Bool:=!b
section
variable {a b:List Int} (h:a.length+b.length≤1000000)
include h
theorem ixOr_eq:m_index_Or a b=some (mgE kOr a b):=by
 unfold m_index_Or m_index_merge_s1;rw [jn_eq,merge_eq (K:=kOr) (λn=>m_index_merge_s1_L1 (λy=>some y) n) (λn a b acc=>rfl) (a.length+b.length) fuel a b [] rfl (by unfold fuel;omega) (by simp;omega)];simp
theorem ixLess_eq:m_index_Less a b=some (mgE kLess a b):=by
 unfold m_index_Less m_index_merge_s2;rw [jn_eq,merge_eq (K:=kLess) (λn=>m_index_merge_s2_L1 (λy=>some y) n) (λn a b acc=>rfl) (a.length+b.length) fuel a b [] rfl (by unfold fuel;omega) (by simp;omega)];simp
theorem ixAnd_eq:m_index_And a b=some (mgE kAnd a b):=by
 unfold m_index_And m_index_merge_s3
 rw [jn_eq,merge_eq (K:=kAnd) (λn=>m_index_merge_s3_L1 (λy=>some y) n) (λn a b acc=>by
  show mstep (λx y=>some (decide ((x=true)∧(y=true)))) _ _ _ _ _=_
  congr 1;funext x y;cases x<;>cases y<;>rfl) (a.length+b.length) fuel a b [] rfl (by unfold fuel;omega) (by simp;omega)]
 simp
end
end Go.Proofs.YtpcpfjpcfcbopaaGreatDoor
set_option linter.unusedVariables false
set_option linter.unusedSimpArgs false
namespace Go.Proofs.YtpcpfjpcfcbopaaGreatDoor
open Go Go.RowKit Go.Wk
variable {K:Bool→Bool→Bool}
theorem mem_if (k:Bool) (x z:Int) (G:List Int):z∈(if k=true then [x] else [])++G↔(k=true∧z=x)∨z∈G:=by cases k<;>simp
theorem mg_sub (z:Int):∀ a b:List Int,z∈mgE K a b→z∈a∨z∈b
 | [],[],h=>by rw [mgE] at h;cases h
 | x::a,[],h=>by
  rw [mgE,mem_if] at h
  rcases h with ⟨_,rfl⟩|h
  ·simp
  ·have:=mg_sub z a [] h;simp at this ⊢;exact .inr this
 | [],y::b,h=>by
  rw [mgE,mem_if] at h
  rcases h with ⟨_,rfl⟩|h
  ·simp
  ·have:=mg_sub z [] b h;simp at this ⊢;exact .inr this
 | x::a,y::b,h=>by
  rw [mgE] at h
  split at h
  ·rw [mem_if] at h
   rcases h with ⟨_,rfl⟩|h
   ·simp
   ·rcases mg_sub z a (y::b) h with h | h
    ·exact .inl (List.mem_cons_of_mem _ h)
    ·exact .inr h
  ·split at h
   ·rw [mem_if] at h
    rcases h with ⟨_,rfl⟩|h
    ·simp
    ·rcases mg_sub z (x::a) b h with h | h
     ·exact .inl h
     ·exact .inr (List.mem_cons_of_mem _ h)
   ·rw [mem_if] at h
    rcases h with ⟨_,rfl⟩|h
    ·simp
    ·rcases mg_sub z a b h with h | h
     ·exact .inl (List.mem_cons_of_mem _ h)
     ·exact .inr (List.mem_cons_of_mem _ h)
termination_by a b=>a.length+b.length
abbrev Asc (l:List Int):Prop:=l.Pairwise (·<·)
theorem asc_if {k:Bool} {x:Int} {G:List Int} (h:Asc G) (hx:∀ z∈G,x<z):Asc ((if k=true then [x] else [])++G):=by
 cases k with
 | true=>simpa using ⟨hx,h⟩
 | false=>simpa using h
theorem mg_asc:∀ a b:List Int,Asc a→Asc b→Asc (mgE K a b)
 | [],[],_,_=>by rw [mgE];exact List.Pairwise.nil
 | x::a,[],ha,hb=>by
  rw [mgE];have ha':=List.pairwise_cons.1 ha
  exact asc_if (mg_asc a [] ha'.2 hb) λz hz=>by rcases mg_sub z _ _ hz with h|h;exact ha'.1 z h;cases h
 | [],y::b,ha,hb=>by
  rw [mgE];have hb':=List.pairwise_cons.1 hb
  exact asc_if (mg_asc [] b ha hb'.2) λz hz=>by rcases mg_sub z _ _ hz with h|h;cases h;exact hb'.1 z h
 | x::a,y::b,ha,hb=>by
  have ha':=List.pairwise_cons.1 ha;have hb':=List.pairwise_cons.1 hb;rw [mgE]
  split
  ·rename_i h1
   refine asc_if (mg_asc a (y::b) ha'.2 hb) λz hz=>?_
   rcases mg_sub z _ _ hz with h|h
   ·exact ha'.1 z h
   ·rcases List.mem_cons.1 h with rfl | h
    ·exact h1
    ·have:=hb'.1 z h;omega
  ·split
   ·rename_i h1 h2
    refine asc_if (mg_asc (x::a) b ha hb'.2) λz hz=>?_
    rcases mg_sub z _ _ hz with h|h
    ·rcases List.mem_cons.1 h with rfl | h
     ·exact h2
     ·have:=ha'.1 z h;omega
    ·exact hb'.1 z h
   ·rename_i h1 h2
    refine asc_if (mg_asc a b ha'.2 hb'.2) λz hz=>?_
    rcases mg_sub z _ _ hz with h|h
    ·exact ha'.1 z h
    ·have:=hb'.1 z h;omega
termination_by a b=>a.length+b.length
abbrev inB (z:Int) (l:List Int):Bool:=decide (z∈l)
theorem inB_ne {x z:Int} {l:List Int} (h:z≠x):inB z (x::l)=inB z l:=by simp [inB,h]
theorem inB_no {z:Int} {l:List Int} (h:z ∉ l):inB z l=false:=by simp [inB,h]
theorem inB_hd {z:Int} {l:List Int}:inB z (z::l)=true:=by simp [inB]
theorem inB_nil {z:Int}:inB z []=false:=rfl
theorem mg_mem (z:Int):∀ a b:List Int,Asc a→Asc b→(z∈mgE K a b↔(z∈a∨z∈b)∧K (inB z a) (inB z b)=true)
 | [],[],_,_=>by rw [mgE];simp
 | x::a,[],ha,hb=>by
  have ha':=List.pairwise_cons.1 ha;rw [mgE,mem_if,mg_mem z a [] ha'.2 hb]
  by_cases h:z=x
  ·subst h
   have hn:z ∉ a:=λhh=>by have:=ha'.1 z hh;omega
   simp [hn,inB_nil]
  ·rw [inB_ne h];simp [h,inB_nil]
 | [],y::b,ha,hb=>by
  have hb':=List.pairwise_cons.1 hb;rw [mgE,mem_if,mg_mem z [] b ha hb'.2]
  by_cases h:z=y
  ·subst h
   have hn:z ∉ b:=λhh=>by have:=hb'.1 z hh;omega
   simp [hn,inB_nil]
  ·rw [inB_ne h];simp [h,inB_nil]
 | x::a,y::b,ha,hb=>by
  have ha':=List.pairwise_cons.1 ha;have hb':=List.pairwise_cons.1 hb;rw [mgE]
  split
  ·rename_i h1
   rw [mem_if,mg_mem z a (y::b) ha'.2 hb]
   by_cases h:z=x
   ·subst h
    have hn:z ∉ a:=λhh=>by have:=ha'.1 z hh;omega
    have hm:z ∉ y::b:=λhh=>by
     rcases List.mem_cons.1 hh with rfl|hh
     ·omega
     ·have:=hb'.1 z hh;omega
    rw [inB_no hm];simp [hn,hm]
   ·rw [inB_ne h];simp [h]
  ·split
   ·rename_i h1 h2
    rw [mem_if,mg_mem z (x::a) b ha hb'.2]
    by_cases h:z=y
    ·subst h
     have hn:z ∉ b:=λhh=>by have:=hb'.1 z hh;omega
     have hm:z ∉ x::a:=λhh=>by
      rcases List.mem_cons.1 hh with rfl|hh
      ·omega
      ·have:=ha'.1 z hh;omega
     rw [inB_no hm];simp [hn,hm]
    ·rw [inB_ne h];simp [h]
   ·rename_i h1 h2
    have e:x=y:=by omega
    subst e;rw [mem_if,mg_mem z a b ha'.2 hb'.2]
    by_cases h:z=x
    ·subst h
     have hn:z ∉ a:=λhh=>by have:=ha'.1 z hh;omega
     have hm:z ∉ b:=λhh=>by have:=hb'.1 z hh;omega
     rw [inB_hd,inB_hd];simp [hn,hm]
    ·rw [inB_ne h,inB_ne h];simp [h]
termination_by a b=>a.length+b.length
theorem len_if (k:Bool) (x:Int) (G:List Int):((if k=true then [x] else [])++G).length=(if k=true then 1 else 0)+G.length:=by cases k<;>simp;omega
end Go.Proofs.YtpcpfjpcfcbopaaGreatDoor
set_option linter.unusedVariables false
set_option linter.unusedSimpArgs false
namespace Go.Proofs.YtpcpfjpcfcbopaaGreatDoor
open Go Go.RowKit Go.Wk
section
variable {α:Type}
def rowF (P:α→Bool):Nat→List α→List Int
 | _,[]=>[]
 | i,k::q=>(if P k=true then [(i:Int)] else [])++rowF P (i+1) q
theorem rowF_mem (P:α→Bool) (z:Int):∀ (i:Nat) (q:List α),z∈rowF P i q↔∃ j k,q[j]?=some k∧P k=true∧z=((i+j:Nat):Int)
 | i,[]=>by simp [rowF]
 | i,k::q=>by
  rw [rowF,mem_if,rowF_mem P z (i+1) q]
  constructor
  ·rintro (⟨h1,h2⟩ | ⟨j,x,h1,h2,h3⟩)
   ·exact ⟨0,k,rfl,h1,h2⟩
   ·exact ⟨j+1,x,h1,h2,by rw [h3];congr 1;omega⟩
  ·rintro ⟨j,x,h1,h2,h3⟩
   cases j with
   | zero=>simp at h1;subst h1;exact .inl ⟨h2,h3⟩
   | succ j=>exact .inr ⟨j,x,h1,h2,by rw [h3];congr 1;omega⟩
theorem rowF_asc (P:α→Bool):∀ (i:Nat) (q:List α),Asc (rowF P i q)
 | i,[]=>List.Pairwise.nil
 | i,k::q=>asc_if (rowF_asc P (i+1) q) λz hz=>by
  obtain ⟨j,x,_,_,h⟩:=(rowF_mem P z _ q).1 hz
  omega
theorem rowF_snoc (P:α→Bool) (k:α):∀ (i:Nat) (q:List α),rowF P i (q++[k])=rowF P i q++(if P k=true then [((i+q.length:Nat):Int)] else [])
 | i,[]=>by simp [rowF]
 | i,x::q=>by
  rw [List.cons_append,rowF,rowF_snoc P k (i+1) q,rowF,List.append_assoc,List.length_cons]
  have e:i+1+q.length=i+(q.length+1):=by omega
  rw [e]
theorem rowF_len (P:α→Bool):∀ (i:Nat) (q:List α),(rowF P i q).length≤q.length
 | i,[]=>by simp [rowF]
 | i,k::q=>by
  have:=rowF_len P (i+1) q;rw [rowF,len_if];simp only [List.length_cons]
  split<;>omega
theorem rowF_none (i:Nat) (q:List α):rowF (λ_=>false) i q=[]:=by
 induction q generalizing i with
 | nil=>rfl
 | cons k q ih=>rw [rowF,ih];rfl
theorem rowF_ext {P Q:α→Bool} {i:Nat} {q:List α} (h:∀ k∈q,P k=Q k):rowF P i q=rowF Q i q:=by
 induction q generalizing i with
 | nil=>rfl
 | cons k q ih=>rw [rowF,rowF,h k (by simp),ih λx hx=>h x (by simp [hx])]
theorem asc_ext:∀ {a b:List Int},Asc a→Asc b→(∀ z,z∈a↔z∈b)→a=b
 | [],[],_,_,_=>rfl
 | x::a,[],_,_,h=>by have:=(h x).1 (by simp);cases this
 | [],y::b,_,_,h=>by have:=(h y).2 (by simp);cases this
 | x::a,y::b,ha,hb,h=>by
  have ha':=List.pairwise_cons.1 ha;have hb':=List.pairwise_cons.1 hb
  have e:x=y:=by
   rcases List.mem_cons.1 ((h x).1 (by simp)) with h1|h1
   ·exact h1
   ·rcases List.mem_cons.1 ((h y).2 (by simp)) with h2 | h2
    ·exact h2.symm
    ·have:=hb'.1 x h1;have:=ha'.1 y h2;omega
  subst e
  congr 1
  refine asc_ext ha'.2 hb'.2 λz=>?_
  have hz:=h z
  constructor
  ·intro h1
   have h3:=ha'.1 z h1
   rcases List.mem_cons.1 (hz.1 (by simp [h1])) with h2|h2
   ·omega
   ·exact h2
  ·intro h1
   have h3:=hb'.1 z h1
   rcases List.mem_cons.1 (hz.2 (by simp [h1])) with h2|h2
   ·omega
   ·exact h2
theorem rowF_in (P:α→Bool) (q:List α) {j:Nat} {k:α} (h:q[j]?=some k):inB ((j:Nat):Int) (rowF P 0 q)=P k:=by
 have e:=rowF_mem P ((j:Nat):Int) 0 q
 cases hp:P k with
 | true=>exact decide_eq_true (e.2 ⟨j,k,h,hp,by simp⟩)
 | false=>
  refine decide_eq_false λhh=>?_
  obtain ⟨j',k',h1,h2,h3⟩:=e.1 hh
  have:j'=j:=by omega
  subst this;rw [h] at h1
  injection h1 with h1
  rw [h1,h2] at hp
  cases hp
theorem mg_rowF (K:Bool→Bool→Bool) (hK:K false false=false∨K=kLess∨K=kOr) (P Q:α→Bool) (q:List α):mgE K (rowF P 0 q) (rowF Q 0 q)=rowF (λk=>(P k||Q k)&&K (P k) (Q k)) 0 q:=by
 refine asc_ext (mg_asc _ _ (rowF_asc P 0 q) (rowF_asc Q 0 q)) (rowF_asc _ 0 q) λz=>?_
 rw [mg_mem z _ _ (rowF_asc P 0 q) (rowF_asc Q 0 q)]
 constructor
 ·rintro ⟨h1,h2⟩
  have h3:∃ j k,q[j]?=some k∧z=((j:Nat):Int):=by
   rcases h1 with h1|h1
   ·obtain ⟨j,k,h4,_,h5⟩:=(rowF_mem P z 0 q).1 h1;exact ⟨j,k,h4,by rw [h5];simp⟩
   ·obtain ⟨j,k,h4,_,h5⟩:=(rowF_mem Q z 0 q).1 h1;exact ⟨j,k,h4,by rw [h5];simp⟩
  obtain ⟨j,k,hk,rfl⟩:=h3;rw [rowF_in P q hk,rowF_in Q q hk] at h2;refine (rowF_mem _ _ 0 q).2 ⟨j,k,hk,?_,by simp⟩;rw [h2,Bool.and_true,Bool.or_eq_true,← rowF_in P q hk,← rowF_in Q q hk];exact h1.imp decide_eq_true decide_eq_true
 ·intro h
  obtain ⟨j,k,hk,h1,h2⟩:=(rowF_mem _ z 0 q).1 h;rw [Nat.zero_add] at h2;subst h2;rw [Bool.and_eq_true,Bool.or_eq_true] at h1;rw [rowF_in P q hk,rowF_in Q q hk];refine ⟨h1.1.imp (λh=>?_) λh=>?_,h1.2⟩
  ·rw [← rowF_in P q hk] at h;exact of_decide_eq_true h
  ·rw [← rowF_in Q q hk] at h;exact of_decide_eq_true h
theorem and_rowF (P Q:α→Bool) (q:List α):mgE kAnd (rowF P 0 q) (rowF Q 0 q)=rowF (λk=>P k&&Q k) 0 q:=by
 rw [mg_rowF kAnd (.inl rfl)]
 exact rowF_ext λk _=>by cases P k<;>cases Q k<;>rfl
theorem or_rowF (P Q:α→Bool) (q:List α):mgE kOr (rowF P 0 q) (rowF Q 0 q)=rowF (λk=>P k||Q k) 0 q:=by
 rw [mg_rowF kOr (.inr (.inr rfl))]
 exact rowF_ext λk _=>by cases P k<;>cases Q k<;>rfl
theorem less_rowF (P Q:α→Bool) (q:List α):mgE kLess (rowF P 0 q) (rowF Q 0 q)=rowF (λk=>P k && !Q k) 0 q:=by
 rw [mg_rowF kLess (.inr (.inl rfl))]
 exact rowF_ext λk _=>by cases P k<;>cases Q k<;>rfl
end
section
variable {κ β:Type} [DecidableEq κ]
theorem lookO_put (a b:κ) (xs:List β):∀ R:Ko κ β,lookO a (putO b xs R)=if a=b then xs else lookO a R
 | []=>by
  unfold lookO putO
  by_cases h:b=a
  ·simp [h]
  ·simp [h,Ne.symm h]
 | p::R=>by
  have ih:=lookO_put a b xs R;unfold lookO at ih ⊢;unfold putO
  by_cases h:p.1=b
  ·rw [if_pos h]
   by_cases h2:b=a
   ·subst h2;simp [h]
   ·have h3:¬p.1=a:=λhh=>h2 (h.symm.trans hh)
    simp [h2,h3,Ne.symm h2]
  ·rw [if_neg h]
   by_cases h2:p.1=a
   ·have h3:¬a=b:=λhh=>h (h2.trans hh)
    simp [h2,h3]
   ·simp only [List.find?_cons,h2,decide_false]
    exact ih
theorem putO_mem (a b:κ) (xs:List β):∀ R:Ko κ β,a∈(putO b xs R).map (·.1)↔a=b∨a∈R.map (·.1)
 | []=>by simp [putO]
 | p::R=>by
  unfold putO
  by_cases h:p.1=b
  ·rw [if_pos h];simp [h]
  ·rw [if_neg h]
   have ih:=putO_mem a b xs R;simp only [List.map_cons,List.mem_cons] at ih ⊢;rw [ih]
   constructor
   ·rintro (h | h | h)
    ·exact .inr (.inl h)
    ·exact .inl h
    ·exact .inr (.inr h)
   ·rintro (h | h | h)
    ·exact .inr (.inl h)
    ·exact .inl h
    ·exact .inr (.inr h)
theorem putO_len (b:κ) (xs:List β):∀ R:Ko κ β,(putO b xs R).length≤R.length+1
 | []=>by simp [putO]
 | p::R=>by
  unfold putO;have ih:=putO_len b xs R
  split<;>simp<;>omega
end
section
variable {β:Type}
theorem lookP_put' (a b:List UInt8) (x:β):∀ R:Kv β,lookP a (putP b x R)=if a=b then some x else lookP a R
 | []=>by
  unfold lookP putP
  by_cases h:b=a
  ·simp [h]
  ·simp [h,Ne.symm h]
 | p::R=>by
  have ih:=lookP_put' a b x R;unfold lookP at ih ⊢;unfold putP
  by_cases h:p.1=b
  ·rw [if_pos h]
   by_cases h2:b=a
   ·subst h2;simp [h]
   ·have h3:¬p.1=a:=λhh=>h2 (h.symm.trans hh)
    simp [h2,h3,Ne.symm h2]
  ·rw [if_neg h]
   by_cases h2:p.1=a
   ·have h3:¬a=b:=λhh=>h (h2.trans hh)
    simp [h2,h3]
   ·simp only [List.find?_cons,h2,decide_false]
    exact ih
end
end Go.Proofs.YtpcpfjpcfcbopaaGreatDoor
set_option linter.unusedVariables false
set_option linter.unusedSimpArgs false
namespace Go.Proofs.YtpcpfjpcfcbopaaGreatDoor
open Go Go.RowKit Go.Wk
def attrs (k:Txt):List Pr:=(serE k).1.Attrs++[⟨[],(serE k).1.Name⟩]
theorem serE_at (k:Txt) (h:(serE k).2=0):∃ nm m,(parse (cut1 32 k).1)=(nm,m,0,0)∧nameB nm=true∧m.length≤4∧chk [] m=0∧(serE k).1.Attrs=m∧(serE k).1.Name=nm:=by
 unfold serE at h ⊢
 split at h
 ·rename_i hc
  obtain ⟨nm,m,h1,h2,h3,h4,_⟩:=parse_ok hc.1.2;refine ⟨nm,m,h1,h2,h3,h4,?_,?_⟩
  ·rw [if_pos hc,h1];rfl
  ·rw [if_pos hc,h1];rfl
 ·simp at h
theorem nameB_ne {s:Txt} (h:nameB s=true):s≠[]:=by rintro rfl;simp [nameB] at h
abbrev Dis (l:List Pr):Prop:=l.Pairwise λa b=>a.Key≠b.Key
theorem attrs_dis {k:Txt} (h:(serE k).2=0):Dis (attrs k)∧(attrs k).length≤5:=by
 obtain ⟨nm,m,_,_,h3,h4,h5,h6⟩:=serE_at k h;have hc:=(chk_iff m []).1 h4;unfold attrs;rw [h5,h6];refine ⟨List.pairwise_append.2 ⟨hc.2.2,List.pairwise_singleton _ _,λa ha b hb=>?_⟩,by simp;omega⟩;simp at hb;subst hb;exact nameB_ne (hc.1 a ha).1
theorem dis_nodup {l:List Pr} (h:Dis l):l.Nodup:=h.imp λhab he=>hab (congrArg T_api_Pair.Key he)
abbrev Rows35:=Ko Pr Int
def addK (l:List Pr) (i:Int) (R:Rows35):Rows35:=l.foldl (λR a=>putO a (lookO a R++[i]) R) R
theorem addK_look (a:Pr) (i:Int):∀ (l:List Pr) (R:Rows35),l.Nodup→lookO a (addK l i R)=lookO a R++(if a∈l then [i] else [])
 | [],R,_=>by simp [addK]
 | b::l,R,h=>by
  obtain ⟨h1,h2⟩:=List.nodup_cons.1 h;show lookO a (addK l i (putO b (lookO b R++[i]) R))=_;rw [addK_look a i l _ h2,lookO_put]
  by_cases e:a=b
  ·subst e;simp [h1]
  ·simp [e]
theorem addK_mem (a:Pr) (i:Int):∀ (l:List Pr) (R:Rows35),a∈(addK l i R).map (·.1)↔a∈l∨a∈R.map (·.1)
 | [],R=>by simp [addK]
 | b::l,R=>by
  show a∈(addK l i (putO b (lookO b R++[i]) R)).map (·.1)↔_;rw [addK_mem a i l,putO_mem,List.mem_cons]
  constructor
  ·rintro (h | h | h)
   ·exact .inl (.inr h)
   ·exact .inl (.inl h)
   ·exact .inr h
  ·rintro ((h | h) | h)
   ·exact .inr (.inl h)
   ·exact .inl h
   ·exact .inr (.inr h)
theorem addK_len (i:Int):∀ (l:List Pr) (R:Rows35),(addK l i R).length≤R.length+l.length
 | [],R=>by simp [addK]
 | b::l,R=>by
  have h1:=addK_len i l (putO b (lookO b R++[i]) R);have h2:=putO_len b (lookO b R++[i]) R;show (addK l i (putO b (lookO b R++[i]) R)).length≤_;simp only [List.length_cons];omega
def rowsI:Nat→List Txt→Rows35→Rows35
 | _,[],R=>R
 | i,k::q,R=>rowsI (i+1) q (addK (attrs k) i R)
abbrev OkK (k:Txt):Prop:=(serE k).2=0
theorem rowsI_look (a:Pr):∀ (i:Nat) (q:List Txt) (R:Rows35),(∀ k∈q,OkK k)→lookO a (rowsI i q R)=lookO a R++rowF (λk=>decide (a∈attrs k)) i q
 | i,[],R,_=>by simp [rowsI,rowF]
 | i,k::q,R,h=>by
  rw [rowsI,rowsI_look a (i+1) q _ λx hx=>h x (by simp [hx]),addK_look a i _ _ (dis_nodup (attrs_dis (h k (by simp))).1),rowF,List.append_assoc];simp
theorem rowsI_mem (a:Pr):∀ (i:Nat) (q:List Txt) (R:Rows35),a∈(rowsI i q R).map (·.1)↔(∃ k∈q,a∈attrs k)∨a∈R.map (·.1)
 | i,[],R=>by simp [rowsI]
 | i,k::q,R=>by
  rw [rowsI,rowsI_mem a (i+1) q,addK_mem]
  constructor
  ·rintro (⟨x,h1,h2⟩ | h | h)
   ·exact .inl ⟨x,by simp [h1],h2⟩
   ·exact .inl ⟨k,by simp,h⟩
   ·exact .inr h
  ·rintro (⟨x,h1,h2⟩ | h)
   ·rcases List.mem_cons.1 h1 with rfl | h1
    ·exact .inr (.inl h2)
    ·exact .inl ⟨x,h1,h2⟩
   ·exact .inr (.inr h)
theorem rowsI_len:∀ (i:Nat) (q:List Txt) (R:Rows35),(∀ k∈q,OkK k)→(rowsI i q R).length≤R.length+5*q.length
 | i,[],R,_=>by simp [rowsI]
 | i,k::q,R,h=>by
  have h1:=rowsI_len (i+1) q (addK (attrs k) i R) λx hx=>h x (by simp [hx])
  have h2:=addK_len i (attrs k) R;have h3:=(attrs_dis (h k (by simp))).2;rw [rowsI];simp only [List.length_cons];omega
theorem rowsI_snoc (k:Txt):∀ (i:Nat) (q:List Txt) (R:Rows35),rowsI i (q++[k]) R=addK (attrs k) ((i+q.length:Nat):Int) (rowsI i q R)
 | i,[],R=>by simp [rowsI]
 | i,x::q,R=>by
  rw [List.cons_append,rowsI,rowsI_snoc k (i+1) q,rowsI,List.length_cons]
  have e:i+1+q.length=i+(q.length+1):=by omega
  rw [e]
def goN:List Txt→List Txt→Rows35→Option T_index_Index×Int×Int
 | p,[],R=>(some ⟨p,R⟩,0,0)
 | p,k::q,R=>if (serE k).2≠0 then (none,p.length,(serE k).2) else if k∈p then (none,p.length,8) else goN (p++[k]) q (addK (attrs k) p.length R)
theorem newL2 (i:Int) (l:List Pr) (j:T_index_Index→Option (Option T_index_Index×Int×Int)) (x:T_index_Index) (hl:l.length≤1000) (hb:∀ a,(lookO a x.rows).length≤1000000) :
 m_index_New_L2 i l j fuel 0 x=j ⟨x.keys,addK l i x.rows⟩:=by
 rw [m_index_New_L2_scan _ _ _ _ (by omega)];refine scanL_inv (λ(p:List Pr) (s:T_index_Index)=>∀ a,(lookO a s.rows).length≤1000000+p.length) (λ(_ q:List Pr) (s:T_index_Index)=>j ⟨s.keys,addK q i s.rows⟩) hb (λs _=>rfl) ?_;intro p a q s k hp hI hk
 have hpl:p.length+q.length+1≤1000:=by rw [← hp] at hl;simp at hl;omega
 have hla:=hI a;rw [bndS,app_some (by simp;omega),bndS,hk _ λb=>?_]
 ·rfl
 ·have:=hI b
  simp only [lookO_put]
  split<;>simp<;>omega
theorem new_eq (ks:List Txt) (hn:ks.length≤1000) (hk:∀ k∈ks,k.length≤10000):m_index_New ks=some (goN [] ks []):=by
 unfold m_index_New;rw [if_neg (by omega),jn_eq,m_index_New_L1_scan _ _ _ _ (by omega)];refine (scanL_inv (λ(p:List Txt) (s:Kv Int×T_index_Index)=>(∀ k,(lookP k s.1).getD 0=if k∈p then 1 else 0)∧s.2.keys=p∧s.2.rows=rowsI 0 p []∧∀ k∈p,OkK k) (λ(p q:List Txt) (s:Kv Int×T_index_Index)=>some (goN p q s.2.rows)) ⟨λk=>by simp [lookP],rfl,rfl,λk h=>by cases h⟩ ?_ ?_)
 ·rintro ⟨s,x⟩ ⟨_,h1,_,_⟩
  cases x
  cases h1
  rfl
 ·rintro p k q ⟨s,x⟩ kk hp ⟨h1,h2,h3,h4⟩ hkk
  have hpl:p.length+q.length+1≤1000:=by rw [← hp] at hn;simp at hn;omega
  have hkl:k.length≤10000:=hk k (by rw [← hp];simp);dsimp only at h1 h2 h3 ⊢;simp only [bndS,jn_eq,series_eq k hkl,goN,h1 k]
  by_cases he:(serE k).2=0
  ·obtain ⟨nm,m,g1,g2,g3,g4,g5,g6⟩:=serE_at k he
   by_cases hm:k∈p
   ·simp [he,hm]
   ·have e1:¬(decide ((if k∈p then (1:Int) else 0)>0)=true):=by simp [hm]
    simp only [he,if_true,ne_eq,not_true_eq_false,if_false,hm,e1]
    rw [if_neg (by decide),app_some (by rw [h2];simp;omega),bndS,app_some (by rw [g5];simp;omega),bndS,newL2 _ _ _ _ (by simp;rw [g5];omega) (λa=>by
     dsimp only;rw [h3,rowsI_look a 0 p [] h4];have:=rowF_len (λk=>decide (a∈attrs k)) 0 p
     simp [lookO] at this ⊢;omega)]
    have e2:W64 (0+1)=1:=by decide
    rw [hkk _ ⟨λb=>?_,?_,?_,?_⟩]
    ·rfl
    ·show x.keys++[k]=p++[k]
     rw [h2]
    ·show addK (attrs k) p.length x.rows=_
     rw [h3];have:=rowsI_snoc k 0 p [];rw [Nat.zero_add] at this;exact this.symm
    ·intro b hb
     rcases List.mem_append.1 hb with hb|hb
     ·exact h4 b hb
     ·simp at hb;subst hb;exact he
    ·dsimp only
     rw [lookP_put',e2]
     by_cases hb:b=k
     ·subst hb;simp
     ·simp only [hb,if_false,h1 b,List.mem_append,List.mem_singleton,or_false]
  ·simp [he]
theorem goN_some:∀ (q p:List Txt) (R:Rows35) (x:T_index_Index) (a e:Int),goN p q R=(some x,a,e)→x=⟨p++q,rowsI p.length q R⟩∧(∀ k∈q,OkK k)∧a=0∧e=0∧(∀ k∈q,k ∉ p)∧q.Nodup
 | [],p,R,x,a,e,h=>by
  simp only [goN,Prod.mk.injEq,Option.some.injEq] at h;obtain ⟨rfl,rfl,rfl⟩:=h;simp [rowsI]
 | k::q,p,R,x,a,e,h=>by
  rw [goN] at h
  split at h
  ·simp at h
  ·rename_i he
   split at h
   ·simp at h
   ·rename_i hm
    obtain ⟨h1,h2,h3,h4,h5,h6⟩:=goN_some q (p++[k]) _ x a e h;refine ⟨by rw [h1];simp [rowsI],λb hb=>?_,h3,h4,λb hb=>?_,?_⟩
    ·rcases List.mem_cons.1 hb with rfl | hb
     ·exact Classical.not_not.1 he
     ·exact h2 b hb
    ·rcases List.mem_cons.1 hb with rfl | hb
     ·exact hm
     ·exact λhh=>h5 b hb (by simp [hh])
    ·exact List.nodup_cons.2 ⟨λhh=>h5 k hh (by simp),h6⟩
end Go.Proofs.YtpcpfjpcfcbopaaGreatDoor
set_option linter.unusedVariables false
set_option linter.unusedSimpArgs false
namespace Go.Proofs.YtpcpfjpcfcbopaaGreatDoor
open Go Go.RowKit Go.Wk
def look35 (k key:Txt):Option Txt:=((attrs k).find? λa=>decide (a.Key=key)).map (·.Val)
theorem find_dis:∀ {l:List Pr} {key v:Txt},Dis l→((⟨key,v⟩:Pr)∈l↔(l.find? λa=>decide (a.Key=key)).map (·.Val)=some v)
 | [],key,v,_=>by simp
 | a::l,key,v,h=>by
  obtain ⟨h1,h2⟩:=List.pairwise_cons.1 h
  by_cases e:a.Key=key
  ·rw [List.find?_cons,decide_eq_true e,List.mem_cons]
   constructor
   ·rintro (h3 | h3)
    ·rw [← h3];rfl
    ·exact (h1 _ h3 e).elim
   ·intro h3
    left
    cases a
    simp at h3 e;rw [e,h3]
  ·rw [List.find?_cons,decide_eq_false e,List.mem_cons,← find_dis h2]
   constructor
   ·rintro (h3 | h3)
    ·exact (e (by rw [← h3])).elim
    ·exact h3
   ·exact .inr
theorem look_iff {k:Txt} (h:OkK k) (key v:Txt):(⟨key,v⟩:Pr)∈attrs k↔look35 k key=some v:=find_dis (attrs_dis h).1
theorem attrs_len {k:Txt} (h:OkK k):∀ a∈attrs k,a.Val.length≤32:=by
 obtain ⟨nm,m,_,h2,_,h4,h5,h6⟩:=serE_at k h;have hc:=(chk_iff m []).1 h4;intro a ha;unfold attrs at ha;rw [h5,h6] at ha
 rcases List.mem_append.1 ha with ha|ha
 ·have:=(hc.1 a ha).2
  unfold valB at this;simp at this;exact this.1.1
 ·simp at ha;subst ha
  unfold nameB at h2;simp at h2;exact h2.1
structure IxOk (x:T_index_Index) (ks:List Txt):Prop where
 keys:x.keys=ks
 rows:x.rows=rowsI 0 ks []
 ok:∀ k∈ks,OkK k
 len:ks.length≤1000
theorem IxOk.of {ks:List Txt} {x:T_index_Index} {a e:Int} (hn:ks.length≤1000) (h:goN [] ks []=(some x,a,e)):IxOk x ks:=by
 obtain ⟨h1,h2,_⟩:=goN_some ks [] [] x a e h;exact ⟨by rw [h1];rfl,by rw [h1];rfl,h2,hn⟩
section
variable {x:T_index_Index} {ks:List Txt} (hx:IxOk x ks)
include hx
theorem IxOk.look (key v:Txt):lookO (⟨key,v⟩:Pr) x.rows=rowF (λk=>decide (look35 k key=some v)) 0 ks:=by
 rw [hx.rows,rowsI_look _ _ _ _ hx.ok];have:lookO (⟨key,v⟩:Pr) ([]:Rows35)=[]:=rfl;rw [this,List.nil_append]
 exact rowF_ext λk hk=>by simp only [look_iff (hx.ok k hk)]
theorem IxOk.all:m_index_Index_all x=some (rowF (λ_=>true) 0 ks):=by
 have hl:=hx.len;unfold m_index_Index_all;rw [hx.keys]
 have mk:mkL (ks.length:Int) (0:Int)=some (List.replicate ks.length 0):=by unfold mkL;rw [if_pos (by omega)];simp
 rw [mk,bndS,jn_eq,m_index_Index_all_L1_scan _ _ _ (by simp;omega)]
 have e:rowF (λ_:Txt=>true) 0 ks=(List.range ks.length).map λj=>((j:Nat):Int):=by
  refine asc_ext (rowF_asc _ 0 ks) ?_ λz=>?_
  ·rw [Asc,List.pairwise_map]
   exact List.pairwise_lt_range.imp λh=>by omega
  ·rw [rowF_mem,List.mem_map]
   constructor
   ·rintro ⟨j,k,h1,_,h3⟩
    exact ⟨j,by rw [List.mem_range];exact (List.getElem?_eq_some_iff.1 h1).1,by rw [h3];simp⟩
   ·rintro ⟨j,h1,h2⟩
    rw [List.mem_range] at h1;exact ⟨j,ks[j],List.getElem?_eq_getElem h1,rfl,by rw [← h2];simp⟩
 rw [e];refine (scanL_inv (λ(p:List Int) (s:List Int)=>s=((List.range p.length).map λj=>((j:Nat):Int))++List.replicate (ks.length-p.length) 0) (λ_ _ _=>some ((List.range ks.length).map λj=>((j:Nat):Int))) (by simp) ?_ ?_)
 ·intro s hs
  rw [hs];simp
 ·intro p y q s kk hp hI hk
  have hpl:p.length+q.length+1=ks.length:=by have:=congrArg List.length hp;simp at this;omega
  have e2:ks.length-p.length=(ks.length-(p.length+1))+1:=by omega
  rw [e2,List.replicate_succ] at hI;rw [hI,idx_mid' (by simp),bndS];refine hk _ ?_;simp only [List.length_append,List.length_singleton,List.range_succ,List.map_append,List.map_cons,List.map_nil,List.append_assoc];unfold setI;rw [List.set_append_right _ _ (by simp)];simp
def vals35 (x:T_index_Index) (key:Txt):List Txt:=((((x.rows.map λp=>p.1).filter λp=>decide (p.Key=key)).map λp=>p.Val)).mergeSort leK
theorem IxOk.vals (key:Txt):m_index_Index_Values x key=some (vals35 x key):=by
 unfold m_index_Index_Values;have h1:=rowsI_len 0 ks [] hx.ok;have h2:=hx.len;rw [hx.rows,if_pos (by simp at h1;omega),← hx.rows]
 rfl
theorem IxOk.vals_mem (key v:Txt):v∈vals35 x key↔∃ k∈ks,look35 k key=some v:=by
 unfold vals35;rw [List.mem_mergeSort,List.mem_map]
 constructor
 ·rintro ⟨a,h1,rfl⟩
  obtain ⟨h2,h3⟩:=List.mem_filter.1 h1;have h3:=of_decide_eq_true h3;rw [hx.rows] at h2;have:=(rowsI_mem a 0 ks []).1 h2
  rcases this with ⟨k,h4,h5⟩|h
  ·refine ⟨k,h4,(look_iff (hx.ok k h4) key a.Val).1 ?_⟩
   rw [← h3];exact h5
  ·simp at h
 ·rintro ⟨k,h1,h2⟩
  refine ⟨⟨key,v⟩,List.mem_filter.2 ⟨?_,by simp⟩,rfl⟩;rw [hx.rows];exact (rowsI_mem _ 0 ks []).2 (.inl ⟨k,h1,(look_iff (hx.ok k h1) key v).2 h2⟩)
theorem IxOk.vals_len (key:Txt):(vals35 x key).length≤10000:=by
 have h1:=rowsI_len 0 ks [] hx.ok;have h2:=hx.len;unfold vals35;rw [List.length_mergeSort,List.length_map];refine Nat.le_trans (List.length_filter_le _ _) ?_;rw [List.length_map,hx.rows];simp at h1;omega
theorem IxOk.val_short {key v:Txt} (h:v∈vals35 x key):v.length≤32:=by
 obtain ⟨k,h1,h2⟩:=(hx.vals_mem key v).1 h;exact attrs_len (hx.ok k h1) _ ((look_iff (hx.ok k h1) key v).2 h2)
def yes35 (M:Txt→Bool) (m:T_api_Match) (k:Txt):Bool:=M ((look35 k m.Key).getD []) != m.Not
theorem IxOk.ask {g:T_glob_Glob} {M:Txt→Bool} (hg:∀ v:Txt,v.length≤1000→m_glob_Glob_Match g v=some (M v)) (m:T_api_Match):m_index_Index_ask x m g=some (rowF (yes35 M m) 0 ks):=by
 have hl:=hx.len;unfold m_index_Index_ask;rw [hx.vals,bndS,jn_eq,m_index_Index_ask_L1_scan _ _ _ _ _ _ _ (by have:=hx.vals_len m.Key;omega)]
 let pH:List Txt→Txt→Bool:=λp k=>p.any λv=>decide (look35 k m.Key=some v)
 let pY:List Txt→Txt→Bool:=λp k=>p.any λv=>decide (look35 k m.Key=some v)&&M v
 refine scanL_inv (λ(p:List Txt) (s:List Int×List Int)=>s=(rowF (pY p) 0 ks,rowF (pH p) 0 ks)) (λ_ _ _=>some (rowF (yes35 M m) 0 ks)) ?_ ?_ ?_
 ·show ([],[])=(rowF (λ_=>false) 0 ks,rowF (λ_=>false) 0 ks)
  rw [rowF_none]
 ·rintro s rfl
  have rl:=λP:Txt→Bool=>rowF_len P 0 ks
  rw [hg [] (by simp),bndS,jn_eq,hx.all];simp only [bndS]
  have fin:∀ B:Bool,B=M []→(λy20=>if m.Not=true then (m_index_Less (rowF (λ_:Txt=>true) 0 ks) y20).bind λp28=>some p28 else some y20) (if B=true then rowF (λk=>pY (vals35 x m.Key) k||(true && !pH (vals35 x m.Key) k)) 0 ks else rowF (pY (vals35 x m.Key)) 0 ks)=some (rowF (yes35 M m) 0 ks):=by
   intro B hB
   have e1:(if B=true then rowF (λk=>pY (vals35 x m.Key) k||(true && !pH (vals35 x m.Key) k)) 0 ks else rowF (pY (vals35 x m.Key)) 0 ks)=rowF (λk=>M ((look35 k m.Key).getD [])) 0 ks:=by
    have hin:∀ k∈ks,∀ v,look35 k m.Key=some v→v∈vals35 x m.Key:=λk hk v hv=>(hx.vals_mem _ _).2 ⟨k,hk,hv⟩
    have hH:∀ k∈ks,pH (vals35 x m.Key) k=(look35 k m.Key).isSome:=by
     intro k hk
     cases hv:look35 k m.Key with
     | none=>simp [pH,hv]
     | some v=>simp [pH,hv];exact hin k hk v hv
    have hY:∀ k∈ks,pY (vals35 x m.Key) k=((look35 k m.Key).map M).getD false:=by
     intro k hk
     cases hv:look35 k m.Key with
     | none=>simp [pY,hv]
     | some v=>
      cases hM:M v with
      | true=>
       simp only [pY,hv,Option.map_some,Option.getD_some,hM,List.any_eq_true];exact ⟨v,hin k hk v hv,by simp [hM]⟩
      | false=>
       simp only [pY,hv,Option.map_some,Option.getD_some,hM,List.any_eq_false];intro v' _ hh;simp at hh;obtain ⟨h1,h2⟩:=hh;rw [← h1,hM] at h2;cases h2
    cases hb:B with
    | true=>
     rw [if_pos rfl]
     refine rowF_ext λk hk=>?_
     rw [hH k hk,hY k hk]
     cases hv:look35 k m.Key with
     | none=>simp [← hB,hb]
     | some v=>simp
    | false=>
     rw [if_neg (by decide)]
     refine rowF_ext λk hk=>?_
     rw [hY k hk]
     cases hv:look35 k m.Key with
     | none=>simp [← hB,hb]
     | some v=>simp
   rw [e1];dsimp only
   cases hN:m.Not with
   | true=>
    rw [if_pos rfl,ixLess_eq (by have:=rl (λ_=>true);have:=rl (λk=>M ((look35 k m.Key).getD []));omega),bndS,less_rowF];exact congrArg some (rowF_ext λk _=>by simp [yes35,hN])
   | false=>
    rw [if_neg (by decide)];exact congrArg some (rowF_ext λk _=>by simp [yes35,hN])
  have:=fin (M []) rfl
  cases hM:M [] with
  | true=>
   rw [hM] at this;rw [if_pos rfl,ixLess_eq (a:=rowF (λ_=>true) 0 ks) (b:=rowF (pH (vals35 x m.Key)) 0 ks) (by have:=rl (λ_=>true);have:=rl (pH (vals35 x m.Key));omega),bndS,less_rowF,ixOr_eq (by have:=rl (pY (vals35 x m.Key));have:=rl (λk=>true && !pH (vals35 x m.Key) k);omega),bndS,or_rowF];exact this
  | false=>
   rw [hM] at this;rw [if_neg (by decide)];exact this
 ·rintro p v q s k hp rfl hk
  have rl:=λP:Txt→Bool=>rowF_len P 0 ks
  have hv:v∈vals35 x m.Key:=by rw [← hp];simp
  rw [jn_eq,bndS,hx.look,ixOr_eq (by have:=rl (pH p);have:=rl (λk=>decide (look35 k m.Key=some v));dsimp only;omega),bndS,or_rowF,hg v (by have:=hx.val_short hv;omega),bndS]
  have eH:rowF (λk=>pH p k||decide (look35 k m.Key=some v)) 0 ks=rowF (pH (p++[v])) 0 ks:=rowF_ext λk _=>by simp [pH]
  cases hM:M v with
  | true=>
   rw [if_pos rfl,ixOr_eq (by have:=rl (pY p);have:=rl (λk=>decide (look35 k m.Key=some v));dsimp only;omega),bndS,or_rowF,eH];exact hk _ (by rw [rowF_ext (P:=λk=>pY p k||decide (look35 k m.Key=some v)) (Q:=pY (p++[v])) λk _=>by simp [pY,hM]])
  | false=>
   rw [if_neg (by decide),eH];exact hk _ (by rw [rowF_ext (P:=pY p) (Q:=pY (p++[v])) λk _=>by simp [pY,hM]])
end
end Go.Proofs.YtpcpfjpcfcbopaaGreatDoor
set_option linter.unusedVariables false
set_option linter.unusedSimpArgs false
namespace Go.Proofs.YtpcpfjpcfcbopaaGreatDoor
open Go Go.RowKit Go.Wk
def wd (s:T_glob_set) (j:Nat):UInt64:=if j=0 then s.a0 else if j=1 then s.a1 else if j=2 then s.a2 else s.a3
def hasB (s:T_glob_set) (c:UInt8):Bool:=(wd s (c.toNat/64)).toNat.testBit (c.toNat%64)
theorem u8lt (c:UInt8):c.toNat<256:=c.toNat_lt
theorem quo64c (c:UInt8):quo8 c 64=some (c/64):=rfl
theorem rem64c (c:UInt8):rem8 c 64=some (c%64):=rfl
theorem div64c (c:UInt8):(c/64).toNat=c.toNat/64:=by rw [UInt8.toNat_div];rfl
theorem mod64c (c:UInt8):(c%64).toNat=c.toNat%64:=by rw [UInt8.toNat_mod];rfl
theorem sh64c (c:UInt8):(toU64 (((c%64).toNat:Nat):Int)).toNat=c.toNat%64:=by
 rw [mod64c];unfold toU64;rw [UInt64.toNat_ofNat'];omega
theorem idx_wd (s:T_glob_set) (c:UInt8):idx ([s.a0,s.a1,s.a2,s.a3]:List UInt64) (((c/64).toNat:Nat):Int)=some (wd s (c.toNat/64)):=by
 rw [idx_nat,div64c]
 have h:c.toNat/64<4:=by have:=u8lt c;omega
 generalize c.toNat/64=j at h
 match j,h with
 | 0,_=>rfl
 | 1,_=>rfl
 | 2,_=>rfl
 | 3,_=>rfl
theorem one_and (x:UInt64):((((x&&&(1:UInt64)).toNat:Nat):Int)=1)↔x.toNat%2=1:=by
 rw [UInt64.toNat_and,show (1:UInt64).toNat=1 from rfl,Nat.and_one_is_mod];omega
theorem has_eq (s:T_glob_set) (c:UInt8):m_glob_set_has s c=some (hasB s c):=by
 unfold m_glob_set_has hasB;rw [quo64c,bndS,idx_wd,bndS,rem64c,bndS,sh64c]
 congr 1
 rw [Nat.testBit_eq_decide_div_mod_eq];refine decide_eq_decide.2 ?_;rw [one_and,shr64_nat]
def addS (s:T_glob_set) (c:UInt8):T_glob_set:=
 ⟨(if (((c/64).toNat:Nat):Int)=0 then (wd s (c.toNat/64))|||(shl64 (1:UInt64) ((toU64 (((c%64).toNat:Nat):Int)).toNat)) else s.a0),(if (((c/64).toNat:Nat):Int)=1 then (wd s (c.toNat/64))|||(shl64 (1:UInt64) ((toU64 (((c%64).toNat:Nat):Int)).toNat)) else s.a1),(if (((c/64).toNat:Nat):Int)=2 then (wd s (c.toNat/64))|||(shl64 (1:UInt64) ((toU64 (((c%64).toNat:Nat):Int)).toNat)) else s.a2),(if (((c/64).toNat:Nat):Int)=3 then (wd s (c.toNat/64))|||(shl64 (1:UInt64) ((toU64 (((c%64).toNat:Nat):Int)).toNat)) else s.a3)⟩
theorem add_step {R:Type} (s:T_glob_set) (c:UInt8) (J:UInt8→UInt64→UInt8→Option R) :
 ((quo8 c (64:UInt8)).bind λz=>(idx ([s.a0,s.a1,s.a2,s.a3]:List UInt64) ((z.toNat:Nat):Int)).bind λw=>(rem8 c (64:UInt8)).bind λr=>J z w r)=J (c/64) (wd s (c.toNat/64)) (c%64):=by
 rw [quo64c,bndS,idx_wd,bndS,rem64c,bndS]
theorem wd_add (s:T_glob_set) (c:UInt8) (j:Nat) (hj:j<4):wd (addS s c) j=if c.toNat/64=j then wd s j|||shl64 1 (c.toNat%64) else wd s j:=by
 have h:c.toNat/64<4:=by have:=u8lt c;omega
 unfold addS;simp only [div64c,sh64c];generalize c.toNat/64=i at h
 match j,hj with
 | 0,_=>match i,h with
  | 0,_ | 1,_ | 2,_ | 3,_=>simp [wd]
 | 1,_=>match i,h with
  | 0,_ | 1,_ | 2,_ | 3,_=>simp [wd]
 | 2,_=>match i,h with
  | 0,_ | 1,_ | 2,_ | 3,_=>simp [wd]
 | 3,_=>match i,h with
  | 0,_ | 1,_ | 2,_ | 3,_=>simp [wd]
theorem bit_nat {m:Nat} (h:m<64):(shl64 1 m).toNat=2^m:=by
 rw [shl64_mod,show (1:UInt64).toNat=1 from rfl,Nat.one_mul,Nat.mod_eq_of_lt];have:(2:Nat)^m≤2^63:=Nat.pow_le_pow_right (by omega) (by omega)
 have e:(2:Nat)^63<18446744073709551616:=by decide
 omega
theorem hasB_add (s:T_glob_set) (c d:UInt8):hasB (addS s c) d=(hasB s d||decide (d=c)):=by
 unfold hasB;rw [wd_add s c _ (by have:=u8lt d;omega)]
 by_cases h:c.toNat/64=d.toNat/64
 ·rw [if_pos h,UInt64.toNat_or,Nat.testBit_or,bit_nat (by omega),Nat.testBit_two_pow]
  congr 1
  refine decide_eq_decide.2 ?_;rw [← UInt8.toNat_inj]
  omega
 ·rw [if_neg h]
  have:¬d=c:=λhh=>h (by rw [hh])
  simp [this]
def spanS:Nat→Nat→T_glob_set→T_glob_set
 | 0,_,s=>s
 | m+1,i,s=>spanS m (i+1) (addS s (UInt8.ofNat i))
theorem hasB_span (d:UInt8):∀ (m i:Nat) (s:T_glob_set),i+m≤256→hasB (spanS m i s) d=(hasB s d||decide (i≤d.toNat∧d.toNat<i+m))
 | 0,i,s,_=>by
  have:¬(i≤d.toNat∧d.toNat<i+0):=by omega
  rw [spanS,decide_eq_false this,Bool.or_false]
 | m+1,i,s,h=>by
  rw [spanS,hasB_span d m (i+1) _ (by omega),hasB_add,Bool.or_assoc]
  congr 1
  have e:(d=UInt8.ofNat i)↔d.toNat=i:=by
   rw [← UInt8.toNat_inj,UInt8.toNat_ofNat'];have:i%2^8=i:=Nat.mod_eq_of_lt (by omega);rw [this]
  rw [← Bool.decide_or];refine decide_eq_decide.2 ?_;rw [e];omega
def notS (s:T_glob_set):T_glob_set:=⟨~~~ s.a0,~~~ s.a1,~~~ s.a2,~~~ s.a3⟩
theorem hasB_not (s:T_glob_set) (d:UInt8):hasB (notS s) d = !hasB s d:=by
 unfold hasB
 have h:d.toNat/64<4:=by have:=u8lt d;omega
 have e:wd (notS s) (d.toNat/64) = ~~~ wd s (d.toNat/64):=by
  unfold notS;generalize d.toNat/64=i at h
  match i,h with
  | 0,_ | 1,_ | 2,_ | 3,_=>rfl
 rw [e];generalize wd s (d.toNat/64)=w
 have e2:(~~~ w).toNat=2^64-(w.toNat+1):=by
  rw [UInt64.toNat_not];have:=w.toNat_lt;simp only [UInt64.size] at *;omega
 rw [e2,Nat.testBit_two_pow_sub_succ w.toNat_lt];have h2:d.toNat%64<64:=Nat.mod_lt _ (by omega);simp [h2]
def s0:T_glob_set:=⟨0,0,0,0⟩
theorem hasB_s0 (d:UInt8):hasB s0 d=false:=by
 unfold hasB
 have h:d.toNat/64<4:=by have:=u8lt d;omega
 have e:wd s0 (d.toNat/64)=0:=by
  generalize d.toNat/64=i at h
  match i,h with
  | 0,_ | 1,_ | 2,_ | 3,_=>rfl
 rw [e];simp
theorem toU8_nat (i:Nat):toU8 ((i:Nat):Int)=UInt8.ofNat i:=by
 apply UInt8.toNat_inj.1;unfold toU8;rw [UInt8.toNat_ofNat',UInt8.toNat_ofNat'];omega
abbrev Pc:=T_glob_piece
theorem spanL (hi:UInt8) (j:Pc→Option (Pc×Int×T_glob_fault)):∀ (m n i:Nat) (y:Pc),m<n→i+m=hi.toNat+1→m_glob_class_L3 hi j n (i:Int) y=j ⟨y.kind,spanS m i y.set,y.plain,y.c⟩
 | 0,n+1,i,y,_,h=>by rw [m_glob_class_L3,if_neg (by omega)];rfl
 | m+1,n+1,i,y,hn,h=>by
  have h256:=u8lt hi;rw [m_glob_class_L3,if_pos (by omega),jn_eq];refine (add_step y.set (toU8 (i:Int)) _).trans ?_;rw [toU8_nat,W64_id (by omega) (by omega)];exact spanL hi j m n (i+1) ⟨y.kind,addS y.set (UInt8.ofNat i),y.plain,y.c⟩ (by omega) (by omega)
theorem fullL (j:Pc→Option (Pc×Int×T_glob_fault)):∀ (m n i:Nat) (y:Pc),m<n→i+m=256→m_glob_next_L1 j n (i:Int) y=j ⟨y.kind,spanS m i y.set,y.plain,y.c⟩
 | 0,n+1,i,y,_,h=>by rw [m_glob_next_L1,if_neg (by simp;omega)];rfl
 | m+1,n+1,i,y,hn,h=>by
  rw [m_glob_next_L1,if_pos (by simp;omega),jn_eq];refine (add_step y.set (toU8 (i:Int)) _).trans ?_;rw [toU8_nat,W64_id (by omega) (by omega)];exact fullL j m n (i+1) ⟨y.kind,addS y.set (UInt8.ofNat i),y.plain,y.c⟩ (by omega) (by omega)
theorem notL (j:Pc→Option (Pc×Int×T_glob_fault)) (n:Nat) (y:Pc):m_glob_class_L1 j (n+5) 0 y=j ⟨y.kind,notS y.set,y.plain,y.c⟩:=by
 obtain ⟨k,⟨a,b,c,d⟩,p,q⟩:=y;rw [m_glob_class_L1,if_pos (by decide),show idx ([a,b,c,d]:List UInt64) 0=some a from rfl,bndS,show W64 (0+1)=1 by decide];rw [m_glob_class_L1,if_pos (by decide)];simp only [if_true,show ¬(0:Int)=1 by decide,show ¬(0:Int)=2 by decide,show ¬(0:Int)=3 by decide,if_false];rw [show idx ([~~~ a,b,c,d]:List UInt64) 1=some b from rfl,bndS,show W64 (1+1)=2 by decide];rw [m_glob_class_L1,if_pos (by decide)];simp only [if_true,show ¬(1:Int)=0 by decide,show ¬(1:Int)=2 by decide,show ¬(1:Int)=3 by decide,if_false];rw [show idx ([~~~ a,~~~ b,c,d]:List UInt64) 2=some c from rfl,bndS,show W64 (2+1)=3 by decide];rw [m_glob_class_L1,if_pos (by decide)];simp only [if_true,show ¬(2:Int)=0 by decide,show ¬(2:Int)=1 by decide,show ¬(2:Int)=3 by decide,if_false];rw [show idx ([~~~ a,~~~ b,~~~ c,d]:List UInt64) 3=some d from rfl,bndS,show W64 (3+1)=4 by decide];rw [m_glob_class_L1,if_neg (by decide)];simp only [if_true,show ¬(3:Int)=0 by decide,show ¬(3:Int)=1 by decide,show ¬(3:Int)=2 by decide,if_false,notS]
end Go.Proofs.YtpcpfjpcfcbopaaGreatDoor
set_option linter.unusedVariables false
set_option linter.unusedSimpArgs false
namespace Go.Proofs.YtpcpfjpcfcbopaaGreatDoor
open Go Go.RowKit Go.Wk
theorem idx_suf {α:Type} {s p t:List α} {i:Int} (j:Nat) (h:s=p++t) (hi:i=((p.length+j:Nat):Int)):idx s i=t[j]?:=by
 subst h hi;rw [idx_nat,List.getElem?_append_right (by omega)]
 congr 1;omega
def cloB:List UInt8→Bool
 | []=>false
 | c::r=>if c=93 then true else if c=92 then (match r with | []=>false | _::r'=>cloB r') else cloB r
theorem cloB_cons (c:UInt8) (r:Txt):cloB (c::r)=if c=93 then true else if c=92 then (match r with | []=>false | _::r'=>cloB r') else cloB r:=by cases r<;>rfl
theorem u8i (c:UInt8) (k:Nat) (hk:k<256):((c.toNat:Nat):Int)=(k:Int)↔c=UInt8.ofNat k:=byteZ c k hk
theorem c93 (c:UInt8):((c.toNat:Nat):Int)=93↔c=93:=u8i c 93 (by omega)
theorem c92 (c:UInt8):((c.toNat:Nat):Int)=92↔c=92:=u8i c 92 (by omega)
theorem c45 (c:UInt8):((c.toNat:Nat):Int)=45↔c=45:=u8i c 45 (by omega)
theorem d93t {c:UInt8} (h:c≠93):decide (((c.toNat:Nat):Int)≠93)=true:=decide_eq_true λhh=>h ((c93 c).1 hh)
theorem d93f {c:UInt8} (h:c=93):decide (((c.toNat:Nat):Int)≠93)=false:=decide_eq_false λhh=>hh ((c93 c).2 h)
theorem d45t {c:UInt8} (h:c≠45):decide (((c.toNat:Nat):Int)≠45)=true:=decide_eq_true λhh=>h ((c45 c).1 hh)
theorem d45f {c:UInt8} (h:c=45):decide (((c.toNat:Nat):Int)≠45)=false:=decide_eq_false λhh=>hh ((c45 c).2 h)
theorem c33 (c:UInt8):((c.toNat:Nat):Int)=33↔c=33:=u8i c 33 (by omega)
theorem c42 (c:UInt8):((c.toNat:Nat):Int)=42↔c=42:=u8i c 42 (by omega)
theorem c63 (c:UInt8):((c.toNat:Nat):Int)=63↔c=63:=u8i c 63 (by omega)
theorem c91 (c:UInt8):((c.toNat:Nat):Int)=91↔c=91:=u8i c 91 (by omega)
section
variable (s:Txt) (hs:s.length≤1000)
include hs
theorem closedL:∀ (f:Nat) (t p:Txt) (n:Nat),s=p++t→t.length≤f→f<n→m_glob_closed_L1 s (λy1=>some (decide (y1<(s.length:Int)))) n (p.length:Int)=some (cloB t)
 | f,[],p,n+1,h,_,_=>by
  have hl:s.length=p.length:=by rw [h];simp
  rw [m_glob_closed_L1,jn_eq,if_neg (by omega)];dsimp only;rw [if_neg (by decide),cloB,decide_eq_false (by omega)]
 | f+1,c::r,p,n+1,h,hf,hn=>by
  have hl:s.length=p.length+(r.length+1):=by rw [h];simp
  have hi:idx s (p.length:Int)=some c:=(idx_suf 0 h (by simp)).trans rfl;rw [m_glob_closed_L1,jn_eq,if_pos (by omega),hi,bndS,cloB_cons]
  by_cases h93:c=93
  ·dsimp only;rw [if_pos h93,d93f h93,if_neg (by decide),decide_eq_true (by omega)]
  ·dsimp only;rw [if_neg h93,d93t h93,if_pos rfl,bndS,jn_eq]
   by_cases h92:c=92
   ·rw [if_pos ((c92 c).2 h92),if_pos h92];dsimp only;rw [W64_id (z:=(p.length:Int)+1) (by omega) (by omega),W64_id (by omega) (by omega)]
    cases r with
    | nil=>
     match n,hn with
     | n+1,_=>rw [m_glob_closed_L1,jn_eq,if_neg (by simp at hl;omega)];dsimp only;rw [if_neg (by decide),decide_eq_false (by simp at hl;omega)]
    | cons d r=>
     have:=closedL f r (p++[c,d]) n (by rw [h];simp) (by simp at hf;omega) (by omega)
     have e:(((p++[c,d]).length:Nat):Int)=(p.length:Int)+1+1:=by simp;omega
     rw [e] at this;exact this
   ·rw [if_neg (λhh=>h92 ((c92 c).1 hh)),if_neg h92];dsimp only;rw [W64_id (by omega) (by omega)]
    have:=closedL f r (p++[c]) n (by rw [h];simp) (by simp at hf;omega) (by omega)
    have e:(((p++[c]).length:Nat):Int)=(p.length:Int)+1:=by simp
    rw [e] at this;exact this
theorem closed_eq {p t:Txt} (h:s=p++t):m_glob_closed s (p.length:Int)=some (cloB t):=by
 unfold m_glob_closed;rw [jn_eq];exact closedL s hs s.length t p fuel h (by rw [h];simp) (by unfold fuel;omega)
end
def memb:Txt→Option (UInt8×Txt)
 | []=>none
 | c::r=>if c=92 then (match r with | []=>none | d::r'=>some (d,r')) else some (c,r)
theorem memb_cons (c:UInt8) (r:Txt):memb (c::r)=if c=92 then (match r with | []=>none | d::r'=>some (d,r')) else some (c,r):=rfl
theorem memb_clo {c:UInt8} {r:Txt} (h:cloB (c::r)=true) (h93:c≠93):∃ a r1,memb (c::r)=some (a,r1)∧cloB r1=true∧r1.length≤r.length∧(∃ q,c::r=q++r1∧q.length=(if c=92 then 2 else 1)):=by
 rw [cloB_cons,if_neg h93] at h;rw [memb_cons]
 by_cases h92:c=92
 ·rw [if_pos h92] at h ⊢
  cases r with
  | nil=>simp at h
  | cons d r=>exact ⟨d,r,rfl,h,by simp,[c,d],rfl,by rw [if_pos h92];rfl⟩
 ·rw [if_neg h92] at h ⊢
  exact ⟨c,r,rfl,h,by simp,[c],rfl,by rw [if_neg h92];rfl⟩
theorem clo_ne {t:Txt} (h:cloB t=true):∃ c r,t=c::r:=by
 cases t with
 | nil=>simp [cloB] at h
 | cons c r=>exact ⟨c,r,rfl⟩
theorem member_eq {s p t:Txt} (hs:s.length≤1000) (h:s=p++t) {a:UInt8} {r1:Txt} (hm:memb t=some (a,r1)):∃ k:Nat,m_glob_member s (p.length:Int)=some (a,(k:Int))∧k≤2∧1≤k∧∃ q,s=q++r1∧q.length=p.length+k:=by
 cases t with
 | nil=>simp [memb] at hm
 | cons c r=>
  have hl:s.length=p.length+(r.length+1):=by rw [h];simp
  have hi:idx s (p.length:Int)=some c:=(idx_suf 0 h (by simp)).trans rfl;unfold m_glob_member;rw [hi,bndS,bndS];rw [memb_cons] at hm
  by_cases h92:c=92
  ·rw [if_pos h92] at hm
   cases r with
   | nil=>simp at hm
   | cons d r=>
    simp at hm;obtain ⟨rfl,rfl⟩:=hm;rw [if_pos ((c92 c).2 h92),W64_id (by omega) (by omega),show idx s ((p.length:Int)+1)=some d from (idx_suf 1 h (by simp)).trans rfl,bndS];exact ⟨2,rfl,by omega,by omega,p++[c,d],by rw [h];simp,by simp⟩
  ·rw [if_neg h92] at hm
   simp at hm;obtain ⟨rfl,rfl⟩:=hm;rw [if_neg (λhh=>h92 ((c92 c).1 hh))];exact ⟨1,rfl,by omega,by omega,p++[c],by rw [h];simp,by simp⟩
def itemsE:Nat→Txt→T_glob_set→Option (T_glob_set×Txt)
 | 0,_,_=>none
 | _+1,[],_=>none
 | f+1,c::r,S=>
  if c=93 then some (S,c::r)
  else if c=45 then (if r.head?=some 93 then itemsE f r (addS S 45) else none)
  else match memb (c::r) with
   | none=>none
   | some (a,r1)=>
    if r1.head?=some 45∧r1.tail.head?≠some 93∧r1.tail.head?≠some 45 then
     (match memb r1.tail with
      | none=>none
      | some (b,r3)=>if b.toNat<a.toNat then none else itemsE f r3 (spanS (b.toNat+1-a.toNat) a.toNat S))
    else itemsE f r1 (spanS (a.toNat+1-a.toNat) a.toNat S)
abbrev p0 (S:T_glob_set):Pc:=⟨0,S,false,0⟩
theorem head_at {t:Txt} (h:cloB t=true):∃ c,t[0]?=some c∧t.head?=some c:=by
 obtain ⟨c,r,rfl⟩:=clo_ne h;exact ⟨c,rfl,rfl⟩
theorem classL2 (s:Txt) (hs:s.length≤1000) (j:Int→Pc→Option (Pc×Int×T_glob_fault)):∀ (f:Nat) (t p:Txt) (S:T_glob_set) (n:Nat),s=p++t→t.length≤f→f<n→cloB t=true →
 (∃ a P,itemsE (f+1) t S=none∧m_glob_class_L2 s j n (p.length:Int) (p0 S)=some (P,0,⟨a,3⟩))∨∃ S' q r,itemsE (f+1) t S=some (S',r)∧s=q++r∧r.head?=some 93∧p.length≤q.length∧m_glob_class_L2 s j n (p.length:Int) (p0 S)=j (q.length:Int) (p0 S')
 | 0,t,p,S,n,h,hf,_,hc=>by
  obtain ⟨c,r,rfl⟩:=clo_ne hc;simp at hf
 | f+1,t,p,S,n+1,h,hf,hn,hc=>by
  obtain ⟨c,r,rfl⟩:=clo_ne hc
  have hl:s.length=p.length+(r.length+1):=by rw [h];simp
  have hi:idx s (p.length:Int)=some c:=(idx_suf 0 h (by simp)).trans rfl
  have hi1:idx s (W64 ((p.length:Int)+1))=r[0]?:=by rw [W64_id (by omega) (by omega)];exact (idx_suf 1 h (by simp)).trans (by simp)
  by_cases h93:c=93
  ·refine .inr ⟨S,p,c::r,by rw [itemsE,if_pos h93],h,by rw [h93];rfl,Nat.le_refl _,?_⟩
   rw [m_glob_class_L2,hi,bndS,if_neg (λhh=>hh ((c93 c).2 h93))]
  by_cases h45:c=45
  ·have hr:cloB r=true:=by
    rw [cloB_cons,if_neg h93,if_neg (by rw [h45];decide)] at hc;exact hc
   obtain ⟨d,hd1,hd2⟩:=head_at hr
   by_cases hd:d=93
   ·have eI:itemsE (f+1+1) (c::r) S=itemsE (f+1) r (addS S 45):=by rw [itemsE,if_neg h93,if_pos h45,if_pos (by rw [hd2,hd])]
    have st:=add_step (R:=Pc×Int×T_glob_fault) S 45 (λz w q=>m_glob_class_L2 s j n (W64 ((p.length:Int)+1)) { kind:=0,set:={ a0:=(if ((z).toNat:Int)=0 then w|||(shl64 (1:UInt64) ((toU64 ((q).toNat:Int)).toNat)) else S.a0),a1:=(if ((z).toNat:Int)=1 then w|||(shl64 (1:UInt64) ((toU64 ((q).toNat:Int)).toNat)) else S.a1),a2:=(if ((z).toNat:Int)=2 then w|||(shl64 (1:UInt64) ((toU64 ((q).toNat:Int)).toNat)) else S.a2),a3:=(if ((z).toNat:Int)=3 then w|||(shl64 (1:UInt64) ((toU64 ((q).toNat:Int)).toNat)) else S.a3) },plain:=false,c:=0 })
    have eL:m_glob_class_L2 s j (n+1) (p.length:Int) (p0 S)=m_glob_class_L2 s j n (W64 ((p.length:Int)+1)) (p0 (addS S 45)):=by
     rw [m_glob_class_L2,hi,bndS,if_pos (λhh=>h93 ((c93 c).1 hh)),bndS,if_pos ((c45 c).2 h45),hi1,hd1,bndS,if_neg (λhh=>hh ((c93 d).2 hd)),jn_eq];exact st
    have ih:=classL2 s hs j f r (p++[c]) (addS S 45) n (by rw [h];simp) (by simp at hf;omega) (by omega) hr
    have e:(((p++[c]).length:Nat):Int)=W64 ((p.length:Int)+1):=by rw [W64_id (by omega) (by omega)];simp
    rw [e] at ih;rw [eI,eL]
    rcases ih with ⟨a,P,h1,h2⟩|⟨S',q,r',h1,h2,h3,h4,h5⟩
    ·exact .inl ⟨a,P,h1,h2⟩
    ·exact .inr ⟨S',q,r',h1,h2,h3,by simp at h4;omega,h5⟩
   ·have eI:itemsE (f+1+1) (c::r) S=none:=by rw [itemsE,if_neg h93,if_pos h45,if_neg (by rw [hd2];intro hh;injection hh with hh;exact hd hh)]
    refine .inl ⟨(p.length:Int),p0 S,eI,?_⟩;rw [m_glob_class_L2,hi,bndS,if_pos (λhh=>h93 ((c93 c).1 hh)),bndS,if_pos ((c45 c).2 h45),hi1,hd1,bndS,if_pos (λhh=>hd ((c93 d).1 hh))]
  obtain ⟨a,r1,hm,hc1,hl1,_⟩:=memb_clo hc h93;obtain ⟨k,hk,hk2,hk1,q1,hq1,hq1l⟩:=member_eq hs h hm
  have hql:s.length=q1.length+r1.length:=by rw [hq1];simp
  have e1:W64 ((p.length:Int)+(k:Int))=((q1.length:Nat):Int):=by rw [W64_id (by omega) (by omega),hq1l];simp
  have ha:=u8lt a;obtain ⟨d1,hd1,hd1'⟩:=head_at hc1;have hx1:idx s ((q1.length:Nat):Int)=some d1:=(idx_suf 0 hq1 (by simp)).trans hd1;have hcl:r.length+1=(c::r).length:=rfl
  have fin:∀ (y85:Nat) (y86:UInt8) (q2 r2:Txt),s=q2++r2→q2.length=p.length+y85→1≤y85→cloB r2=true→a.toNat≤y86.toNat→(∃ a' P,itemsE (f+1) r2 (spanS (y86.toNat+1-a.toNat) a.toNat S)=none∧m_glob_class_L3 y86 (λy90=>m_glob_class_L2 s j n (W64 ((p.length:Int)+(y85:Int))) y90) fuel ((a.toNat:Nat):Int) (p0 S)=some (P,0,⟨a',3⟩))∨∃ S' q r,itemsE (f+1) r2 (spanS (y86.toNat+1-a.toNat) a.toNat S)=some (S',r)∧s=q++r∧r.head?=some 93∧p.length≤q.length∧m_glob_class_L3 y86 (λy90=>m_glob_class_L2 s j n (W64 ((p.length:Int)+(y85:Int))) y90) fuel ((a.toNat:Nat):Int) (p0 S)=j (q.length:Int) (p0 S'):=by
   intro y85 y86 q2 r2 g1 g2 g3 g4 g5;have h86:=u8lt y86
   have g1l:s.length=q2.length+r2.length:=by rw [g1];simp
   rw [spanL y86 _ (y86.toNat+1-a.toNat) fuel a.toNat (p0 S) (by unfold fuel;omega) (by omega)]
   have e2:W64 ((p.length:Int)+(y85:Int))=((q2.length:Nat):Int):=by rw [W64_id (by omega) (by omega),g2];simp
   rw [e2]
   rcases classL2 s hs j f r2 q2 (spanS (y86.toNat+1-a.toNat) a.toNat S) n g1 (by simp only [List.length_cons] at hf;omega) (by omega) g4 with ⟨a',P,h1,h2⟩|⟨S',q,r',h1,h2,h3,h4,h5⟩
   ·exact .inl ⟨a',P,h1,h2⟩
   ·exact .inr ⟨S',q,r',h1,h2,h3,by omega,h5⟩
  have one:(∃ a' P,itemsE (f+1) r1 (spanS (a.toNat+1-a.toNat) a.toNat S)=none∧m_glob_class_L3 a (λy90=>m_glob_class_L2 s j n (W64 ((p.length:Int)+(k:Int))) y90) fuel ((a.toNat:Nat):Int) (p0 S)=some (P,0,⟨a',3⟩))∨∃ S' q r,itemsE (f+1) r1 (spanS (a.toNat+1-a.toNat) a.toNat S)=some (S',r)∧s=q++r∧r.head?=some 93∧p.length≤q.length∧m_glob_class_L3 a (λy90=>m_glob_class_L2 s j n (W64 ((p.length:Int)+(k:Int))) y90) fuel ((a.toNat:Nat):Int) (p0 S)=j (q.length:Int) (p0 S'):=
   fin k a q1 r1 hq1 hq1l hk1 hc1 (Nat.le_refl _)
  let K81:Bool→Option (Pc×Int×T_glob_fault):=(λy81=>if y81=true then ((idx s (W64 (((q1.length:Nat):Int)+1))).bind λz115=>(λy83=>if y83=true then ((m_glob_member s (W64 (((q1.length:Nat):Int)+1))).bind λp107=>if ((p107.1).toNat:Int)<((a).toNat:Int) then (some ((p0 S),0,(⟨(p.length:Int),3⟩:T_glob_fault))) else m_glob_class_L3 p107.1 (λy90=>m_glob_class_L2 s j n (W64 ((p.length:Int)+W64 ((W64 ((k:Int)+1))+p107.2))) y90) fuel ((a.toNat:Nat):Int) (p0 S)) else m_glob_class_L3 a (λy90=>m_glob_class_L2 s j n (W64 ((p.length:Int)+(k:Int))) y90) fuel ((a.toNat:Nat):Int) (p0 S)) (decide (((z115).toNat:Int)≠45))) else m_glob_class_L3 a (λy90=>m_glob_class_L2 s j n (W64 ((p.length:Int)+(k:Int))) y90) fuel ((a.toNat:Nat):Int) (p0 S))
  have eL0:∀ b:Bool,(∀ (K:Bool→Option (Pc×Int×T_glob_fault)),(if ((d1.toNat:Nat):Int)=45 then ((idx s (W64 (((q1.length:Nat):Int)+1))).bind λz117=>K (decide (((z117).toNat:Int)≠93))) else K false)=K b)→m_glob_class_L2 s j (n+1) (p.length:Int) (p0 S)=K81 b:=by
   intro b hb;rw [m_glob_class_L2,hi,bndS,if_pos (λhh=>h93 ((c93 c).1 hh)),bndS,if_neg (λhh=>h45 ((c45 c).1 hh)),hk,bndS];dsimp only;rw [e1,hx1,bndS,jn_eq]
   refine (hb (λ(y81:Bool)=>
    (jn (λ(y83:Bool)=>
     (jn (λ(y85:Int) (y86:UInt8)=>
      (jn (λ(y88:T_glob_piece)=>
       (m_glob_class_L2 s j n (W64 ((p.length:Int)+y85)) y88)) λj10=>
       jn (λ(y90:T_glob_piece)=>
        (j10 y90)) λj11=>
       m_glob_class_L3 y86 j11 fuel (a.toNat:Int) (p0 S))) λj9=>
      if y83=true then
      ((m_glob_member s (W64 (((q1.length:Nat):Int)+1))).bind λp107=>
       if ((p107.1).toNat:Int)<((a).toNat:Int) then
       (some ((p0 S),0,(⟨(p.length:Int),3⟩:T_glob_fault)))
       else
       (j9 (W64 ((W64 ((k:Int)+1))+p107.2)) p107.1))
      else
      (j9 (k:Int) a))) λj8=>
     if y81=true then
     ((idx s (W64 (((q1.length:Nat):Int)+1))).bind λz115=>
      j8 (decide (((z115).toNat:Int)≠45)))
     else
     (j8 false)))).trans ?_
   simp only [jn_eq,K81,Bool.false_eq_true,if_false]
  have eI0:itemsE (f+1+1) (c::r) S=if r1.head?=some 45∧r1.tail.head?≠some 93∧r1.tail.head?≠some 45 then (match memb r1.tail with | none=>none | some (b,r3)=>if b.toNat<a.toNat then none else itemsE (f+1) r3 (spanS (b.toNat+1-a.toNat) a.toNat S)) else itemsE (f+1) r1 (spanS (a.toNat+1-a.toNat) a.toNat S):=by
   rw [itemsE,if_neg h93,if_neg h45,hm]
  by_cases hd:d1=45
  ·obtain ⟨c1,r2,rfl⟩:=clo_ne hc1
   simp at hd1';subst hd1' hd
   have hr2:cloB r2=true:=by rw [cloB_cons,if_neg (by decide),if_neg (by decide)] at hc1;exact hc1
   obtain ⟨d2,hd2,hd2'⟩:=head_at hr2
   have hx2:idx s (W64 (((q1.length:Nat):Int)+1))=some d2:=by
    simp at hql;rw [W64_id (by omega) (by omega)];exact (idx_suf 1 hq1 (by simp)).trans hd2
   have hq2':([45]++r2).head?=some 45:=rfl;simp only [List.head?_cons,List.tail_cons,hd2',true_and,ne_eq,Option.some.injEq] at eI0
   by_cases h2:d2=93
   ·rw [if_neg (λhh=>hh.1 h2)] at eI0
    rw [eI0,eL0 false (λK=>by rw [if_pos ((c45 45).2 rfl),hx2,bndS,d93f h2])];exact one
   ·have eL1:=eL0 true (λK=>by rw [if_pos ((c45 45).2 rfl),hx2,bndS,d93t h2])
    simp only [K81] at eL1;rw [if_pos trivial,hx2,bndS] at eL1
    by_cases h3:d2=45
    ·rw [if_neg (λhh=>hh.2 h3)] at eI0
     rw [d45f h3,if_neg (by decide)] at eL1;rw [eI0,eL1];exact one
    ·rw [if_pos ⟨h2,h3⟩] at eI0
     rw [d45t h3,if_pos (by trivial)] at eL1;obtain ⟨d2',r2',rfl⟩:=clo_ne hr2;simp at hd2';subst hd2';obtain ⟨b,r3,hmb,hcb,hlb,_⟩:=memb_clo hr2 h2
     have hq2:s=(q1++[45])++(d2'::r2'):=by rw [hq1];simp
     obtain ⟨k2,hk3,hk4,hk5,q3,hq3,hq3l⟩:=member_eq hs hq2 hmb;simp at hql
     have e3:(((q1++[45]).length:Nat):Int)=W64 (((q1.length:Nat):Int)+1):=by rw [W64_id (by omega) (by omega)];simp
     rw [e3] at hk3;rw [hk3,bndS] at eL1;rw [hmb] at eI0;dsimp only at eL1 eI0
     by_cases hlt:b.toNat<a.toNat
     ·rw [if_pos (by omega)] at eL1
      rw [if_pos hlt] at eI0;exact .inl ⟨_,_,eI0,eL1⟩
     ·rw [if_neg (by omega)] at eL1
      rw [if_neg hlt] at eI0
      have e4:W64 (W64 ((k:Int)+1)+(k2:Int))=((k+1+k2:Nat):Int):=by rw [W64_id (z:=(k:Int)+1) (by omega) (by omega),W64_id (by omega) (by omega)];simp
      rw [e4] at eL1;rw [eI0,eL1];exact fin (k+1+k2) b q3 r3 hq3 (by rw [hq3l];simp;omega) (by omega) hcb (by omega)
  ·rw [if_neg (by rw [hd1'];intro hh;have:=hh.1;injection this with this;exact hd this)] at eI0
   rw [eI0,eL0 false (λK=>by rw [if_neg (λhh=>hd ((c45 d1).1 hh))])];exact one
end Go.Proofs.YtpcpfjpcfcbopaaGreatDoor
set_option linter.unusedVariables false
set_option linter.unusedSimpArgs false
namespace Go.Proofs.YtpcpfjpcfcbopaaGreatDoor
open Go Go.RowKit Go.Wk
def clsE (t:Txt):Int×T_glob_set×Txt:=
 if cloB (if t.head?=some 33 then t.tail else t)=true then
  match itemsE ((if t.head?=some 33 then t.tail else t).length+1) (if t.head?=some 33 then t.tail else t) s0 with
  | none=>(3,s0,[])
  | some (S,r)=>if (if t.head?=some 33 then t.tail else t).head?=some 93 then (3,s0,[]) else (0,if t.head?=some 33 then notS S else S,r.tail)
 else (2,s0,[])
def Reads (s:Txt) (p:Txt) (x:Int×Pc×Txt) (o:Option (Pc×Int×T_glob_fault)):Prop:=
 (x.1≠0∧∃ P a,o=some (P,0,⟨a,x.1⟩))∨(x.1=0∧∃ n q,o=some (x.2.1,((n:Nat):Int),⟨0,0⟩)∧1≤n∧s=q++x.2.2∧q.length=p.length+n)
theorem class_at (s:Txt) (hs:s.length≤1000) (p0' t1:Txt) (b:Bool) (fr:Int) (h:s=p0'++t1) (x:Int×T_glob_set×Txt) (hx:x=if cloB t1=true then (match itemsE (t1.length+1) t1 s0 with
 | none=>((3:Int),s0,([]:Txt))
 | some (S,r)=>if t1.head?=some 93 then ((3:Int),s0,([]:Txt)) else ((0:Int),if b=true then notS S else S,r.tail)) else ((2:Int),s0,([]:Txt))) (p:Txt) (hfr:fr=(p.length:Int)) (hp:p.length<p0'.length) :
 Reads s p (x.1, p0 x.2.1, x.2.2) ((m_glob_closed s (p0'.length:Int)).bind λp16 =>
  if (!p16)=true then
  (some ((⟨0,(⟨(0:UInt64),(0:UInt64),(0:UInt64),(0:UInt64)⟩:T_glob_set),false,(0:UInt8)⟩:T_glob_piece),0,(⟨fr,2⟩:T_glob_fault)))
  else
  (jn (λ(y23:Int) (y24:T_glob_piece)=>
   (if y23=(p0'.length:Int) then
    (some (y24,0,(⟨fr,3⟩:T_glob_fault)))
    else
    (jn (λ(y31:T_glob_piece)=>
     (some (y31,W64 ((W64 (y23+1))-fr),(⟨0,0⟩:T_glob_fault)))) λj4=>
     if b=true then
     (jn (λ(y44:T_glob_piece)=>
      (j4 y44)) λj5=>
      m_glob_class_L1 j5 fuel 0 y24)
     else
     (j4 y24)))) λj3=>
   m_glob_class_L2 s j3 fuel (p0'.length:Int) (⟨0,(⟨(0:UInt64),(0:UInt64),(0:UInt64),(0:UInt64)⟩:T_glob_set),false,(0:UInt8)⟩:T_glob_piece))):=by
 have hl:s.length=p0'.length+t1.length:=by rw [h];simp
 rw [closed_eq s hs h,bndS]
 cases hc:cloB t1 with
 | false=>
  rw [hc,if_neg (by decide)] at hx;rw [if_pos (by decide)];subst hx;exact .inl ⟨by show (2:Int)≠0;decide,_,_,rfl⟩
 | true=>
  rw [hc,if_pos rfl] at hx;rw [if_neg (by decide),jn_eq]
  rcases classL2 s hs _ t1.length t1 p0' s0 fuel h (Nat.le_refl _) (by unfold fuel;omega) hc with ⟨a,P,h1,h2⟩|⟨S,q,r,h1,h2,h3,h4,h5⟩
  ·rw [h1] at hx
   subst hx;exact .inl ⟨by show (3:Int)≠0;decide,P,a,h2⟩
  ·rw [h1] at hx
   dsimp only at hx;have h5':=h5;refine (congrArg (Reads s p _) h5').mpr ?_;dsimp only
   have hql:s.length=q.length+r.length:=by rw [h2];simp
   have hr1:r≠[]:=by rintro rfl;cases h3
   have hr2:1≤r.length:=List.length_pos_iff.2 hr1
   by_cases hh:t1.head?=some 93
   ·rw [if_pos hh] at hx
    subst hx
    have:q.length=p0'.length:=by
     obtain ⟨c,r',rfl⟩:=clo_ne hc;simp at hh;rw [itemsE,if_pos hh] at h1
     injection h1 with h1
     injection h1 with h1 h6
     rw [← h6] at hql;omega
    rw [if_pos (by rw [this])];exact .inl ⟨by show (3:Int)≠0;decide,_,_,rfl⟩
   ·rw [if_neg hh] at hx
    subst hx
    have hne:¬((q.length:Int)=(p0'.length:Int)):=by
     intro he
     have e1:r=t1:=by
      have e2:q.length=p0'.length:=by omega
      have e3:p0'++t1=q++r:=by rw [← h,← h2]
      exact (List.append_inj e3 e2.symm).2.symm
     rw [e1] at h3;exact hh h3
    rw [if_neg hne,jn_eq]
    have hr3:s=(q++[93])++r.tail:=by
     cases r with
     | nil=>exact (hr1 rfl).elim
     | cons c r=>simp at h3;subst h3;rw [h2];simp
    have e1:W64 (W64 ((q.length:Int)+1)-fr)=((q.length+1-p.length:Nat):Int):=by rw [W64_id (z:=(q.length:Int)+1) (by omega) (by omega),W64_id (by omega) (by omega),hfr];omega
    refine .inr ⟨rfl,q.length+1-p.length,q++[93],?_,by omega,hr3,by simp;omega⟩
    cases b with
    | false=>rw [if_neg (by decide),e1,if_neg (by decide)]
    | true=>
     obtain ⟨m,hm⟩:=fuelS 5 (by omega);rw [if_pos rfl,jn_eq,hm,notL,if_pos rfl,e1]
theorem class_eq (s:Txt) (hs:s.length≤1000) (p t:Txt) (h:s=p++91::t):Reads s p ((clsE t).1,p0 (clsE t).2.1,(clsE t).2.2) (m_glob_class s (p.length:Int)):=by
 have hl:s.length=p.length+(t.length+1):=by rw [h];simp
 have e1:W64 ((p.length:Int)+1)=((p.length+1:Nat):Int):=by rw [W64_id (by omega) (by omega)];simp
 have h1:s=(p++[91])++t:=by rw [h];simp
 have hp1:(p++[91]).length=p.length+1:=by simp
 unfold m_glob_class;rw [jn_eq,e1]
 have go:∀ b:Bool,b=decide (t.head?=some 33)→Reads s p ((clsE t).1,p0 (clsE t).2.1,(clsE t).2.2) ((λ(y12:Bool)=>
  (jn (λ(y14:Int)=>
   ((m_glob_closed s y14).bind λp16=>
    if (!p16)=true then
    (some ((⟨0,(⟨(0:UInt64),(0:UInt64),(0:UInt64),(0:UInt64)⟩:T_glob_set),false,(0:UInt8)⟩:T_glob_piece),0,(⟨(p.length:Int),2⟩:T_glob_fault)))
    else
    (jn (λ(y23:Int) (y24:T_glob_piece)=>
     (if y23=y14 then
      (some (y24,0,(⟨(p.length:Int),3⟩:T_glob_fault)))
      else
      (jn (λ(y31:T_glob_piece)=>
       (some (y31,W64 ((W64 (y23+1))-(p.length:Int)),(⟨0,0⟩:T_glob_fault)))) λj4=>
       if y12=true then
       (jn (λ(y44:T_glob_piece)=>
        (j4 y44)) λj5=>
        m_glob_class_L1 j5 fuel 0 y24)
       else
       (j4 y24)))) λj3=>
     m_glob_class_L2 s j3 fuel y14 (⟨0,(⟨(0:UInt64),(0:UInt64),(0:UInt64),(0:UInt64)⟩:T_glob_set),false,(0:UInt8)⟩:T_glob_piece)))) λj2=>
   if y12=true then
   (j2 (W64 (((p.length+1:Nat):Int)+1)))
   else
   (j2 ((p.length+1:Nat):Int)))) b):=by
  intro b hb;dsimp only;rw [jn_eq]
  cases b with
  | true=>
   have ht:t.head?=some 33:=of_decide_eq_true hb.symm
   have h2:s=(p++[91,33])++t.tail:=by
    cases t with
    | nil=>cases ht
    | cons c t=>simp at ht;subst ht;rw [h];simp
   have e2:W64 (((p.length+1:Nat):Int)+1)=(((p++[91,33]).length:Nat):Int):=by rw [W64_id (by omega) (by omega)];simp;omega
   rw [if_pos rfl,e2];refine class_at s hs _ t.tail true _ h2 (clsE t) ?_ p rfl (by simp);unfold clsE;simp only [ht,if_true]
  | false=>
   have ht:¬t.head?=some 33:=of_decide_eq_false hb.symm;rw [if_neg (by decide),← hp1];refine class_at s hs _ t false _ h1 (clsE t) ?_ p rfl (by simp);unfold clsE;simp only [ht,if_false,Bool.false_eq_true]
 cases t with
 | nil=>
  rw [if_neg (by simp at hl;omega)];exact go false rfl
 | cons c t=>
  have hi:idx s ((p.length+1:Nat):Int)=some c:=(idx_suf 0 h1 (by rw [hp1])).trans rfl;rw [if_pos (by simp at hl;omega),hi,bndS];refine go (decide (((c.toNat:Nat):Int)=33)) (decide_eq_decide.2 ?_);rw [c33];simp
def byteP (c:UInt8):Pc:=⟨0,addS s0 c,true,c⟩
theorem byteOf_eq (c:UInt8):m_glob_byteOf c=some (byteP c):=by
 unfold m_glob_byteOf;rw [jn_eq];exact add_step s0 c _
def nextE (c:UInt8) (r:Txt):Int×Pc×Txt:=
 if c=42 then (0,⟨1,s0,false,0⟩,r)
 else if c=63 then (0,p0 (spanS 256 0 s0),r)
 else if c=91 then ((clsE r).1,p0 (clsE r).2.1,(clsE r).2.2)
 else if c=92 then (match r with | []=>(2,p0 s0,[]) | d::r'=>(0,byteP d,r'))
 else (0,byteP c,r)
theorem next_eq (s:Txt) (hs:s.length≤1000) (p:Txt) (c:UInt8) (r:Txt) (h:s=p++c::r):Reads s p (nextE c r) (m_glob_next s (p.length:Int)):=by
 have hl:s.length=p.length+(r.length+1):=by rw [h];simp
 have hi:idx s (p.length:Int)=some c:=(idx_suf 0 h (by simp)).trans rfl
 have h1:s=(p++[c])++r:=by rw [h];simp
 unfold m_glob_next nextE;rw [hi,bndS]
 by_cases h42:c=42
 ·rw [if_pos ((c42 c).2 h42),if_pos h42]
  exact .inr ⟨rfl,1,p++[c],rfl,by omega,h1,by simp⟩
 rw [if_neg (λhh=>h42 ((c42 c).1 hh)),if_neg h42]
 by_cases h63:c=63
 ·rw [if_pos ((c63 c).2 h63),if_pos h63,jn_eq,jn_eq]
  have:=fullL (λy27=>(λy25=>some (y25,1,(⟨0,0⟩:T_glob_fault))) y27) 256 fuel 0 (p0 s0) (by unfold fuel;omega) (by omega);exact .inr ⟨rfl,1,p++[c],this,by omega,h1,by simp⟩
 rw [if_neg (λhh=>h63 ((c63 c).1 hh)),if_neg h63]
 by_cases h91:c=91
 ·subst h91
  rw [if_pos ((c91 91).2 rfl),if_pos rfl]
  rcases class_eq s hs p r h with ⟨g1,P,a,g2⟩|⟨g1,n,q,g2,g3,g4,g5⟩
  ·rw [g2,bndS];exact .inl ⟨g1,P,a,rfl⟩
  ·rw [g2,bndS];exact .inr ⟨g1,n,q,rfl,g3,g4,g5⟩
 rw [if_neg (λhh=>h91 ((c91 c).1 hh)),if_neg h91]
 by_cases h92:c=92
 ·rw [if_pos ((c92 c).2 h92),if_pos h92,W64_id (by omega) (by omega)]
  cases r with
  | nil=>rw [if_pos (by simp at hl;omega)];exact .inl ⟨by show (2:Int)≠0;decide,_,_,rfl⟩
  | cons d r=>
   rw [if_neg (by simp at hl;omega),show idx s ((p.length:Int)+1)=some d from (idx_suf 1 h (by simp)).trans rfl,bndS,byteOf_eq,bndS];exact .inr ⟨rfl,2,p++[c,d],rfl,by omega,by rw [h];simp,by simp⟩
 rw [if_neg (λhh=>h92 ((c92 c).1 hh)),if_neg h92,bndS,byteOf_eq,bndS];exact .inr ⟨rfl,1,p++[c],rfl,by omega,h1,by simp⟩
theorem nextE_len (c:UInt8) (r:Txt) (hr:r.length<1000) (h:(nextE c r).1=0):(nextE c r).2.2.length≤r.length:=by
 rcases next_eq (c::r) (by simp;omega) [] c r rfl with ⟨g1,_⟩|⟨_,n,q,_,g3,g4,g5⟩
 ·exact (g1 h).elim
 ·have:=congrArg List.length g4
  simp at this g5
  omega
def compE:Nat→Txt→List Pc→Int×List Pc
 | 0,_,acc=>(0,acc)
 | _+1,[],acc=>(0,acc)
 | f+1,c::r,acc=>if (nextE c r).1=0 then compE f (nextE c r).2.2 (acc++[(nextE c r).2.1]) else ((nextE c r).1,[])
def cmpE (s:Txt):Int×List Pc:=if s.length>64 then (4,[]) else compE (s.length+1) s []
theorem compE_len:∀ (f:Nat) (t:Txt) (acc:List Pc),t.length<1000→(compE f t acc).2.length≤acc.length+t.length
 | 0,t,acc,_=>by simp [compE]
 | f+1,[],acc,_=>by simp [compE]
 | f+1,c::r,acc,h=>by
  rw [compE]
  split
  ·rename_i h0
   have h1:=nextE_len c r (by simp at h;omega) h0;have h2:=compE_len f (nextE c r).2.2 (acc++[(nextE c r).2.1]) (by simp at h;omega);simp at h2 ⊢;omega
  ·simp
theorem cmpE_len (s:Txt):(cmpE s).2.length≤64:=by
 unfold cmpE
 split
 ·simp
 ·have:=compE_len (s.length+1) s [] (by omega)
  simp at this;omega
theorem compileL (s:Txt) (hs:s.length≤64):∀ (f:Nat) (t p:Txt) (acc:List Pc) (n:Nat),s=p++t→t.length≤f→f<n→acc.length≤p.length →
 ∃ a,m_glob_Compile_L1 s (λy13=>some ((some y13),0,0)) n (p.length:Int) ⟨s,acc⟩=some (if (compE (f+1) t acc).1=0 then (some ⟨s,(compE (f+1) t acc).2⟩,0,0) else (none,a,(compE (f+1) t acc).1))
 | f,[],p,acc,n+1,h,_,_,_=>by
  have hl:s.length=p.length:=by rw [h];simp
  refine ⟨0,?_⟩;rw [m_glob_Compile_L1,if_neg (by omega),compE,if_pos rfl]
 | f+1,c::r,p,acc,n+1,h,hf,hn,ha=>by
  have hl:s.length=p.length+(r.length+1):=by rw [h];simp
  rw [m_glob_Compile_L1,if_pos (by omega),compE]
  rcases next_eq s (by omega) p c r h with ⟨g1,P,a,g2⟩|⟨g1,k,q,g2,g3,g4,g5⟩
  ·refine ⟨a,?_⟩
   rw [g2,bndS,if_pos (by intro hh;have:=congrArg T_glob_fault.e hh;exact g1 this),if_neg g1];dsimp only;rw [if_neg g1]
  ·rw [g2,bndS,if_neg (λhh=>hh rfl),if_pos g1,jn_eq,app_some (by simp;omega),bndS]
   have hql:s.length=q.length+(nextE c r).2.2.length:=by rw [g4];simp
   have e:W64 ((p.length:Int)+((k:Nat):Int))=((q.length:Nat):Int):=by rw [W64_id (by omega) (by omega),g5];simp
   dsimp only;rw [e];exact compileL s hs f _ q _ n g4 (by simp at hf;omega) (by omega) (by simp;omega)
theorem compile_eq (s:Txt):∃ a,m_glob_Compile s=some (if (cmpE s).1=0 then (some ⟨s,(cmpE s).2⟩,0,0) else (none,a,(cmpE s).1)):=by
 unfold m_glob_Compile cmpE
 by_cases h:s.length>64
 ·rw [if_pos (by omega),if_pos h]
  exact ⟨64,rfl⟩
 ·rw [if_neg (by omega),if_neg h,jn_eq]
  exact compileL s (by omega) s.length s [] [] fuel rfl (Nat.le_refl _) (by unfold fuel;omega) (by simp)
end Go.Proofs.YtpcpfjpcfcbopaaGreatDoor
set_option linter.unusedVariables false
set_option linter.unusedSimpArgs false
namespace Go.Proofs.YtpcpfjpcfcbopaaGreatDoor
open Go Go.RowKit Go.Wk
def starB (f:Txt→Bool):Txt→Bool
 | []=>f []
 | c::s=>f (c::s)||starB f s
def mM:List Pc→Txt→Bool
 | [],s=>s.isEmpty
 | p::ps,s=>if p.kind=1 then starB (mM ps) s else match s with | []=>false | c::s'=>hasB p.set c&&mM ps s'
theorem mM_cons (p:Pc) (ps:List Pc) (s:Txt):mM (p::ps) s=if p.kind=1 then starB (mM ps) s else match s with | []=>false | c::s'=>hasB p.set c&&mM ps s':=by cases s<;>rfl
theorem starB_iff (f:Txt→Bool):∀ t:Txt,starB f t=true↔∃ n,n≤t.length∧f (t.drop n)=true
 | []=>by
  constructor
  ·intro h;exact ⟨0,Nat.le_refl _,h⟩
  ·rintro ⟨n,_,h⟩
   have h2:f []=true:=by simpa using h
   exact h2
 | c::s=>by
  rw [starB,Bool.or_eq_true,starB_iff f s]
  constructor
  ·rintro (h | ⟨n,h1,h2⟩)
   ·exact ⟨0,by omega,h⟩
   ·exact ⟨n+1,by simp;omega,h2⟩
  ·rintro ⟨n,h1,h2⟩
   cases n with
   | zero=>exact .inl h2
   | succ n=>exact .inr ⟨n,by simp at h1;omega,h2⟩
section
variable (ps:List Pc) (s:Txt)
theorem mM_star {i:Nat} {p:Pc} (h:ps[i]?=some p) (hk:p.kind=1) (t:Txt):mM (ps.drop i) t=starB (mM (ps.drop (i+1))) t:=by
 obtain ⟨hi,rfl⟩:=List.getElem?_eq_some_iff.1 h;rw [List.drop_eq_getElem_cons hi,mM_cons,if_pos hk]
theorem mM_set {i:Nat} {p:Pc} (h:ps[i]?=some p) (hk:¬p.kind=1) (t:Txt):mM (ps.drop i) t=match t with | []=>false | c::s'=>hasB p.set c&&mM (ps.drop (i+1)) s':=by
 obtain ⟨hi,rfl⟩:=List.getElem?_eq_some_iff.1 h;rw [List.drop_eq_getElem_cons hi,mM_cons,if_neg hk]
theorem drop_at {i:Nat} {c:UInt8} (h:s[i]?=some c):s.drop i=c::s.drop (i+1):=by
 obtain ⟨hi,rfl⟩:=List.getElem?_eq_some_iff.1 h;exact List.drop_eq_getElem_cons hi
theorem star_step {i at_:Nat} {p:Pc} (h:ps[i]?=some p) (hk:p.kind=1) (ha:at_≤s.length) :
 mM (ps.drop i) (s.drop at_)=(mM (ps.drop (i+1)) (s.drop at_)||(decide (at_<s.length)&&mM (ps.drop i) (s.drop (at_+1)))):=by
 rw [mM_star ps h hk,mM_star ps h hk]
 by_cases hl:at_<s.length
 ·rw [List.drop_eq_getElem_cons hl,starB,decide_eq_true hl,Bool.true_and]
 ·have e:s.drop at_=[]:=List.drop_eq_nil_of_le (by omega)
  rw [decide_eq_false hl,Bool.false_and,Bool.or_false,e];rfl
theorem sets_go:∀ (k b:Nat) (t:Txt),(∀ j,b≤j→j<b+k→∃ p,ps[j]?=some p∧¬p.kind=1)→mM (ps.drop b) t=true→k≤t.length∧mM (ps.drop (b+k)) (t.drop k)=true
 | 0,b,t,_,h=>⟨Nat.zero_le _,by simpa using h⟩
 | k+1,b,t,hn,h=>by
  obtain ⟨p,hp,hk⟩:=hn b (Nat.le_refl _) (by omega);rw [mM_set ps hp hk] at h
  cases t with
  | nil=>cases h
  | cons c t=>
   dsimp only at h;rw [Bool.and_eq_true] at h;obtain ⟨h1,h2⟩:=sets_go k (b+1) t (λj hj1 hj2=>hn j (by omega) (by omega)) h.2;refine ⟨by simp;omega,?_⟩
   have e:b+(k+1)=b+1+k:=by omega
   rw [e];exact h2
theorem star_new {bk i at_ fr:Nat} {p q:Pc} (hb:0<bk) (hp:ps[bk-1]?=some p) (hpk:p.kind=1) (hq:ps[i]?=some q) (hqk:q.kind=1)
 (hn:∀ j,bk≤j→j<i→∃ p,ps[j]?=some p∧¬p.kind=1) (hbi:bk≤i) (hd:i-bk=at_-fr) (hf:fr≤at_) (hfs:fr<s.length) (h:mM (ps.drop (bk-1)) (s.drop (fr+1))=true):mM (ps.drop i) (s.drop at_)=true:=by
 rw [mM_star ps hp hpk,starB_iff] at h;obtain ⟨n,h1,h2⟩:=h;rw [List.length_drop] at h1;rw [List.drop_drop,show bk-1+1=bk by omega] at h2;obtain ⟨h3,h4⟩:=sets_go ps (i-bk) bk _ (λj hj1 hj2=>hn j hj1 (by omega)) h2;rw [List.length_drop] at h3;rw [List.drop_drop,show bk+(i-bk)=i by omega,mM_star ps hq hqk,starB_iff] at h4;obtain ⟨m,h5,h6⟩:=h4;rw [List.length_drop] at h5;rw [List.drop_drop] at h6;rw [mM_star ps hq hqk,starB_iff];refine ⟨1+n+m,by rw [List.length_drop];omega,?_⟩;rw [List.drop_drop]
 have e:at_+(1+n+m)=fr+1+n+(i-bk)+m:=by omega
 rw [e];exact h6
def restV (at_ i bk fr:Nat):Bool:=mM (ps.drop i) (s.drop at_)||(decide (0<bk)&&(decide (fr<s.length)&&mM (ps.drop (bk-1)) (s.drop (fr+1))))
structure MJ (at_ i bk fr:Nat):Prop where
 ja:at_≤s.length
 ji:i≤ps.length
 jf:fr≤at_
 jb:bk≤i
 js:0<bk→(∃ p,ps[bk-1]?=some p∧p.kind=1)∧(∀ j,bk≤j→j<i→∃ p,ps[j]?=some p∧¬p.kind=1)∧i-bk=at_-fr
theorem less_by {A A' P x y:Nat} (h:A'<A) (hx:x≤P):A'*(P+1)+x<A*(P+1)+y:=by
 have:=Nat.mul_le_mul_right (P+1) (show A'+1≤A from h);rw [Nat.add_mul] at this
 omega
def meas (P S i bk fr:Nat):Nat:=((P+1-bk)*(S+1)+(S-fr))*(P+1)+(P-i)
end
theorem matchL (g:T_glob_Glob) (s:Txt) (hP:g.pieces.length≤1000) (hS:s.length≤1000):∀ (m n at_ i bk fr:Nat),MJ g.pieces s at_ i bk fr→meas g.pieces.length s.length i bk fr≤m→m<n →
 m_glob_Glob_Match_L1 g s n (at_:Int) (i:Int) ((bk:Int)-1) (fr:Int)=some (restV g.pieces s at_ i bk fr)
 | m,n+1,at_,i,bk,fr,J,hm,hn=>by
  have ha:=J.ja;have hi:=J.ji;have hf:=J.jf;have hb:=J.jb;rw [m_glob_Glob_Match_L1,jn_eq];have tail:(∀ h:mM (g.pieces.drop i) (s.drop at_)=true,i=g.pieces.length∧at_=s.length) →
   (if ((i:Int)=(g.pieces.length:Int))∧((at_:Int)=(s.length:Int)) then (some true) else (if (((bk:Int)-1)≥0)∧((fr:Int)<(s.length:Int)) then (m_glob_Glob_Match_L1 g s n (W64 ((fr:Int)+1)) (W64 (((bk:Int)-1)+1)) ((bk:Int)-1) (W64 ((fr:Int)+1))) else (some false)))=some (restV g.pieces s at_ i bk fr):=by
   intro hno
   by_cases he:i=g.pieces.length∧at_=s.length
   ·rw [if_pos ⟨by omega,by omega⟩]
    have:mM (g.pieces.drop i) (s.drop at_)=true:=by rw [he.1,he.2,List.drop_length,List.drop_length];rfl
    rw [restV,this,Bool.true_or]
   ·rw [if_neg (λh=>he ⟨by omega,by omega⟩)]
    have h0:mM (g.pieces.drop i) (s.drop at_)=false:=by
     cases hh:mM (g.pieces.drop i) (s.drop at_) with
     | false=>rfl
     | true=>exact (he (hno hh)).elim
    rw [restV,h0,Bool.false_or]
    by_cases hbk:0<bk∧fr<s.length
    ·obtain ⟨⟨p,hp,hpk⟩,hns,hd⟩:=J.js hbk.1
     rw [if_pos ⟨by omega,by omega⟩,decide_eq_true hbk.1,decide_eq_true hbk.2,Bool.true_and,Bool.true_and]
     have e1:W64 ((fr:Int)+1)=((fr+1:Nat):Int):=by rw [W64_id (by omega) (by omega)];simp
     have e2:W64 (((bk:Int)-1)+1)=(bk:Int):=by rw [W64_id (by omega) (by omega)];omega
     rw [e1,e2];have hdec:meas g.pieces.length s.length bk bk (fr+1)<meas g.pieces.length s.length i bk fr:=less_by (by omega) (by omega);rw [matchL g s hP hS (m-1) n (fr+1) bk bk (fr+1) ⟨by omega,by omega,Nat.le_refl _,Nat.le_refl _,λh=>⟨⟨p,hp,hpk⟩,λj h1 h2=>by omega,by omega⟩⟩ (by omega) (by omega)];rw [star_step g.pieces s hp hpk (by omega),show bk-1+1=bk by omega,restV,decide_eq_true hbk.1,Bool.true_and]
    ·rw [if_neg (λh=>hbk ⟨by omega,by omega⟩)]
     by_cases h1:0<bk
     ·have h2:¬fr<s.length:=λh=>hbk ⟨h1,h⟩
      simp [h2]
     ·simp [h1]
  by_cases hiP:i<g.pieces.length
  ·have hp:g.pieces[i]?=some g.pieces[i]:=List.getElem?_eq_getElem hiP
   rw [if_pos (by omega),idx_nat,hp,bndS]
   by_cases hk:g.pieces[i].kind=1
   ·rw [decide_eq_true hk];dsimp only;rw [if_pos rfl]
    have e1:W64 ((i:Int)+1)=((i+1:Nat):Int):=by rw [W64_id (by omega) (by omega)];simp
    have e2:(i:Int)=((i+1:Nat):Int)-1:=by omega
    have hdec:meas g.pieces.length s.length (i+1) (i+1) at_<meas g.pieces.length s.length i bk fr:=by
     refine less_by ?_ (by omega)
     have h1:(g.pieces.length+1-(i+1))+1≤g.pieces.length+1-bk:=by omega
     have h2:=Nat.mul_le_mul_right (s.length+1) h1;rw [Nat.add_mul] at h2
     omega
    have ih:=matchL g s hP hS (m-1) n at_ (i+1) (i+1) at_ ⟨ha,by omega,Nat.le_refl _,Nat.le_refl _,λ_=>⟨⟨_,hp,hk⟩,λj h1 h2=>by omega,by omega⟩⟩ (by omega) (by omega);rw [← e2] at ih;rw [e1,ih]
    congr 1
    rw [restV,show i+1-1=i by omega,decide_eq_true (by omega:0<i+1),Bool.true_and,← star_step g.pieces s hp hk ha,restV]
    cases hV:mM (g.pieces.drop i) (s.drop at_) with
    | true=>rfl
    | false=>
     by_cases hbk:0<bk
     ·obtain ⟨⟨p,hpp,hpk⟩,hns,hd⟩:=J.js hbk
      by_cases hfs:fr<s.length
      ·cases hold:mM (g.pieces.drop (bk-1)) (s.drop (fr+1)) with
       | false=>simp
       | true=>
        have:=star_new g.pieces s hbk hpp hpk hp hk hns hb hd hf hfs hold;rw [hV] at this;cases this
      ·simp [hfs]
     ·simp [hbk]
   ·rw [decide_eq_false hk];dsimp only;rw [if_neg (by decide),jn_eq,if_pos (by omega)]
    by_cases haS:at_<s.length
    ·have hc:s[at_]?=some s[at_]:=List.getElem?_eq_getElem haS
     rw [if_pos (by omega),bndS,idx_nat,hc,bndS,has_eq,bndS]
     cases hh:hasB g.pieces[i].set s[at_] with
     | true=>
      dsimp only;rw [if_pos rfl]
      have e1:W64 ((i:Int)+1)=((i+1:Nat):Int):=by rw [W64_id (by omega) (by omega)];simp
      have e2:W64 ((at_:Int)+1)=((at_+1:Nat):Int):=by rw [W64_id (by omega) (by omega)];simp
      have hdec:meas g.pieces.length s.length (i+1) bk fr<meas g.pieces.length s.length i bk fr:=by unfold meas;omega
      rw [e1,e2,matchL g s hP hS (m-1) n (at_+1) (i+1) bk fr ⟨by omega,by omega,by omega,by omega,λh=>by
       obtain ⟨h1,h2,h3⟩:=J.js h;refine ⟨h1,λj hj1 hj2=>?_,by omega⟩
       by_cases hj:j=i
       ·subst hj;exact ⟨_,hp,hk⟩
       ·exact h2 j hj1 (by omega)⟩ (by omega) (by omega)]
      congr 1
      rw [restV,restV,mM_set g.pieces hp hk,drop_at s hc];simp only [hh,Bool.true_and]
     | false=>
      dsimp only;rw [if_neg (by decide)]
      refine tail λh=>?_
      rw [mM_set g.pieces hp hk,drop_at s hc] at h;simp only [hh,Bool.false_and] at h
      cases h
    ·rw [if_neg (by omega)];dsimp only;rw [if_neg (by decide)]
     refine tail λh=>?_
     rw [mM_set g.pieces hp hk,(List.drop_eq_nil_of_le (by omega):s.drop at_=[])] at h
     cases h
  ·rw [if_neg (by omega)];dsimp only;rw [if_neg (by decide),jn_eq,if_neg (by omega)];dsimp only;rw [if_neg (by decide)]
   refine tail λh=>?_
   have e:i=g.pieces.length:=by omega
   refine ⟨e,?_⟩;rw [e,List.drop_length,mM,List.isEmpty_iff] at h;have:=congrArg List.length h;rw [List.length_drop] at this;simp at this;omega
theorem match_eq (g:T_glob_Glob) (s:Txt) (hP:g.pieces.length≤1000) (hS:s.length≤1000):m_glob_Glob_Match g s=some (mM g.pieces s):=by
 unfold m_glob_Glob_Match
 have hm:meas g.pieces.length s.length 0 0 0≤1100000000:=by
  unfold meas;have h1:=Nat.mul_le_mul (show g.pieces.length+1-0≤1001 by omega) (show s.length+1≤1001 by omega);have h2:=Nat.mul_le_mul (show (g.pieces.length+1-0)*(s.length+1)+(s.length-0)≤1003001 by omega) (show g.pieces.length+1≤1001 by omega)
  omega
 have:=matchL g s hP hS 1100000000 fuel 0 0 0 0 ⟨Nat.zero_le _,Nat.zero_le _,Nat.le_refl _,Nat.le_refl _,λh=>by omega⟩ hm (by unfold fuel;omega);refine this.trans ?_;simp [restV]
end Go.Proofs.YtpcpfjpcfcbopaaGreatDoor
set_option linter.unusedVariables false
set_option linter.unusedSimpArgs false
namespace Go.Proofs.YtpcpfjpcfcbopaaGreatDoor
open Go Go.RowKit Go.Wk
abbrev Mt:=T_api_Match
def errQ (m:Mt):Int:=if (cmpE m.Glob).1≠0 then (cmpE m.Glob).1 else if m.Key≠[]∧nameB m.Key=false then 3 else 0
def firstE:Nat→List Mt→Option (Int×Int)
 | _,[]=>none
 | i,m::q=>if errQ m≠0 then some ((i:Int),errQ m) else firstE (i+1) q
theorem firstE_none:∀ (i:Nat) (q:List Mt),firstE i q=none↔∀ m∈q,errQ m=0
 | i,[]=>by simp [firstE]
 | i,m::q=>by
  rw [firstE]
  by_cases h:errQ m=0
  ·rw [if_neg (λk=>k h),firstE_none]
   simp [h]
  ·rw [if_pos h];simp [h]
def glb (m:Mt):T_glob_Glob:=⟨m.Glob,(cmpE m.Glob).2⟩
def yesQ (m:Mt) (k:Txt):Bool:=yes35 (mM (cmpE m.Glob).2) m k
def selE (ks:List Txt) (l:List Mt):List Int×Int×Int:=match firstE 0 l with | some x=>([],x.1,x.2) | none=>(rowF (λk=>l.all λm=>yesQ m k) 0 ks,0,0)
theorem check_nil (s:Txt):check s []=if nameB s=true then 0 else 3:=by
 unfold check
 by_cases h:nameB s=true
 ·rw [if_pos h,if_pos h];rfl
 ·rw [if_neg h,if_neg h]
theorem IxOk.select {x:T_index_Index} {ks:List Txt} (hx:IxOk x ks) (l:List Mt) (hl:l.length≤1000):m_index_Index_Select x l=some (selE ks l):=by
 have hkl:=hx.len
 have rl:=λP:Txt→Bool=>rowF_len P 0 ks
 unfold m_index_Index_Select;rw [jn_eq,m_index_Index_Select_L2_scan _ _ _ (by omega)]
 have two:(λ(y7:List T_glob_Glob)=>((m_index_Index_all x).bind λp11=>
  jn (λ(y14:(List Int))=>
   (some (y14,(0:Int),(0:Int)))) λj2=>
  m_index_Index_Select_L1 x l y7 j2 fuel p11 0)) (l.map glb)=some (rowF (λk=>l.all λm=>yesQ m k) 0 ks,0,0):=by
  dsimp only;rw [hx.all,bndS,jn_eq,m_index_Index_Select_L1_scan _ _ _ _ _ (by omega)];refine scanL_inv (λ(p:List Mt) (s:List Int)=>s=rowF (λk=>p.all λm=>yesQ m k) 0 ks) (λ_ _ _=>some (rowF (λk=>l.all λm=>yesQ m k) 0 ks,0,0)) rfl (λs hs=>by rw [hs]) ?_;rintro p m q s k hp rfl hk
  have hi:idx (l.map glb) (p.length:Int)=some (glb m):=by
   rw [← hp,List.map_append,List.map_cons];exact idx_mid' (by simp)
  rw [bndS,hi,bndS,hx.ask (M:=mM (cmpE m.Glob).2) (λv hv=>match_eq (glb m) v (by have:=cmpE_len m.Glob;show (cmpE m.Glob).2.length≤1000;omega) hv) m,bndS,ixAnd_eq (by have:=rl (λk=>p.all λm=>yesQ m k);have:=rl (yes35 (mM (cmpE m.Glob).2) m);omega),bndS,and_rowF];refine hk _ (rowF_ext λk _=>?_);rw [List.all_append];simp [yesQ]
 refine (scanL_inv (λ(p:List Mt) (s:List T_glob_Glob)=>s=p.map glb) (λ(p q:List Mt) (_:List T_glob_Glob)=>match firstE p.length q with|some x=>some (([]:List Int),x.1,x.2)|none=>some (rowF (λk=>l.all λm=>yesQ m k) 0 ks,0,0)) rfl ?_ ?_).trans ?_
 ·rintro s rfl
  exact two
 ·rintro p m q s k hp rfl hk
  have hpl:p.length+q.length+1=l.length:=by have:=congrArg List.length hp;simp at this;omega
  obtain ⟨a,ha⟩:=compile_eq m.Glob;rw [bndS,ha,bndS,jn_eq,firstE]
  by_cases he:(cmpE m.Glob).1=0
  ·rw [if_pos he]
   have fin:∀ b:Bool,(b=true↔(m.Key≠[]∧nameB m.Key=false))→(λy64=>jn (λy67=>if y67≠0 then some (([]:List Int),(p.length:Int),y67) else (some (⟨m.Glob,(cmpE m.Glob).2⟩:T_glob_Glob)).bind λz72=>(appL (p.map glb) [z72]).bind λz74=>k z74) λj4=>if y64=true then j4 3 else j4 0) b=(match (if errQ m≠0 then some ((p.length:Int),errQ m) else firstE (p.length+1) q) with | some x=>some (([]:List Int),x.1,x.2) | none=>some (rowF (λk=>l.all λm=>yesQ m k) 0 ks,0,0)):=by
    intro b hb;dsimp only;rw [jn_eq]
    have eE:errQ m=if b=true then 3 else 0:=by
     unfold errQ;rw [if_neg (λh=>h he)]
     by_cases hh:m.Key≠[]∧nameB m.Key=false
     ·rw [if_pos hh,if_pos (hb.2 hh)]
     ·rw [if_neg hh,if_neg (λh=>hh (hb.1 h))]
    cases b with
    | true=>
     rw [if_pos rfl] at eE;rw [if_pos rfl,eE]
     rfl
    | false=>
     rw [if_neg (by decide)] at eE;rw [if_neg (by decide),eE];dsimp only;rw [if_neg (by decide),if_neg (by decide),bndS,app_some (by simp;omega),bndS];refine (hk _ ?_).trans ?_
     ·rw [List.map_append];rfl
     ·simp
   by_cases hk2:m.Key≠[]
   ·rw [if_pos ⟨rfl,hk2⟩,check_eq,bndS,check_nil]
    refine fin _ ?_;rw [decide_eq_true_iff]
    cases nameB m.Key<;>simp [hk2]
   ·rw [if_neg (λh=>hk2 h.2)]
    refine fin false ?_;simp at hk2;simp [hk2]
  ·rw [if_neg he]
   dsimp only
   have eE:errQ m=(cmpE m.Glob).1:=by unfold errQ;rw [if_pos he]
   rw [if_neg (λh=>he h.1),jn_eq,if_neg (by decide),eE];dsimp only;rw [if_pos he,if_pos he]
 ·unfold selE
  show (match firstE 0 l with | some x=>some (([]:List Int),x.1,x.2) | none=>some (rowF (λk=>l.all λm=>yesQ m k) 0 ks,0,0))=_
  cases firstE 0 l<;>rfl
def fewK (l:List Txt) (n:Int):Bool:=decide ((l.length:Int)≤n)&&l.all λk=>decide (k.length≤500)
theorem fewK_eq (l:List Txt) (n:Int) (hn:n≤1000):m_limnographref34_Few l n=some (fewK l n):=by
 unfold m_limnographref34_Few fewK
 by_cases h:(l.length:Int)>n
 ·rw [if_pos h,decide_eq_false (by omega)];rfl
 ·rw [if_neg h,decide_eq_true (by omega),jn_eq,m_limnographref34_Few_L1_scan _ _ (by omega)]
  refine (scanL_all (λk=>decide (k.length≤500)) (some false) λi x k _=>?_).trans ?_
  ·rw [bndS]
   by_cases h5:x.length≤500
   ·rw [if_neg (by omega),decide_eq_true h5,if_pos rfl]
   ·rw [if_pos (by omega),decide_eq_false h5,if_neg (by decide)]
  ·cases l.all λk=>decide (k.length≤500)<;>rfl
def fewM (l:List Mt):Bool:=decide (l.length≤20)&&l.all λm=>decide (m.Glob.length≤70)&&decide (m.Key.length≤100)
theorem fewM_eq (l:List Mt):m_limnographref35_Few l=some (fewM l):=by
 unfold m_limnographref35_Few fewM
 by_cases h:(l.length:Int)>20
 ·rw [if_pos h,decide_eq_false (by omega)];rfl
 ·rw [if_neg h,decide_eq_true (by omega),jn_eq,m_limnographref35_Few_L1_scan _ _ (by omega)]
  refine (scanL_all (λm:Mt=>decide (m.Glob.length≤70)&&decide (m.Key.length≤100)) (some false) λi x k _=>?_).trans ?_
  ·rw [bndS,jn_eq,bndS]
   by_cases h7:x.Glob.length≤70
   ·rw [if_neg (by omega),decide_eq_true h7]
    by_cases h8:x.Key.length≤100
    ·rw [decide_eq_false (by omega),decide_eq_true h8];rfl
    ·rw [decide_eq_true (by omega),decide_eq_false h8];rfl
   ·rw [if_pos (by omega),decide_eq_false h7];rfl
  ·cases l.all λm=>decide (m.Glob.length≤70)&&decide (m.Key.length≤100)<;>rfl
theorem same_refl (l:List Int) (h:l.length≤1000000):m_limnographref35_Same l l=some true:=by
 unfold m_limnographref35_Same;rw [if_neg (by simp),jn_eq,m_limnographref35_Same_L1_scan _ _ _ (by omega)];refine (scanL_pre (λ_ _ _=>some true) (λ_=>rfl) ?_);intro p x q s k hp hk
 have hi:idx l (p.length:Int)=some x:=by rw [← hp];exact idx_mid p x q
 rw [bndS,hi,bndS,if_neg (λh=>h rfl)];exact hk ()
end Go.Proofs.YtpcpfjpcfcbopaaGreatDoor
set_option linter.unusedVariables false
set_option linter.unusedSimpArgs false
namespace Go.Proofs.YtpcpfjpcfcbopaaGreatDoor
open Go Go.RowKit Go.Wk
theorem awake_eq:m_limnographlaw35_awake=some true:=by decide +kernel
theorem looked_eq {k:Txt} (h:OkK k) (hk:k.length≤10000) (key:Txt):m_limnographref35_looked k key=some (match look35 k key with | some v=>(v,true) | none=>([],false)):=by
 obtain ⟨nm,m,g1,g2,g3,g4,g5,g6⟩:=serE_at k h;have hc:=(chk_iff m []).1 g4;unfold m_limnographref35_looked look35 attrs;rw [rseries_eq k hk,bndS,g5,g6]
 by_cases h0:key=[]
 ·subst h0
  rw [if_pos rfl,List.find?_append]
  have:m.find? (λa=>decide (a.Key=[]))=none:=by
   rw [List.find?_eq_none];intro a ha;simpa using nameB_ne (hc.1 a ha).1
  rw [this];rfl
 ·rw [if_neg h0,jn_eq,m_limnographref35_looked_L1_scan _ _ _ (by rw [g5];omega),g5]
  have hlast:([⟨[],nm⟩]:List Pr).find? (λa=>decide (a.Key=key))=none:=by simp [Ne.symm h0]
  rw [List.find?_append,hlast,Option.or_none];refine scanL_pre (λ(_ q:List Pr) (_:Unit)=>some (match (q.find? λa=>decide (a.Key=key)).map (·.Val) with|some v=>(v,true)|none=>([],false))) (λ_=>rfl) ?_;intro p a q s kk hp hkk;rw [bndS,List.find?_cons]
  by_cases e:a.Key=key
  ·rw [if_pos e,bndS,decide_eq_true e];rfl
  ·rw [if_neg e,decide_eq_false e];exact hkk ()
end Go.Proofs.YtpcpfjpcfcbopaaGreatDoor
namespace Go.Proofs.YtpcpfjpcfcbopaaGreatDoor
open Go Go.RowKit Go.Wk
def tabS (S:T_glob_set):List Bool:=(List.range 256).map λi=>hasB S (UInt8.ofNat i)
theorem tab_len (S:T_glob_set):(tabS S).length=256:=by simp [tabS]
theorem tab_get (S:T_glob_set) (i:Nat) (h:i<256):(tabS S)[i]?=some (hasB S (UInt8.ofNat i)):=by
 unfold tabS;rw [List.getElem?_map,List.getElem?_range h];rfl
theorem tab_c (S:T_glob_set) (c:UInt8):idx (tabS S) ((c.toNat:Nat):Int)=some (hasB S c):=by
 rw [idx_nat,tab_get S _ (u8lt c)]
 congr 2
 exact UInt8.toNat_inj.1 (by rw [UInt8.toNat_ofNat'];have:=u8lt c;omega)
theorem tab_ext {S' S:T_glob_set} {l:List Bool} (hl:l.length=256) (h:∀ i,i<256→l[i]?=some (hasB S (UInt8.ofNat i))):l=tabS S:=by
 refine List.ext_getElem? λi=>?_
 by_cases hi:i<256
 ·rw [h i hi,tab_get S i hi]
 ·rw [List.getElem?_eq_none (by omega),List.getElem?_eq_none (by rw [tab_len];omega)]
theorem ofNat_eq (i:Nat) (c:UInt8) (hi:i<256):UInt8.ofNat i=c↔i=c.toNat:=by
 constructor
 ·rintro rfl;rw [UInt8.toNat_ofNat'];omega
 ·rintro rfl;exact UInt8.toNat_inj.1 (by rw [UInt8.toNat_ofNat'];have:=u8lt c;omega)
theorem tab_set (S:T_glob_set) (c:UInt8):setI (tabS S) ((c.toNat:Nat):Int) true=tabS (addS S c):=by
 refine tab_ext (S':=S) (by simp [setI,tab_len]) λi hi=>?_
 unfold setI;rw [List.getElem?_set,hasB_add]
 by_cases h:i=c.toNat
 ·rw [if_pos (by simp;omega),if_pos (by rw [tab_len];simp;omega),(ofNat_eq i c hi).2 h];simp
 ·rw [if_neg (by simp;omega),tab_get S i hi,decide_eq_false (λhh=>h ((ofNat_eq i c hi).1 hh)),Bool.or_false]
theorem tab_s0:tabS s0=List.replicate 256 false:=by
 symm
 refine tab_ext (S':=s0) List.length_replicate λi hi=>?_
 rw [hasB_s0,List.getElem?_replicate,if_pos hi]
theorem tab_full:tabS (spanS 256 0 s0)=List.replicate 256 true:=by
 symm
 refine tab_ext (S':=s0) List.length_replicate λi hi=>?_
 rw [hasB_span _ 256 0 s0 (by omega),List.getElem?_replicate,if_pos hi,decide_eq_true ⟨Nat.zero_le _,by have:=u8lt (UInt8.ofNat i);omega⟩,Bool.or_true]
theorem nothingL (b:Bool) (j:List Bool→Option (List Bool)):∀ (m n k:Nat),m<n→k+m=256→m_limnographref32_nothing_L1 b j n (List.replicate k b) (k:Int)=j (List.replicate 256 b)
 | 0,n+1,k,_,h=>by
  have:k=256:=by omega
  subst this;rw [m_limnographref32_nothing_L1,if_neg (by decide)]
 | m+1,n+1,k,hn,h=>by
  rw [m_limnographref32_nothing_L1,if_pos (by omega),app_some (by simp;omega),bndS,W64_id (by omega) (by omega),← List.replicate_succ'];exact nothingL b j m n (k+1) (by omega) (by omega)
theorem nothing_eq (b:Bool):m_limnographref32_nothing b=some (List.replicate 256 b):=by
 unfold m_limnographref32_nothing;rw [jn_eq];exact nothingL b _ 256 fuel 0 (by unfold fuel;omega) (by omega)
theorem plain_eq (c:UInt8):m_limnographref32_plain c=some ⟨false,true,tabS (addS s0 c),c⟩:=by
 unfold m_limnographref32_plain;rw [nothing_eq,bndS,← tab_s0,tab_c,bndS,tab_set]
def endN:Txt→Option Nat
 | []=>none
 | c::r=>if c=93 then some 0 else if c=92 then (match r with | []=>none | _::r'=>(endN r').map (·+2)) else (endN r).map (·+1)
theorem endN_cons (c:UInt8) (r:Txt):endN (c::r)=if c=93 then some 0 else if c=92 then (match r with | []=>none | _::r'=>(endN r').map (·+2)) else (endN r).map (·+1):=by cases r<;>rfl
theorem clo_end:∀ (f:Nat) (t:Txt),t.length≤f→cloB t=(endN t).isSome
 | _,[],_=>rfl
 | f+1,c::r,h=>by
  rw [cloB_cons,endN_cons]
  by_cases h93:c=93
  ·rw [if_pos h93,if_pos h93];rfl
  ·rw [if_neg h93,if_neg h93]
   by_cases h92:c=92
   ·rw [if_pos h92,if_pos h92]
    cases r with
    | nil=>rfl
    | cons d r=>dsimp only;rw [clo_end f r (by simp at h;omega)];simp
   ·rw [if_neg h92,if_neg h92,clo_end f r (by simp at h;omega)];simp
theorem endL (s:Txt) (hs:s.length≤1000):∀ (f:Nat) (t p:Txt) (n:Nat),s=p++t→t.length≤f→f<n→m_limnographref32_end_L1 s (λ_=>some (-1)) n (p.length:Int)=some (match endN t with | none=>-1 | some k=>((p.length+k:Nat):Int))
 | f,[],p,n+1,h,_,_=>by
  have hl:s.length=p.length:=by rw [h];simp
  rw [m_limnographref32_end_L1,if_neg (by omega)];rfl
 | f+1,c::r,p,n+1,h,hf,hn=>by
  have hl:s.length=p.length+(r.length+1):=by rw [h];simp
  have hi:idx s (p.length:Int)=some c:=(idx_suf 0 h (by simp)).trans rfl;rw [m_limnographref32_end_L1,if_pos (by omega),hi,bndS,endN_cons]
  by_cases h93:c=93
  ·rw [if_pos ((c93 c).2 h93),if_pos h93];simp
  ·rw [if_neg (λhh=>h93 ((c93 c).1 hh)),if_neg h93,bndS,jn_eq]
   by_cases h92:c=92
   ·rw [if_pos ((c92 c).2 h92),if_pos h92];dsimp only;rw [W64_id (z:=(p.length:Int)+1) (by omega) (by omega),W64_id (by omega) (by omega)]
    cases r with
    | nil=>
     match n,hn with
     | n+1,_=>rw [m_limnographref32_end_L1,if_neg (by simp at hl;omega)]
    | cons d r=>
     have:=endL s hs f r (p++[c,d]) n (by rw [h];simp) (by simp at hf;omega) (by omega)
     have e:(((p++[c,d]).length:Nat):Int)=(p.length:Int)+1+1:=by simp;omega
     rw [e] at this;refine this.trans ?_;dsimp only
     cases endN r with
     | none=>rfl
     | some k=>
      simp only [Option.map_some,List.length_append,List.length_cons,List.length_nil]
      congr 2;omega
   ·rw [if_neg (λhh=>h92 ((c92 c).1 hh)),if_neg h92];dsimp only;rw [W64_id (by omega) (by omega)]
    have:=endL s hs f r (p++[c]) n (by rw [h];simp) (by simp at hf;omega) (by omega)
    have e:(((p++[c]).length:Nat):Int)=(p.length:Int)+1:=by simp
    rw [e] at this;refine this.trans ?_
    cases endN r with
    | none=>rfl
    | some k=>
     simp only [Option.map_some,List.length_append,List.length_cons,List.length_nil]
     congr 2;omega
theorem end_eq {s:Txt} (hs:s.length≤1000) {p t:Txt} (h:s=p++t):m_limnographref32_end s (p.length:Int)=some (match endN t with | none=>-1 | some k=>((p.length+k:Nat):Int)):=by
 unfold m_limnographref32_end;rw [jn_eq];exact endL s hs s.length t p fuel h (by rw [h];simp) (by unfold fuel;omega)
theorem memb_end {c:UInt8} {r:Txt} {k:Nat} (h:endN (c::r)=some k) (h93:c≠93):∃ a r1 m,memb (c::r)=some (a,r1)∧endN r1=some m∧∃ q,c::r=q++r1∧q.length=(if c=92 then 2 else 1)∧k=m+(if c=92 then 2 else 1):=by
 rw [endN_cons,if_neg h93] at h;rw [memb_cons]
 by_cases h92:c=92
 ·rw [if_pos h92] at h ⊢
  cases r with
  | nil=>cases h
  | cons d r=>
   obtain ⟨m,h1,h2⟩:=Option.map_eq_some_iff.1 h;exact ⟨d,r,m,rfl,h1,[c,d],rfl,by rw [if_pos h92];rfl,by rw [if_pos h92];omega⟩
 ·rw [if_neg h92] at h ⊢
  obtain ⟨m,h1,h2⟩:=Option.map_eq_some_iff.1 h;exact ⟨c,r,m,rfl,h1,[c],rfl,by rw [if_neg h92];rfl,by rw [if_neg h92];omega⟩
theorem thing_eq {s p t:Txt} (hs:s.length≤1000) (h:s=p++t) {a:UInt8} {r1:Txt} (hm:memb t=some (a,r1)):∃ q,s=q++r1∧p.length<q.length∧q.length≤p.length+2∧m_limnographref32_thing s (p.length:Int)=some ⟨a,(q.length:Int)⟩:=by
 cases t with
 | nil=>simp [memb] at hm
 | cons c r=>
  have hl:s.length=p.length+(r.length+1):=by rw [h];simp
  have hi:idx s (p.length:Int)=some c:=(idx_suf 0 h (by simp)).trans rfl;unfold m_limnographref32_thing;rw [hi,bndS,bndS];rw [memb_cons] at hm
  by_cases h92:c=92
  ·rw [if_pos h92] at hm
   cases r with
   | nil=>simp at hm
   | cons d r=>
    simp at hm;obtain ⟨rfl,rfl⟩:=hm;rw [if_pos ((c92 c).2 h92),W64_id (by omega) (by omega),show idx s ((p.length:Int)+1)=some d from (idx_suf 1 h (by simp)).trans rfl,bndS,W64_id (by omega) (by omega)];exact ⟨p++[c,d],by rw [h];simp,by simp,by simp,by simp⟩
  ·rw [if_neg h92] at hm
   simp at hm;obtain ⟨rfl,rfl⟩:=hm;rw [if_neg (λhh=>h92 ((c92 c).1 hh)),W64_id (by omega) (by omega)];exact ⟨p++[c],by rw [h];simp,by simp,by simp,by simp⟩
theorem setL3 (y:T_limnographref32_Thing) (j:List Bool→Option T_limnographref32_Got):∀ (m n i:Nat) (S:T_glob_set),m<n→i+m=y.C.toNat+1→m_limnographref32_set_L3 y j n (tabS S) (i:Int)=j (tabS (spanS m i S))
 | 0,n+1,i,S,_,h=>by rw [m_limnographref32_set_L3,if_neg (by omega)];rfl
 | m+1,n+1,i,S,hn,h=>by
  have h256:=u8lt y.C
  have e:(i:Int)=(((UInt8.ofNat i).toNat:Nat):Int):=by rw [UInt8.toNat_ofNat'];omega
  rw [m_limnographref32_set_L3,if_pos (by omega),e,tab_c,bndS,tab_set,← e,W64_id (by omega) (by omega)];exact setL3 y j m n (i+1) (addS S (UInt8.ofNat i)) (by omega) (by omega)
theorem notL1 (j:List Bool→Option T_limnographref32_Got) (l0:List Bool) (hl0:l0.length=256):∀ (m n k:Nat) (l:List Bool),m<n→k+m=256→l=(l0.take k).map (λb=>!b)++l0.drop k→m_limnographref32_set_L1 j n l (k:Int)=j (l0.map λb=>!b)
 | 0,n+1,k,l,_,h,hl=>by
  have:k=256:=by omega
  subst this;rw [m_limnographref32_set_L1,if_neg (by decide),hl,List.take_of_length_le (by omega),List.drop_eq_nil_of_le (by omega),List.append_nil]
 | m+1,n+1,k,l,hn,h,hl=>by
  have hk:k<l0.length:=by omega
  have h1:l0.drop k=l0[k]::l0.drop (k+1):=List.drop_eq_getElem_cons hk
  have hlen:((l0.take k).map λb=>!b).length=k:=by simp;omega
  have hg:idx l (k:Int)=some l0[k]:=by rw [hl,h1];exact idx_mid' (by rw [hlen])
  rw [m_limnographref32_set_L1,if_pos (by omega),hg,bndS,bndS,W64_id (by omega) (by omega)];refine notL1 j l0 hl0 m n (k+1) _ (by omega) (by omega) ?_;unfold setI;rw [Int.toNat_natCast,hl,h1,List.set_append_right _ _ (by omega),hlen,Nat.sub_self,List.set_cons_zero,List.take_succ_eq_append_getElem hk,List.map_append,List.append_assoc]
  rfl
theorem tab_not (S:T_glob_set):(tabS S).map (λb=>!b)=tabS (notS S):=by
 refine tab_ext (S':=S) (by simp [tab_len]) λi hi=>?_
 rw [List.getElem?_map,tab_get S i hi,hasB_not];rfl
abbrev Got32:=T_limnographref32_Got
theorem end_hd {t:Txt} {k:Nat} (h:endN t=some k):t.head?=some 93↔k=0:=by
 cases t with
 | nil=>cases h
 | cons c r=>
  rw [endN_cons] at h
  by_cases h93:c=93
  ·rw [if_pos h93] at h;injection h with h;subst h;simp [h93]
  ·rw [if_neg h93] at h
   have hk:k≠0:=by
    by_cases h92:c=92
    ·rw [if_pos h92] at h
     cases r with
     | nil=>cases h
     | cons d r=>obtain ⟨m,_,h2⟩:=Option.map_eq_some_iff.1 h;omega
    ·rw [if_neg h92] at h
     obtain ⟨m,_,h2⟩:=Option.map_eq_some_iff.1 h;omega
   simp [h93,hk]
theorem setL2 (s:Txt) (hs:s.length≤1000) (j:List Bool→Option Got32) (to_:Nat):∀ (f:Nat) (t p:Txt) (S:T_glob_set) (n k:Nat),s=p++t→t.length≤f→f<n→endN t=some k→to_=p.length+k →
 (∃ G:Got32,itemsE (f+1) t S=none∧G.E=3∧m_limnographref32_set_L2 s (to_:Int) j n (tabS S) (p.length:Int)=some G)∨∃ S' r,itemsE (f+1) t S=some (S',r)∧(∃ q,s=q++r∧q.length=to_)∧m_limnographref32_set_L2 s (to_:Int) j n (tabS S) (p.length:Int)=j (tabS S')
 | 0,t,p,S,n,k,h,hf,_,hc,_=>by
  have:t=[]:=List.eq_nil_of_length_eq_zero (by omega);subst this;cases hc
 | f+1,t,p,S,n+1,k,h,hf,hn,hc,hto=>by
  cases t with
  | nil=>cases hc
  | cons c r=>
  have hl:s.length=p.length+(r.length+1):=by rw [h];simp
  have hi:idx s (p.length:Int)=some c:=(idx_suf 0 h (by simp)).trans rfl
  by_cases h93:c=93
  ·have hk:k=0:=(end_hd hc).1 (by rw [h93];rfl)
   refine .inr ⟨S,c::r,by rw [itemsE,if_pos h93],⟨p,h,by omega⟩,?_⟩;rw [m_limnographref32_set_L2,if_neg (by omega)]
  have hk0:k≠0:=λhk=>h93 (by have:=(end_hd hc).2 hk;simpa using this)
  by_cases h45:c=45
  ·have hr:∃ m,endN r=some m∧k=m+1:=by
    rw [endN_cons,if_neg h93,if_neg (by rw [h45];decide)] at hc;obtain ⟨m,h1,h2⟩:=Option.map_eq_some_iff.1 hc;exact ⟨m,h1,h2.symm⟩
   obtain ⟨m,hm,hkm⟩:=hr
   have e1:W64 ((p.length:Int)+1)=(((p++[c]).length:Nat):Int):=by rw [W64_id (by omega) (by omega)];simp
   by_cases hm0:m=0
   ·have eI:itemsE (f+1+1) (c::r) S=itemsE (f+1) r (addS S 45):=by rw [itemsE,if_neg h93,if_pos h45,if_pos ((end_hd hm).2 hm0)]
    have eL:m_limnographref32_set_L2 s (to_:Int) j (n+1) (tabS S) (p.length:Int)=m_limnographref32_set_L2 s (to_:Int) j n (tabS (addS S 45)) (((p++[c]).length:Nat):Int):=by
     rw [m_limnographref32_set_L2,if_pos (by omega),hi,bndS,if_pos ((c45 c).2 h45),e1,if_neg (by simp;omega),show (45:Int)=(((45:UInt8).toNat:Nat):Int) from rfl,tab_c,bndS,tab_set]
    rw [eI,eL];exact setL2 s hs j to_ f r (p++[c]) (addS S 45) n m (by rw [h];simp) (by simp at hf;omega) (by omega) hm (by simp;omega)
   ·have eI:itemsE (f+1+1) (c::r) S=none:=by rw [itemsE,if_neg h93,if_pos h45,if_neg (λhh=>hm0 ((end_hd hm).1 hh))]
    refine .inl ⟨⟨[],(p.length:Int),3⟩,eI,rfl,?_⟩;rw [m_limnographref32_set_L2,if_pos (by omega),hi,bndS,if_pos ((c45 c).2 h45),e1,if_pos (by simp;omega)]
  obtain ⟨a,r1,k1,hm,hk1,q0,hq0,hq0l,hkk⟩:=memb_end hc h93;obtain ⟨q1,hq1,hq1a,hq1b,hth⟩:=thing_eq hs h hm
  have hql:s.length=q1.length+r1.length:=by rw [hq1];simp
  have hto1:to_=q1.length+k1:=by
   have e1:s=(p++q0)++r1:=by rw [h,hq0];simp
   have e2:=congrArg List.length e1;simp at e2
   omega
  have ha:=u8lt a
  have fin:∀ (y:T_limnographref32_Thing) (q2 r2:Txt) (k2:Nat),s=q2++r2→y.Next=(q2.length:Int)→endN r2=some k2→to_=q2.length+k2→p.length<q2.length→a.toNat≤y.C.toNat→(∃ G:Got32,itemsE (f+1) r2 (spanS (y.C.toNat+1-a.toNat) a.toNat S)=none∧G.E=3∧m_limnographref32_set_L3 y (λy86=>m_limnographref32_set_L2 s (to_:Int) j n y86 y.Next) fuel (tabS S) ((a.toNat:Nat):Int)=some G)∨∃ S' r,itemsE (f+1) r2 (spanS (y.C.toNat+1-a.toNat) a.toNat S)=some (S',r)∧(∃ q,s=q++r∧q.length=to_)∧m_limnographref32_set_L3 y (λy86=>m_limnographref32_set_L2 s (to_:Int) j n y86 y.Next) fuel (tabS S) ((a.toNat:Nat):Int)=j (tabS S'):=by
   intro y q2 r2 k2 g1 g2 g3 g4 g5 g6
   have g1l:s.length=q2.length+r2.length:=by rw [g1];simp
   have hy:=u8lt y.C;rw [setL3 y _ (y.C.toNat+1-a.toNat) fuel a.toNat S (by unfold fuel;omega) (by omega),g2];exact setL2 s hs j to_ f r2 q2 (spanS (y.C.toNat+1-a.toNat) a.toNat S) n k2 g1 (by simp only [List.length_cons] at hf;omega) (by omega) g3 g4
  have one:=fin ⟨a,(q1.length:Int)⟩ q1 r1 k1 hq1 rfl hk1 hto1 hq1a (Nat.le_refl _);dsimp only at one
  have eI0:itemsE (f+1+1) (c::r) S=if r1.head?=some 45∧r1.tail.head?≠some 93∧r1.tail.head?≠some 45 then (match memb r1.tail with | none=>none | some (b,r3)=>if b.toNat<a.toNat then none else itemsE (f+1) r3 (spanS (b.toNat+1-a.toNat) a.toNat S)) else itemsE (f+1) r1 (spanS (a.toNat+1-a.toNat) a.toNat S):=by
   rw [itemsE,if_neg h93,if_neg h45,hm]
   all_goals rfl
  let K8:T_limnographref32_Thing→Option Got32:=λy77=>if ((y77.C).toNat:Int)<((a).toNat:Int) then (some (⟨([]:List T_limnographref32_Piece),(p.length:Int),3⟩:T_limnographref32_Got)) else m_limnographref32_set_L3 y77 (λy86=>m_limnographref32_set_L2 s (to_:Int) j n y86 y77.Next) fuel (tabS S) (a.toNat:Int)
  have hn1:W64 ((q1.length:Int)+1)=((q1.length+1:Nat):Int):=by rw [W64_id (by omega) (by omega)];simp
  have eL0:m_limnographref32_set_L2 s (to_:Int) j (n+1) (tabS S) (p.length:Int)=(if ((q1.length+1:Nat):Int)<(to_:Int) then ((idx s (q1.length:Int)).bind λz102=>(if decide (((z102).toNat:Int)=45)=true then ((idx s ((q1.length+1:Nat):Int)).bind λz100=>(if decide (((z100).toNat:Int)≠45)=true then ((m_limnographref32_thing s ((q1.length+1:Nat):Int)).bind λp95=>K8 p95) else K8 ⟨a,(q1.length:Int)⟩)) else K8 ⟨a,(q1.length:Int)⟩)) else K8 ⟨a,(q1.length:Int)⟩):=by
   rw [m_limnographref32_set_L2,if_pos (by omega),hi,bndS,if_neg (λhh=>h45 ((c45 c).1 hh)),hth,bndS];simp only [jn_eq,hn1,Bool.false_eq_true,if_false,K8]
  have K8a:K8 ⟨a,(q1.length:Int)⟩=m_limnographref32_set_L3 ⟨a,(q1.length:Int)⟩ (λy86=>m_limnographref32_set_L2 s (to_:Int) j n y86 (q1.length:Int)) fuel (tabS S) (a.toNat:Int):=by
   show (if ((a.toNat:Nat):Int)<((a.toNat:Nat):Int) then _ else _)=_;rw [if_neg (Int.lt_irrefl _)]
  have single:itemsE (f+1+1) (c::r) S=itemsE (f+1) r1 (spanS (a.toNat+1-a.toNat) a.toNat S)→m_limnographref32_set_L2 s (to_:Int) j (n+1) (tabS S) (p.length:Int)=K8 ⟨a,(q1.length:Int)⟩→(∃ G:Got32,itemsE (f+1+1) (c::r) S=none∧G.E=3∧m_limnographref32_set_L2 s (to_:Int) j (n+1) (tabS S) (p.length:Int)=some G)∨∃ S' r_1,itemsE (f+1+1) (c::r) S=some (S',r_1)∧(∃ q,s=q++r_1∧q.length=to_)∧m_limnographref32_set_L2 s (to_:Int) j (n+1) (tabS S) (p.length:Int)=j (tabS S'):=by
   intro g1 g2;rw [g1,g2,K8a];exact one
  by_cases hlt:q1.length+1<to_
  ·-- there is something behind the thing and its follower
   cases r1 with
   | nil=>cases hk1
   | cons d1 r2=>
   have hx1:idx s ((q1.length:Nat):Int)=some d1:=(idx_suf 0 hq1 (by simp)).trans rfl;rw [if_pos (by omega),hx1,bndS] at eL0
   by_cases hd:d1=45
   ·subst hd
    rw [decide_eq_true ((c45 45).2 rfl),if_pos rfl] at eL0
    have hr2:∃ m,endN r2=some m∧k1=m+1:=by
     rw [endN_cons,if_neg (by decide),if_neg (by decide)] at hk1;obtain ⟨m,h1,h2⟩:=Option.map_eq_some_iff.1 hk1;exact ⟨m,h1,h2.symm⟩
    obtain ⟨m,hm2,hkm⟩:=hr2
    have h2n:r2.head?≠some 93:=λhh=>by have:=(end_hd hm2).1 hh;omega
    simp only [List.head?_cons,List.tail_cons,true_and] at eI0
    cases r2 with
    | nil=>cases hm2
    | cons d2 r2'=>
    have hx2:idx s ((q1.length+1:Nat):Int)=some d2:=(idx_suf 1 hq1 (by simp)).trans rfl;rw [hx2,bndS] at eL0
    by_cases h3:d2=45
    ·rw [d45f h3,if_neg (by decide)] at eL0
     rw [if_neg (λhh=>hh.2 (by rw [h3];rfl))] at eI0;exact single eI0 eL0
    ·rw [d45t h3,if_pos rfl] at eL0
     have h93':d2≠93:=λhh=>h2n (by rw [hh];rfl)
     rw [if_pos ⟨h2n,λhh=>h3 (by simpa using hh)⟩] at eI0;obtain ⟨b,r3,k3,hmb,hk3,q3',hq3',hq3l',hk3'⟩:=memb_end hm2 h93'
     have hq2:s=(q1++[45])++(d2::r2'):=by rw [hq1];simp
     obtain ⟨q3,hq3,hq3a,hq3b,hth3⟩:=thing_eq hs hq2 hmb
     have e3:(((q1++[45]).length:Nat):Int)=((q1.length+1:Nat):Int):=by simp
     rw [e3] at hth3;rw [hth3,bndS] at eL0;rw [hmb] at eI0;dsimp only at eI0
     have hto3:to_=q3.length+k3:=by
      have e1:s=((q1++[45])++q3')++r3:=by rw [hq2,hq3'];simp
      have e2:=congrArg List.length e1;have e4:=congrArg List.length hq3;simp at e2 e4
      omega
     by_cases hlt2:b.toNat<a.toNat
     ·rw [if_pos hlt2] at eI0
      refine .inl ⟨⟨[],(p.length:Int),3⟩,eI0,rfl,eL0.trans ?_⟩;show (if ((b.toNat:Nat):Int)<((a.toNat:Nat):Int) then _ else _)=_;rw [if_pos (by omega)]
     ·rw [if_neg hlt2] at eI0
      have K8b:K8 ⟨b,(q3.length:Int)⟩=m_limnographref32_set_L3 ⟨b,(q3.length:Int)⟩ (λy86=>m_limnographref32_set_L2 s (to_:Int) j n y86 (q3.length:Int)) fuel (tabS S) (a.toNat:Int):=by
       show (if ((b.toNat:Nat):Int)<((a.toNat:Nat):Int) then _ else _)=_;rw [if_neg (by omega)]
      rw [eI0,eL0,K8b];simp at hq3a;exact fin ⟨b,(q3.length:Int)⟩ q3 r3 k3 hq3 rfl hk3 hto3 (by omega) (by show a.toNat≤b.toNat;omega)
   ·rw [decide_eq_false (λhh=>hd ((c45 d1).1 hh)),if_neg (by decide)] at eL0
    rw [if_neg (λhh=>hd (by simpa using hh.1))] at eI0;exact single eI0 eL0
  ·rw [if_neg (by omega)] at eL0
   have hno:¬(r1.head?=some 45∧r1.tail.head?≠some 93∧r1.tail.head?≠some 45):=by
    rintro ⟨g1,g2,_⟩
    cases r1 with
    | nil=>cases g1
    | cons d1 r2=>
     simp at g1;subst g1;rw [endN_cons,if_neg (by decide),if_neg (by decide)] at hk1;obtain ⟨m,h1,h2⟩:=Option.map_eq_some_iff.1 hk1;exact g2 ((end_hd h1).2 (by omega))
   rw [if_neg hno] at eI0;exact single eI0 eL0
end Go.Proofs.YtpcpfjpcfcbopaaGreatDoor
namespace Go.Proofs.YtpcpfjpcfcbopaaGreatDoor
open Go Go.RowKit Go.Wk
abbrev RP:=T_limnographref32_Piece
def viewR (r:RP):Bool×List Bool:=(r.Many,r.In)
def viewP (p:Pc):Bool×List Bool:=(decide (p.kind=1),if p.kind=1 then [] else tabS p.set)
theorem viewP_p0 (S:T_glob_set):viewP (p0 S)=(false,tabS S):=rfl
theorem viewR_mk (l:List Bool) (b:Bool) (c:UInt8):viewR ⟨false,b,l,c⟩=(false,l):=rfl
def ReadsR (s:Txt) (x:Int×T_glob_set×Txt) (o:Option Got32):Prop:=
 ∃ G,o=some G∧G.E=x.1∧(x.1=0→∃ r q,G.L=[r]∧viewR r=(false,tabS x.2.1)∧s=q++x.2.2∧G.At=(q.length:Int))
theorem set_at (s:Txt) (hs:s.length≤1000) (p0' t1:Txt) (b:Bool) (fr:Int) (h:s=p0'++t1) (x:Int×T_glob_set×Txt) (hx:x=if cloB t1=true then (match itemsE (t1.length+1) t1 s0 with
 | none=>((3:Int),s0,([]:Txt))
 | some (S,r)=>if t1.head?=some 93 then ((3:Int),s0,([]:Txt)) else ((0:Int),if b=true then notS S else S,r.tail)) else ((2:Int),s0,([]:Txt))) :
 ReadsR s x ((m_limnographref32_end s (p0'.length:Int)).bind λp8 =>
  if p8<0 then
  (some (⟨([]:List T_limnographref32_Piece),fr,2⟩:T_limnographref32_Got))
  else
  (if p8=(p0'.length:Int) then
   (some (⟨([]:List T_limnographref32_Piece),fr,3⟩:T_limnographref32_Got))
   else
   ((m_limnographref32_nothing false).bind λp24=>
    jn (λ(y27:(List Bool))=>
     (jn (λ(y29:(List Bool))=>
      (some (⟨([(⟨false,false,y29,(0:UInt8)⟩:T_limnographref32_Piece)]:List T_limnographref32_Piece),W64 (p8+1),0⟩:T_limnographref32_Got))) λj4=>
      if b=true then
      (jn (λ(y41:(List Bool))=>
       (j4 y41)) λj5=>
       m_limnographref32_set_L1 j5 fuel y27 0)
      else
      (j4 y27))) λj3=>
    m_limnographref32_set_L2 s p8 j3 fuel p24 (p0'.length:Int)))):=by
 have hl:s.length=p0'.length+t1.length:=by rw [h];simp
 rw [end_eq hs h,bndS];rw [clo_end t1.length t1 (Nat.le_refl _)] at hx
 cases he:endN t1 with
 | none=>
  rw [he,show (none:Option Nat).isSome=false from rfl,if_neg (by decide)] at hx;dsimp only;rw [if_pos (by decide)];subst hx;exact ⟨_,rfl,rfl,λhh=>by cases hh⟩
 | some k=>
  rw [he,show (some k).isSome=true from rfl,if_pos rfl] at hx;dsimp only;rw [if_neg (show ¬(((p0'.length+k:Nat):Int)<0) by omega)]
  by_cases hk:k=0
  ·subst hk
   have hh:=(end_hd he).2 rfl;rw [if_pos (by simp)]
   have hx3:x.1=3:=by
    rw [hx]
    cases itemsE (t1.length+1) t1 s0 with
    | none=>rfl
    | some y=>dsimp only;rw [if_pos hh]
   exact ⟨_,rfl,hx3.symm,λh0=>by rw [hx3] at h0;cases h0⟩
  ·have hh:¬t1.head?=some 93:=λhh=>hk ((end_hd he).1 hh)
   rw [if_neg (show ¬(((p0'.length+k:Nat):Int)=(p0'.length:Int)) by omega),nothing_eq,bndS,jn_eq,← tab_s0]
   rcases setL2 s hs (λ(y27:(List Bool)) =>
    (jn (λ(y29:(List Bool))=>
     (some (⟨([(⟨false,false,y29,(0:UInt8)⟩:T_limnographref32_Piece)]:List T_limnographref32_Piece),W64 (((p0'.length+k:Nat):Int)+1),0⟩:T_limnographref32_Got))) λj4=>
     if b=true then
     (jn (λ(y41:(List Bool))=>
      (j4 y41)) λj5=>
      m_limnographref32_set_L1 j5 fuel y27 0)
     else
     (j4 y27))) (p0'.length+k) t1.length t1 p0' s0 fuel k h (Nat.le_refl _) (by unfold fuel;omega) he rfl with ⟨G,h1,h2,h3⟩ | ⟨S,r,h1,⟨q,hq,hql⟩,h3⟩
   ·rw [h1] at hx
    subst hx;exact ⟨G,h3,h2,λhh=>by cases hh⟩
   ·rw [h1] at hx
    dsimp only at hx;rw [if_neg hh] at hx;refine ⟨⟨[⟨false,false,tabS (if b=true then notS S else S),0⟩],W64 (((p0'.length+k:Nat):Int)+1),0⟩,h3.trans ?_,?_,?_⟩
    ·rw [jn_eq]
     cases b with
     | false=>rw [if_neg (by decide),if_neg (by decide)]
     | true=>
      rw [if_pos rfl,jn_eq,if_pos rfl];have:=notL1 (λ(y41:List Bool)=>(some (⟨([(⟨false,false,y41,(0:UInt8)⟩:T_limnographref32_Piece)]:List T_limnographref32_Piece),W64 (((p0'.length+k:Nat):Int)+1),0⟩:T_limnographref32_Got))) (tabS S) (tab_len S) 256 fuel 0 (tabS S) (by unfold fuel;omega) (by omega) (by simp);rw [tab_not] at this;exact this
    ·rw [hx]
    ·intro _
     have hrl:s.length=q.length+r.length:=by rw [hq];simp
     have hr0:r≠[]:=by
      rintro rfl
      have:k<t1.length:=by
       have h5:∀ (f:Nat) (t:Txt) (k:Nat),t.length≤f→endN t=some k→k<t.length:=by
        intro f
        induction f with
        | zero=>intro t k h6 h7;have:t=[]:=List.eq_nil_of_length_eq_zero (by omega);subst this;cases h7
        | succ f ih=>
         intro t k h6 h7
         cases t with
         | nil=>cases h7
         | cons c r=>
          rw [endN_cons] at h7
          by_cases h93:c=93
          ·rw [if_pos h93] at h7;injection h7 with h7;simp;omega
          ·rw [if_neg h93] at h7
           by_cases h92:c=92
           ·rw [if_pos h92] at h7
            cases r with
            | nil=>cases h7
            | cons d r=>
             obtain ⟨m,h8,h9⟩:=Option.map_eq_some_iff.1 h7;have:=ih r m (by simp at h6;omega) h8;simp;omega
           ·rw [if_neg h92] at h7
            obtain ⟨m,h8,h9⟩:=Option.map_eq_some_iff.1 h7;have:=ih r m (by simp at h6;omega) h8;simp;omega
       exact h5 t1.length t1 k (Nat.le_refl _) he
      simp at hrl;omega
     cases r with
     | nil=>exact (hr0 rfl).elim
     | cons c r=>
      refine ⟨_,q++[c],rfl,?_,?_,?_⟩
      ·rw [hx];rfl
      ·rw [hx,hq];simp
      ·show W64 _=_
       simp at hrl;rw [W64_id (by omega) (by omega)];simp;omega
theorem set_eq (s:Txt) (hs:s.length≤1000) (p t:Txt) (h:s=p++91::t):ReadsR s (clsE t) (m_limnographref32_set s (p.length:Int)):=by
 have hl:s.length=p.length+(t.length+1):=by rw [h];simp
 have e1:W64 ((p.length:Int)+1)=((p.length+1:Nat):Int):=by rw [W64_id (by omega) (by omega)];simp
 have h1:s=(p++[91])++t:=by rw [h];simp
 have hp1:(p++[91]).length=p.length+1:=by simp
 unfold m_limnographref32_set;rw [jn_eq,e1]
 have go:∀ b:Bool,b=decide (t.head?=some 33)→ReadsR s (clsE t) ((λ(y4:Bool)=>
  (jn (λ(y6:Int)=>
   ((m_limnographref32_end s y6).bind λp8=>
    if p8<0 then
    (some (⟨([]:List T_limnographref32_Piece),(p.length:Int),2⟩:T_limnographref32_Got))
    else
    (if p8=y6 then
     (some (⟨([]:List T_limnographref32_Piece),(p.length:Int),3⟩:T_limnographref32_Got))
     else
     ((m_limnographref32_nothing false).bind λp24=>
      jn (λ(y27:(List Bool))=>
       (jn (λ(y29:(List Bool))=>
        (some (⟨([(⟨false,false,y29,(0:UInt8)⟩:T_limnographref32_Piece)]:List T_limnographref32_Piece),W64 (p8+1),0⟩:T_limnographref32_Got))) λj4=>
        if y4=true then
        (jn (λ(y41:(List Bool))=>
         (j4 y41)) λj5=>
         m_limnographref32_set_L1 j5 fuel y27 0)
        else
        (j4 y27))) λj3=>
      m_limnographref32_set_L2 s p8 j3 fuel p24 y6)))) λj2=>
   if y4=true then
   (j2 (W64 (((p.length+1:Nat):Int)+1)))
   else
   (j2 ((p.length+1:Nat):Int)))) b):=by
  intro b hb;dsimp only;rw [jn_eq]
  cases b with
  | true=>
   have ht:t.head?=some 33:=of_decide_eq_true hb.symm
   have h2:s=(p++[91,33])++t.tail:=by
    cases t with
    | nil=>cases ht
    | cons c t=>simp at ht;subst ht;rw [h];simp
   have e2:W64 (((p.length+1:Nat):Int)+1)=(((p++[91,33]).length:Nat):Int):=by rw [W64_id (by omega) (by omega)];simp;omega
   rw [if_pos rfl,e2];refine set_at s hs _ t.tail true _ h2 (clsE t) ?_;unfold clsE;simp only [ht,if_true]
   all_goals rfl
  | false=>
   have ht:¬t.head?=some 33:=of_decide_eq_false hb.symm;rw [if_neg (by decide),← hp1];refine set_at s hs _ t false _ h1 (clsE t) ?_;unfold clsE;simp only [ht,if_false,Bool.false_eq_true]
   all_goals rfl
 cases t with
 | nil=>
  rw [if_neg (by simp at hl;omega)];exact go false rfl
 | cons c t=>
  have hi:idx s ((p.length+1:Nat):Int)=some c:=(idx_suf 0 h1 (by rw [hp1])).trans rfl;rw [if_pos (by simp at hl;omega),hi,bndS];refine go (decide (((c.toNat:Nat):Int)=33)) (decide_eq_decide.2 ?_);rw [c33];simp
theorem comp32L (s:Txt) (hs:s.length≤64):∀ (f:Nat) (t p:Txt) (acc:List Pc) (acc':List RP) (n:Nat),s=p++t→t.length≤f→f<n→acc.length≤p.length→acc'.map viewR=acc.map viewP →
 ∃ G:Got32,m_limnographref32_Compile_L1 s (λy11=>some ⟨y11,0,0⟩) n acc' (p.length:Int)=some G∧G.E=(compE (f+1) t acc).1∧(G.E=0→G.L.map viewR=(compE (f+1) t acc).2.map viewP)
 | f,[],p,acc,acc',n+1,h,_,_,_,hv=>by
  have hl:s.length=p.length:=by rw [h];simp
  rw [m_limnographref32_Compile_L1,if_neg (by omega)];exact ⟨_,rfl,rfl,λ_=>hv⟩
 | f+1,c::r,p,acc,acc',n+1,h,hf,hn,ha,hv=>by
  have hl:s.length=p.length+(r.length+1):=by rw [h];simp
  have hi:idx s (p.length:Int)=some c:=(idx_suf 0 h (by simp)).trans rfl
  have hal:acc'.length=acc.length:=by have:=congrArg List.length hv;simpa using this
  have h1:s=(p++[c])++r:=by rw [h];simp
  have e1:W64 ((p.length:Int)+1)=(((p++[c]).length:Nat):Int):=by rw [W64_id (by omega) (by omega)];simp
  have ih:=λ(r' q:Txt) (P:Pc) (R:RP) (hq:s=q++r') (hql:p.length<q.length) (hP:viewR R=viewP P)=>comp32L s hs f r' q (acc++[P]) (acc'++[R]) n hq (by have:=congrArg List.length hq;simp at this hf;omega) (by omega) (by simp;omega) (by simp [hv,hP])
  rw [m_limnographref32_Compile_L1,if_pos (by omega),hi,bndS,compE];unfold nextE
  by_cases h91:c=91
  ·subst h91
   rw [if_pos ((c91 91).2 rfl)];simp only [show ¬(91:UInt8)=42 by decide,show ¬(91:UInt8)=63 by decide,if_false,if_true];obtain ⟨G,g1,g2,g3⟩:=set_eq s (by omega) p r h;rw [g1,bndS,g2]
   by_cases he:(clsE r).1=0
   ·obtain ⟨R,q,g4,g5,g6,g7⟩:=g3 he
    rw [if_neg (λhh=>hh he),if_pos he,g4,show idx [R] 0=some R from rfl,bndS,app_some (by simp;omega),bndS,g7]
    have hq:p.length<q.length:=by
     rcases class_eq s (by omega) p r h with ⟨k1,_⟩|⟨_,k,q',_,k3,k4,k5⟩
     ·exact (k1 he).elim
     ·have e5:=congrArg List.length g6
      have e6:=congrArg List.length k4;simp at e5 e6
      omega
    exact ih _ q (p0 (clsE r).2.1) R g6 hq (by rw [g5];rfl)
   ·rw [if_pos he,if_neg he]
    exact ⟨G,rfl,g2,λh0=>by rw [g2] at h0;exact (he h0).elim⟩
  rw [if_neg (λhh=>h91 ((c91 c).1 hh))]
  by_cases h92:c=92
  ·subst h92
   rw [if_pos ((c92 92).2 rfl),W64_id (by omega) (by omega)];simp only [show ¬(92:UInt8)=42 by decide,show ¬(92:UInt8)=63 by decide,show ¬(92:UInt8)=91 by decide,if_false,if_true]
   cases r with
   | nil=>
    rw [if_pos (by simp at hl;omega)];exact ⟨_,rfl,rfl,λh0=>by cases h0⟩
   | cons d r=>
    rw [if_neg (by simp at hl;omega),show idx s ((p.length:Int)+1)=some d from (idx_suf 1 h (by simp)).trans rfl,bndS,plain_eq,bndS,app_some (by simp;omega),bndS]
    have e2:W64 ((p.length:Int)+2)=(((p++[92,d]).length:Nat):Int):=by rw [W64_id (by omega) (by omega)];simp
    rw [e2];exact ih r (p++[92,d]) (byteP d) _ (by rw [h];simp) (by simp) rfl
  rw [if_neg (λhh=>h92 ((c92 c).1 hh)),jn_eq,e1]
  by_cases h42:c=42
  ·rw [if_pos ((c42 c).2 h42),app_some (by simp;omega),bndS]
   simp only [h42,if_true];subst h42;exact ih r _ ⟨1,s0,false,0⟩ _ h1 (by simp) rfl
  rw [if_neg (λhh=>h42 ((c42 c).1 hh))];simp only [h42,h91,h92,if_false]
  by_cases h63:c=63
  ·obtain ⟨l256,hl256⟩:∃ l:List Bool,l=List.replicate 256 true:=⟨_,rfl⟩
   have ht:l256=tabS (spanS 256 0 s0):=hl256.trans tab_full.symm;rw [if_pos ((c63 c).2 h63),nothing_eq,← hl256,bndS,app_some (by simp;omega),bndS];simp only [h63,if_true];subst h63;refine ih r _ (p0 (spanS 256 0 s0)) ⟨false,false,l256,0⟩ h1 (by simp) ?_;rw [viewP_p0,viewR_mk,ht]
  ·rw [if_neg (λhh=>h63 ((c63 c).1 hh)),plain_eq,bndS,app_some (by simp;omega),bndS]
   simp only [h63,if_false];exact ih r _ (byteP c) _ h1 (by simp) rfl
theorem comp32_eq (s:Txt):∃ G:Got32,m_limnographref32_Compile s=some G∧G.E=(cmpE s).1∧(G.E=0→G.L.map viewR=(cmpE s).2.map viewP):=by
 unfold m_limnographref32_Compile cmpE
 by_cases h:s.length>64
 ·rw [if_pos (by omega),if_pos h]
  exact ⟨_,rfl,rfl,λh0=>by cases h0⟩
 ·rw [if_neg (by omega),if_neg h,jn_eq]
  exact comp32L s (by omega) s.length s [] [] [] fuel rfl (Nat.le_refl _) (by unfold fuel;omega) (by simp) rfl
end Go.Proofs.YtpcpfjpcfcbopaaGreatDoor
namespace Go.Proofs.YtpcpfjpcfcbopaaGreatDoor
open Go Go.RowKit Go.Wk
theorem mM_app:∀ (L1 L2:List Pc) (s:Txt),mM (L1++L2) s=true↔∃ k,k≤s.length∧mM L1 (s.take k)=true∧mM L2 (s.drop k)=true
 | [],L2,s=>by
  constructor
  ·intro h;exact ⟨0,Nat.zero_le _,rfl,by simpa using h⟩
  ·rintro ⟨k,h1,h2,h3⟩
   rw [mM,List.isEmpty_iff] at h2;have:=congrArg List.length h2;rw [List.length_take,List.length_nil] at this
   have hk:k=0:=by omega
   subst hk;simpa using h3
 | p::L1,L2,s=>by
  rw [List.cons_append,mM_cons]
  by_cases hk:p.kind=1
  ·rw [if_pos hk,starB_iff]
   constructor
   ·rintro ⟨n,h1,h2⟩
    obtain ⟨k,h3,h4,h5⟩:=(mM_app L1 L2 _).1 h2;rw [List.length_drop] at h3;refine ⟨n+k,by omega,?_,?_⟩
    ·rw [mM_cons,if_pos hk,starB_iff]
     refine ⟨n,by rw [List.length_take];omega,?_⟩;rw [List.drop_take,show n+k-n=k by omega];exact h4
    ·rw [List.drop_drop] at h5;exact h5
   ·rintro ⟨m,h1,h2,h3⟩
    rw [mM_cons,if_pos hk,starB_iff] at h2;obtain ⟨n,h4,h5⟩:=h2;rw [List.length_take] at h4;rw [List.drop_take] at h5;refine ⟨n,by omega,(mM_app L1 L2 _).2 ⟨m-n,by rw [List.length_drop];omega,h5,?_⟩⟩;rw [List.drop_drop,show n+(m-n)=m by omega];exact h3
  ·rw [if_neg hk]
   cases s with
   | nil=>
    constructor
    ·intro h;cases h
    ·rintro ⟨k,h1,h2,h3⟩
     rw [List.take_nil,mM_cons,if_neg hk] at h2;cases h2
   | cons c s=>
    dsimp only;rw [Bool.and_eq_true]
    constructor
    ·rintro ⟨h1,h2⟩
     obtain ⟨k,h3,h4,h5⟩:=(mM_app L1 L2 s).1 h2;refine ⟨k+1,by simp;omega,?_,h5⟩;rw [List.take_succ_cons,mM_cons,if_neg hk];dsimp only;rw [h1,h4];rfl
    ·rintro ⟨k,h1,h2,h3⟩
     cases k with
     | zero=>rw [List.take_zero,mM_cons,if_neg hk] at h2;cases h2
     | succ k=>
      rw [List.take_succ_cons,mM_cons,if_neg hk] at h2;dsimp only at h2;rw [Bool.and_eq_true] at h2;exact ⟨h2.1,(mM_app L1 L2 s).2 ⟨k,by simp at h1;omega,h2.2,h3⟩⟩
theorem mM_one_star {p:Pc} (hk:p.kind=1) (x:Txt):mM [p] x=true:=by
 rw [mM_cons,if_pos hk,starB_iff];exact ⟨x.length,Nat.le_refl _,by rw [List.drop_length];rfl⟩
theorem mM_one_set {p:Pc} (hk:¬p.kind=1) (x:Txt):mM [p] x=true↔∃ c,x=[c]∧hasB p.set c=true:=by
 rw [mM_cons,if_neg hk]
 cases x with
 | nil=>simp
 | cons c r=>
  dsimp only;rw [Bool.and_eq_true,mM,List.isEmpty_iff]
  constructor
  ·rintro ⟨h1,rfl⟩;exact ⟨c,rfl,h1⟩
  ·rintro ⟨d,h1,h2⟩;injection h1 with h1 h3;subst h1 h3;exact ⟨h2,rfl⟩
section
variable (v:Txt)
theorem row_star {p:Pc} (hk:p.kind=1) (L:List Pc) (k:Nat) (hkv:k≤v.length):mM (L++[p]) (v.take k)=(mM L (v.take k)||(decide (0<k)&&mM (L++[p]) (v.take (k-1)))):=by
 have key:∀ m,m≤v.length→(mM (L++[p]) (v.take m)=true↔∃ j,j≤m∧mM L (v.take j)=true):=by
  intro m hm;rw [mM_app]
  constructor
  ·rintro ⟨j,h1,h2,_⟩
   rw [List.length_take] at h1;rw [List.take_take] at h2;exact ⟨j,by omega,by rw [show min j m=j by omega] at h2;exact h2⟩
  ·rintro ⟨j,h1,h2⟩
   exact ⟨j,by rw [List.length_take];omega,by rw [List.take_take,show min j m=j by omega];exact h2,mM_one_star hk _⟩
 rw [Bool.eq_iff_iff,key k hkv,Bool.or_eq_true,Bool.and_eq_true,decide_eq_true_iff,key (k-1) (by omega)]
 constructor
 ·rintro ⟨j,h1,h2⟩
  by_cases hj:j=k
  ·subst hj;exact .inl h2
  ·exact .inr ⟨by omega,j,by omega,h2⟩
 ·rintro (h | ⟨h0,j,h1,h2⟩)
  ·exact ⟨k,Nat.le_refl _,h⟩
  ·exact ⟨j,by omega,h2⟩
theorem take1 {j:Nat} (h:j<v.length):(v.drop j).take 1=[v[j]]:=by rw [List.drop_eq_getElem_cons h];rfl
theorem row_set {p:Pc} (hk:¬p.kind=1) (L:List Pc) (k:Nat) (hkv:k<v.length):mM (L++[p]) (v.take (k+1))=(mM L (v.take k)&&hasB p.set v[k]):=by
 rw [Bool.eq_iff_iff,mM_app,Bool.and_eq_true]
 constructor
 ·rintro ⟨j,h1,h2,h3⟩
  obtain ⟨c,h4,h5⟩:=(mM_one_set hk _).1 h3;have h6:=congrArg List.length h4;rw [List.length_drop,List.length_take] at h6;rw [List.length_take] at h1
  have hj:j=k:=by simp at h6;omega
  subst hj;rw [List.take_take,show min j (j+1)=j by omega] at h2;refine ⟨h2,?_⟩;rw [List.drop_take,show j+1-j=1 by omega,take1 v hkv] at h4
  injection h4 with h4
  rw [h4];exact h5
 ·rintro ⟨h1,h2⟩
  refine ⟨k,by rw [List.length_take];omega,by rw [List.take_take,show min k (k+1)=k by omega];exact h1,(mM_one_set hk _).2 ⟨v[k],?_,h2⟩⟩;rw [List.drop_take,show k+1-k=1 by omega,take1 v hkv]
theorem row_set0 {p:Pc} (hk:¬p.kind=1) (L:List Pc):mM (L++[p]) (v.take 0)=false:=by
 cases h:mM (L++[p]) (v.take 0) with
 | false=>rfl
 | true=>
  obtain ⟨j,h1,h2,h3⟩:=(mM_app L [p] _).1 h;obtain ⟨c,h4,_⟩:=(mM_one_set hk _).1 h3;simp at h4
def canR (L:List Pc):List Bool:=(List.range (v.length+1)).map λk=>mM L (v.take k)
theorem canR_get (L:List Pc) (k:Nat) (h:k≤v.length):(canR v L)[k]?=some (mM L (v.take k)):=by
 unfold canR;rw [List.getElem?_map,List.getElem?_range (by omega)];rfl
theorem matchL2 (hv:v.length≤1000) (x0:List RP) (y15:Int) (p:Pc) (r:RP) (hr:idx x0 y15=some r) (hp:viewR r=viewP p) (L:List Pc) (j:List Bool→Option Bool):∀ (m n k:Nat) (y:List Bool),m<n→k+m=v.length+1→y=((List.range k).map λi=>mM (L++[p]) (v.take i))++List.replicate m false →
 m_limnographref32_Match_L2 x0 v (canR v L) y15 j n y (k:Int)=j (canR v (L++[p]))
 | 0,n+1,k,y,_,h,hy=>by
  rw [m_limnographref32_Match_L2,if_neg (by omega),hy,show k=v.length+1 by omega];simp [canR]
 | m+1,n+1,k,y,hn,h,hy=>by
  have hlen:((List.range k).map λi=>mM (L++[p]) (v.take i)).length=k:=by simp
  have hyk:idx y (k:Int)=some false:=by rw [hy,List.replicate_succ];exact idx_mid' (by rw [hlen])
  have step:∀ b:Bool,b=mM (L++[p]) (v.take k)→m_limnographref32_Match_L2 x0 v (canR v L) y15 j n (setI y (k:Int) b) (W64 ((k:Int)+1))=j (canR v (L++[p])):=by
   intro b hb;rw [W64_id (by omega) (by omega)];refine matchL2 hv x0 y15 p r hr hp L j m n (k+1) _ (by omega) (by omega) ?_;unfold setI;rw [Int.toNat_natCast,hy,List.replicate_succ,List.set_append_right _ _ (by rw [hlen];exact Nat.le_refl _),hlen,Nat.sub_self,List.set_cons_zero,List.range_succ,List.map_append,List.append_assoc,hb]
   rfl
  have hM:r.Many=decide (p.kind=1):=congrArg Prod.fst hp
  have hI:r.In=if p.kind=1 then [] else tabS p.set:=congrArg Prod.snd hp
  rw [m_limnographref32_Match_L2,if_pos (by omega),jn_eq,hr,bndS]
  by_cases hk:p.kind=1
  ·rw [hM,decide_eq_true hk,if_pos rfl,idx_nat,canR_get v L k (by omega),bndS,jn_eq]
   have rs:=row_star v hk L k (by omega)
   cases hc:mM L (v.take k) with
   | true=>
    rw [if_pos rfl];dsimp only;rw [hyk,bndS];exact step true (by rw [rs,hc];rfl)
   | false=>
    rw [if_neg (by decide),jn_eq]
    by_cases h0:0<k
    ·have e1:W64 ((k:Int)-1)=((k-1:Nat):Int):=by rw [W64_id (by omega) (by omega)];omega
     have e2:idx y ((k-1:Nat):Int)=some (mM (L++[p]) (v.take (k-1))):=by
      rw [idx_nat,hy,List.getElem?_append_left (by rw [hlen];omega),List.getElem?_map,List.getElem?_range (by omega)];rfl
     rw [if_pos (by omega),e1,e2,bndS];dsimp only;rw [hyk,bndS];exact step _ (by rw [rs,hc,decide_eq_true h0];rfl)
    ·rw [if_neg (by omega)]
     dsimp only;rw [hyk,bndS];exact step false (by rw [rs,hc,decide_eq_false h0];rfl)
  ·rw [hM,decide_eq_false hk,if_neg (by decide)]
   by_cases h0:0<k
   ·have e1:W64 ((k:Int)-1)=((k-1:Nat):Int):=by rw [W64_id (by omega) (by omega)];omega
    obtain ⟨k',rfl⟩:∃ k',k=k'+1:=⟨k-1,by omega⟩;rw [if_pos (by omega),e1,show k'+1-1=k' by omega,idx_nat,canR_get v L k' (by omega),bndS];have rs:=row_set v hk L k' (by omega)
    cases hc:mM L (v.take k') with
    | true=>
     rw [if_pos rfl,bndS,idx_nat,List.getElem?_eq_getElem (by omega:k'<v.length),bndS,hI,if_neg hk,tab_c,bndS,hyk,bndS];exact step _ (by rw [rs,hc];rfl)
    | false=>
     rw [if_neg (by decide),hyk,bndS];exact step false (by rw [rs,hc];rfl)
   ·have:k=0:=by omega
    subst this;rw [if_neg (by omega),hyk,bndS];exact step false (row_set0 v hk L).symm
theorem match32_eq (hv:v.length≤1000) (x0:List RP) (ps:List Pc) (hx:x0.map viewR=ps.map viewP) (hl:ps.length≤1000):m_limnographref32_Match x0 v=some (mM ps v):=by
 have hl0:x0.length=ps.length:=by have:=congrArg List.length hx;simpa using this
 have mk:mkL (W64 ((v.length:Int)+1)) (false:Bool)=some (List.replicate (v.length+1) false):=by
  rw [W64_id (by omega) (by omega)];unfold mkL;rw [if_pos (by omega)];congr 2
 unfold m_limnographref32_Match;rw [mk,bndS,List.replicate_succ,idx0,bndS,jn_eq]
 have e0:setI (false::List.replicate v.length false) 0 true=canR v []:=by
  unfold setI canR;rw [show (0:Int).toNat=0 from rfl,List.set_cons_zero]
  refine List.ext_getElem? λi=>?_
  by_cases hi:i<v.length+1
  ·rw [List.getElem?_map,List.getElem?_range hi]
   cases i with
   | zero=>rfl
   | succ i=>
    rw [List.getElem?_cons_succ,List.getElem?_replicate,if_pos (by omega)]
    have:mM [] (v.take (i+1))=false:=by
     rw [mM]
     cases v with
     | nil=>simp at hi
     | cons c v=>rfl
    simp [this]
  ·rw [List.getElem?_eq_none (by simp;omega),List.getElem?_eq_none (by simp;omega)]
 rw [e0,m_limnographref32_Match_L1_scan _ _ _ _ (by omega)];refine scanL_inv (λ(p:List RP) (s:List Bool)=>s=canR v (ps.take p.length)) (λ_ _ _=>some (mM ps v)) (by simp) ?_ ?_
 ·rintro s rfl
  rw [hl0,List.take_length,idx_nat,canR_get v ps v.length (Nat.le_refl _),bndS,List.take_length]
 ·rintro p r q s kk hp rfl hk
  have hpl:p.length+q.length+1=ps.length:=by have:=congrArg List.length hp;simp at this;omega
  have hpc:ps[p.length]?=some ps[p.length]:=List.getElem?_eq_getElem (by omega)
  have hview:viewR r=viewP ps[p.length]:=by
   have h1:(x0.map viewR)[p.length]?=some (viewR r):=by rw [← hp];simp
   rw [hx,List.getElem?_map,hpc] at h1
   injection h1 with h1
   exact h1.symm
  have hr:idx x0 (p.length:Int)=some r:=by rw [← hp];exact idx_mid p r q
  rw [mk,bndS,jn_eq];refine (matchL2 v hv x0 (p.length:Int) ps[p.length] r hr hview (ps.take p.length) (λy20=>kk y20) (v.length+1) fuel 0 (List.replicate (v.length+1) false) (by unfold fuel;omega) (by omega) (by simp)).trans ?_;refine hk _ ?_;rw [List.length_append,List.length_singleton,List.take_succ_eq_append_getElem (by omega)]
end
end Go.Proofs.YtpcpfjpcfcbopaaGreatDoor
namespace Go.Proofs.YtpcpfjpcfcbopaaGreatDoor
open Go Go.RowKit Go.Wk
theorem looked_get {k:Txt} (h:OkK k) (hk:k.length≤10000) (key:Txt):∃ b,m_limnographref35_looked k key=some ((look35 k key).getD [],b):=by
 rw [looked_eq h hk key]
 cases look35 k key with
 | none=>exact ⟨_,rfl⟩
 | some v=>exact ⟨_,rfl⟩
theorem select32 (ks:List Txt) (hok:∀ k∈ks,OkK k) (hn:ks.length≤1000) (hks:∀ k∈ks,k.length≤10000) (l:List Mt) (hl:l.length≤1000) :
 m_limnographref35_Select ks l=some ⟨(selE ks l).1,(selE ks l).2.1,(selE ks l).2.2⟩:=by
 have rl:=λP:Txt→Bool=>rowF_len P 0 ks
 unfold m_limnographref35_Select;rw [jn_eq,m_limnographref35_Select_L3_scan _ _ (by omega)]
 have two:firstE 0 l=none→(jn (λ(y9:(List Int)) =>
  (some (⟨y9,0,0⟩:T_limnographref35_Chosen))) λj2=>
  m_limnographref35_Select_L1 ks l j2 fuel ([]:List Int) 0)=some ⟨rowF (λk=>l.all λm=>yesQ m k) 0 ks,0,0⟩:=by
  intro hf;have hQ:=(firstE_none 0 l).1 hf;rw [jn_eq,m_limnographref35_Select_L1_scan _ _ _ _ (by omega)];refine scanL_inv (λ(p:List Txt) (s:List Int)=>s=rowF (λk=>l.all λm=>yesQ m k) 0 p) (λ_ _ _=>some (⟨rowF (λk=>l.all λm=>yesQ m k) 0 ks,0,0⟩:T_limnographref35_Chosen)) rfl (λs hs=>by rw [hs]) ?_;rintro p k q s kk hp rfl hk
  have hkm:k∈ks:=by rw [← hp];simp
  have hi:idx ks (p.length:Int)=some k:=by rw [← hp];exact idx_mid p k q
  have hpl:p.length≤1000:=by have:=congrArg List.length hp;simp at this;omega
  have sn:=rowF_snoc (λk=>l.all λm=>yesQ m k) k 0 p;rw [Nat.zero_add] at sn;have rp:=rowF_len (λk=>l.all λm=>yesQ m k) 0 p;rw [jn_eq,jn_eq,m_limnographref35_Select_L2_scan _ _ _ _ _ (by omega)];refine scanL_inv (λ(a:List Mt) (b:Bool)=>b=a.all λm=>yesQ m k) (λ_ _ _=>some (⟨rowF (λk=>l.all λm=>yesQ m k) 0 ks,0,0⟩:T_limnographref35_Chosen)) rfl ?_ ?_
  ·rintro b rfl
   cases hb:(l.all λm=>yesQ m k) with
   | true=>
    rw [if_pos rfl,app_some (by simp;omega),bndS];refine hk _ ?_;rw [sn,hb,if_pos rfl]
   | false=>
    rw [if_neg (by decide)];refine hk _ ?_;rw [sn,hb,if_neg (by decide),List.append_nil]
  ·rintro a m c b kk2 hp2 rfl hk2
   have hm:m∈l:=by rw [← hp2];simp
   obtain ⟨G,g1,g2,g3⟩:=comp32_eq m.Glob
   have hE:(cmpE m.Glob).1=0:=by
    have:=hQ m hm;unfold errQ at this
    by_cases h0:(cmpE m.Glob).1=0
    ·exact h0
    ·rw [if_pos h0] at this;exact this
   obtain ⟨lb,hlb⟩:=looked_get (hok k hkm) (hks k hkm) m.Key;rw [hi,bndS,bndS,hlb,bndS,jn_eq,bndS,bndS,g1,bndS]
   have hvl:((look35 k m.Key).getD []).length≤1000:=by
    cases hlk:look35 k m.Key with
    | none=>simp
    | some v=>
     have:=attrs_len (hok k hkm) _ ((look_iff (hok k hkm) m.Key v).2 hlk);dsimp only at this ⊢;simp;omega
   rw [match32_eq _ hvl G.L (cmpE m.Glob).2 (g3 (by rw [g2,hE])) (by have:=cmpE_len m.Glob;omega),bndS]
   cases hb:(a.all λm=>yesQ m k) with
   | true=>
    rw [if_pos rfl];refine hk2 _ ?_;rw [List.all_append,hb];simp only [List.all_cons,List.all_nil,Bool.and_true,Bool.true_and,yesQ,yes35]
    cases mM (cmpE m.Glob).2 ((look35 k m.Key).getD [])<;>cases m.Not<;>rfl
   | false=>
    rw [if_neg (by decide)];refine hk2 _ ?_;rw [List.all_append,hb];rfl
 refine (scanL_pre (λ(p q:List Mt) (_:Unit) => match firstE p.length q with | some x => some (⟨[], x.1, x.2⟩:T_limnographref35_Chosen) | none => (jn (λ(y9:(List Int)) =>
  (some (⟨y9,0,0⟩:T_limnographref35_Chosen))) λj2=>
  m_limnographref35_Select_L1 ks l j2 fuel ([]:List Int) 0)) (λ_=>rfl) ?_).trans ?_
 ·intro p m q s k hp hk
  obtain ⟨G,g1,g2,_⟩:=comp32_eq m.Glob;rw [bndS,g1,bndS,g2,firstE]
  by_cases hE:(cmpE m.Glob).1=0
  ·rw [if_neg (λh=>h hE),bndS,jn_eq]
   by_cases hkey:m.Key≠[]
   ·rw [if_pos hkey,bndS,refName_eq,bndS]
    cases hb:nameB m.Key with
    | true=>
     have eE:errQ m=0:=by unfold errQ;rw [if_neg (λh=>h hE),if_neg (λh=>by rw [hb] at h;cases h.2)]
     dsimp only;rw [if_neg (by decide),eE,if_neg (λh=>h rfl)];have:=hk ();simpa using this
    | false=>
     have eE:errQ m=3:=by unfold errQ;rw [if_neg (λh=>h hE),if_pos ⟨hkey,hb⟩]
     dsimp only;rw [if_pos (by decide),eE,if_pos (by decide)]
   ·have eE:errQ m=0:=by unfold errQ;rw [if_neg (λh=>h hE),if_neg (λh=>hkey h.1)]
    rw [if_neg hkey];dsimp only;rw [if_neg (by decide),eE,if_neg (λh=>h rfl)];have:=hk ();simpa using this
  ·have eE:errQ m=(cmpE m.Glob).1:=by unfold errQ;rw [if_pos hE]
   rw [if_pos hE,eE,if_pos hE]
 ·show (match firstE 0 l with | some x=>some (⟨[],x.1,x.2⟩:T_limnographref35_Chosen) | none=>_)=_
  unfold selE
  cases hf:firstE 0 l with
  | some x=>rfl
  | none=>exact two hf
theorem selects_law (x0:List Txt) (x1:List Mt):m_limnographlaw35_IndexSelects x0 x1=some true:=by
 unfold m_limnographlaw35_IndexSelects;rw [awake_eq,bndS,if_neg (by decide),fewK_eq _ _ (by omega),bndS,jn_eq,fewM_eq]
 cases hK:fewK x0 40 with
 | false=>rfl
 | true=>
 simp only [Bool.not_true,Bool.false_eq_true,if_false,bndS]
 cases hA:fewM x1 with
 | false=>rfl
 | true=>
 simp only [Bool.not_true,Bool.false_eq_true,if_false];unfold fewK at hK;unfold fewM at hA;rw [Bool.and_eq_true,decide_eq_true_iff] at hK hA
 have hks:∀ k∈x0,k.length≤10000:=λk hk=>by
  have:=of_decide_eq_true (List.all_eq_true.1 hK.2 k hk);omega
 have hn:x0.length≤1000:=by omega
 rw [new_eq x0 hn hks,bndS]
 cases hg:(goN [] x0 []).1 with
 | none=>rfl
 | some x=>
 rw [if_neg (by simp),bndS];have hx:IxOk x x0:=IxOk.of (a:=(goN [] x0 []).2.1) (e:=(goN [] x0 []).2.2) hn (by rw [← hg]);rw [hx.select x1 (by omega),bndS,select32 x0 hx.ok hn hks x1 (by omega),bndS]
 have hlen:(selE x0 x1).1.length≤1000000:=by
  unfold selE;have:=rowF_len (λk=>x1.all λm=>yesQ m k) 0 x0
  cases firstE 0 x1 with
  | some x=>simp
  | none=>dsimp only;omega
 rw [same_refl _ hlen,bndS];simp
end Go.Proofs.YtpcpfjpcfcbopaaGreatDoor
