import Derived.Test.YtpcpfjpcfcbopaaGreatDoorNB
import Derived.Sort.Walk0
import Derived.Test.YtpcpfjpcfcbopaaGreatDoorVB2
set_option maxRecDepth 20000
set_option linter.unusedVariables false
set_option linter.unusedSimpArgs false
namespace Go.Proofs.YtpcpfjpcfcbopaaGreatDoor
open Go Go.RowKit Go.Wk
def rowB (v:Nat):Nat→List Bool
 | 0=>[]
 | n+1=>rowB (v/2) n++[v%2==1]
def zig (x:Int):UInt64:=UInt64.ofNat (if 0≤x then 2*x.toNat else 2*(-1-x).toNat+1)
def szN (c:Nat):Nat:=if c=0 then 0 else if c=1 then 7 else if c=2 then 20 else 64
def clsN (v:Nat):Nat:=if v<1 then 0 else if v<128 then 1 else if v<1048576 then 2 else 3
def smB (v:Nat):List Bool:=rowB (clsN v) 2++rowB v (szN (clsN v))
theorem ofNat_nat {n:Nat} (h:n<18446744073709551616):(UInt64.ofNat n).toNat=n:=by rw [UInt64.toNat_ofNat'];exact Nat.mod_eq_of_lt h
def sI (u:UInt64):Int:=if u.toNat<9223372036854775808 then (u.toNat:Int) else (u.toNat:Int)-18446744073709551616
def sumN (l:List UInt64):Nat:=(l.map UInt64.toNat).sum
theorem sumN_cons (x:UInt64) (l:List UInt64):sumN (x::l)=x.toNat+sumN l:=by simp [sumN]
theorem or_zero (a b:UInt64):a|||b=0↔a=0∧b=0:=by
 constructor
 ·intro h
  have h1:(a|||b).toNat=0:=by rw [h];rfl
  rw [UInt64.toNat_or] at h1;have:=Nat.or_eq_zero_iff.1 h1;exact ⟨UInt64.toNat_inj.1 this.1,UInt64.toNat_inj.1 this.2⟩
 ·rintro ⟨rfl,rfl⟩;rfl
theorem tot_fold (l:List UInt64):∀ (a b:UInt64),((l.foldl (λ(s:UInt64×UInt64) x=>(s.1+x,s.2|||cry s.1 x)) (a,b)).1.toNat=(a.toNat+sumN l)%2^64) ∧
 ((l.foldl (λ(s:UInt64×UInt64) x=>(s.1+x,s.2|||cry s.1 x)) (a,b)).2=0↔b=0∧a.toNat+sumN l<2^64):=by
 induction l with
 | nil=>intro a b;have:=a.toNat_lt;simp [sumN];omega
 | cons x l ih=>
  intro a b;have ha:=a.toNat_lt;have hx:=x.toNat_lt;obtain ⟨h1,h2⟩:=ih (a+x) (b|||cry a x);rw [List.foldl_cons];dsimp only;rw [h1,h2,or_zero,sumN_cons];have e:(a+x).toNat=(a.toNat+x.toNat)%2^64:=UInt64.toNat_add a x
  constructor
  ·rw [e];omega
  ·unfold cry
   by_cases hc:18446744073709551616≤a.toNat+x.toNat
   ·rw [if_pos hc]
    constructor
    ·rintro ⟨⟨_,h⟩,_⟩;exact absurd h (by decide)
    ·rintro ⟨_,h⟩;omega
   ·rw [if_neg hc,e]
    constructor
    ·rintro ⟨⟨h,_⟩,k⟩;exact ⟨h,by omega⟩
    ·rintro ⟨h,k⟩;exact ⟨⟨h,rfl⟩,by omega⟩
def totN (h:T_api_Hist):Nat:=h.Zero.toNat+sumN h.Pos.Counts+sumN h.Neg.Counts
def totE (h:T_api_Hist):UInt64×Bool:=if totN h<2^64 then (UInt64.ofNat (totN h),true) else (0,false)
theorem Total_eq (h:T_api_Hist) (h1:h.Pos.Counts.length≤1000000) (h2:h.Neg.Counts.length≤1000000):m_hist_Total h=some (totE h):=by
 have hL2:∀ (z:T_api_Side) (j:UInt64→UInt64→Option (UInt64×Bool)) (a b:UInt64),z.Counts.length≤1000000→m_hist_Total_L2 z j fuel a b 0=j (z.Counts.foldl (λ(s:UInt64×UInt64) x=>(s.1+x,s.2|||cry s.1 x)) (a,b)).1 (z.Counts.foldl (λ(s:UInt64×UInt64) x=>(s.1+x,s.2|||cry s.1 x)) (a,b)).2:=by
  intro z j a b h;rw [m_hist_Total_L2_scan _ _ _ _ (by omega),scanL_fold (λ(s:UInt64×UInt64) x=>(s.1+x,s.2|||cry s.1 x)) (λi x s k _=>by rw [bndS])]
 unfold m_hist_Total m_hist_sides;rw [bndS,jn_eq];obtain ⟨m,hm⟩:=fuelS 3 (by omega)
 rw [show m_hist_Total_L1 { a0:=h.Pos,a1:=h.Neg } _ fuel _ _ _=m_hist_Total_L1 { a0:=h.Pos,a1:=h.Neg } _ (m+3) _ _ _ by rw [← hm],m_hist_Total_L1,if_pos (by omega),show idx [h.Pos,h.Neg] 0=some h.Pos from rfl,bndS,jn_eq,hL2 _ _ _ _ h1,W64_id (by omega) (by omega),show (0:Int)+1=1 from rfl,
  m_hist_Total_L1,if_pos (by omega),show idx [h.Pos,h.Neg] 1=some h.Neg from rfl,bndS,jn_eq,hL2 _ _ _ _ h2,W64_id (by omega) (by omega),show (1:Int)+1=2 from rfl,m_hist_Total_L1,if_neg (by omega)]
 obtain ⟨p1,p2⟩:=tot_fold h.Pos.Counts h.Zero 0;generalize h.Pos.Counts.foldl (λ(s:UInt64×UInt64) x=>(s.1+x,s.2|||cry s.1 x)) (h.Zero,0)=P at *;obtain ⟨q1,q2⟩:=tot_fold h.Neg.Counts P.1 P.2;generalize h.Neg.Counts.foldl (λ(s:UInt64×UInt64) x=>(s.1+x,s.2|||cry s.1 x)) (P.1,P.2)=Q at *;unfold totE totN
 by_cases hq:Q.2=0
 ·obtain ⟨a1,a2⟩:=q2.1 hq
  obtain ⟨_,a3⟩:=p2.1 a1;rw [if_neg (by rw [hq];decide),if_pos (by omega)]
  have:Q.1=UInt64.ofNat (h.Zero.toNat+sumN h.Pos.Counts+sumN h.Neg.Counts):=by
   apply UInt64.toNat_inj.1
   rw [q1,ofNat_nat (by omega)];omega
  rw [this]
 ·have hq':Q.2.toNat≠0:=λh=>hq (UInt64.toNat_inj.1 h)
  rw [if_pos (by omega),if_neg];intro h
  apply hq
  rw [q2];exact ⟨p2.2 ⟨rfl,by omega⟩,by omega⟩
theorem rsum_eq (y:UInt64) (l:List UInt64) (hl:l.length≤1000000):m_limnographref08_sum y l=some (if y.toNat+sumN l<2^64 then (UInt64.ofNat (y.toNat+sumN l),true) else (0,false)):=by
 unfold m_limnographref08_sum;rw [jn_eq,m_limnographref08_sum_L1_scan _ _ _ (by omega),scanL_pre (λ_ (q:List UInt64) (y:UInt64)=>some (if y.toNat+sumN q<2^64 then (UInt64.ofNat (y.toNat+sumN q),true) else (0,false)))]
 ·intro s
  have:=s.toNat_lt;rw [if_pos (by simp [sumN];omega)];simp [sumN]
 ·intro p x q s k _ hk
  have hs:=s.toNat_lt;have hx:=x.toNat_lt
  have e:((18446744073709551615:UInt64)-s).toNat=18446744073709551615-s.toNat:=by
   rw [UInt64.toNat_sub_of_le _ _ (by rw [UInt64.le_iff_toNat_le];show s.toNat≤18446744073709551615;omega)];rfl
  rw [bndS,bndS,e,sumN_cons]
  by_cases hc:(x.toNat:Int)>((18446744073709551615-s.toNat:Nat):Int)
  ·rw [if_pos hc,if_neg (by omega)]
  ·rw [if_neg hc,hk,show (s+x).toNat=s.toNat+x.toNat by rw [UInt64.toNat_add];omega,Nat.add_assoc]
theorem rTotal_eq (h:T_api_Hist) (h1:h.Pos.Counts.length≤1000000) (h2:h.Neg.Counts.length≤1000000):m_limnographref08_Total h=some (totE h):=by
 unfold m_limnographref08_Total totE totN;rw [rsum_eq _ _ h1,bndS]
 by_cases hp:h.Zero.toNat+sumN h.Pos.Counts<2^64
 ·rw [if_pos hp,if_neg (by simp),rsum_eq _ _ h2,bndS,ofNat_nat hp]
 ·rw [if_neg hp,if_pos (by simp),if_neg (by omega)]
def sdE (s:T_api_Side):Int:=
 if s.Counts.length>160 then 4
 else if s.Counts=[] then (if s.Offset≠0 then 3 else 0)
 else if s.Counts.headD 0=0∨s.Counts.getLastD 0=0 then 3
 else if s.Offset < -1073741824∨s.Offset+s.Counts.length-1>1073741824 then 1 else 0
theorem u64z' (x:UInt64):((x.toNat:Nat):Int)=0↔x=0:=by
 constructor
 ·intro h;apply UInt64.toNat_inj.1;show x.toNat=0;omega
 ·rintro rfl;rfl
theorem ends {l:List UInt64} (h:l≠[]) (hl:l.length≤1000000):idx l 0=some (l.headD 0)∧idx l (W64 ((l.length:Int)-1))=some (l.getLastD 0):=by
 have h0:0<l.length:=List.length_pos_iff.2 h
 constructor
 ·cases l with
  | nil=>exact absurd rfl h
  | cons a t=>rfl
 ·rw [W64_id (by omega) (by omega),show (l.length:Int)-1=((l.length-1:Nat):Int) by omega,idx_nat,← List.getLast?_eq_getElem?,List.getLast?_eq_some_getLast h]
  cases l with
  | nil=>exact absurd rfl h
  | cons a t=>rw [List.getLastD_cons,List.getLast_eq_getLastD]
theorem scheck_eq (s:T_api_Side):m_hist_check s=some (sdE s):=by
 unfold m_hist_check sdE
 by_cases h1:s.Counts.length>160
 ·rw [if_pos (by omega),if_pos h1]
 rw [if_neg (by omega),if_neg h1]
 by_cases h2:s.Counts=[]
 ·rw [if_pos h2,h2]
  by_cases h3:s.Offset≠0
  ·rw [if_pos ⟨rfl,h3⟩,if_pos h3]
  ·rw [if_neg (λh=>h3 h.2),if_pos (by rfl),if_neg h3]
 have h0:0<s.Counts.length:=List.length_pos_iff.2 h2;obtain ⟨e1,e2⟩:=ends h2 (by omega);rw [if_neg (by omega),if_neg (by omega),if_neg h2,e1,bndS];simp only [jn_eq]
 by_cases h3:s.Counts.headD 0=0
 ·rw [if_pos ((u64z' _).2 h3),if_pos (by trivial),if_pos (Or.inl h3)]
 rw [if_neg (λh=>h3 ((u64z' _).1 h)),e2,bndS]
 by_cases h4:s.Counts.getLastD 0=0
 ·rw [if_pos (decide_eq_true ((u64z' _).2 h4)),if_pos (Or.inr h4)]
 rw [if_neg (by rw [decide_eq_false (λh=>h4 ((u64z' _).1 h))];decide),if_neg (show ¬(s.Counts.headD 0=0∨s.Counts.getLastD 0=0) from λh=>h.elim h3 h4),W64_id (z:=(s.Counts.length:Int)-1) (by omega) (by omega),W64_id (by omega) (by omega)]
 by_cases h5:s.Offset < -1073741824
 ·rw [if_pos h5,if_pos (by trivial),if_pos (Or.inl h5)]
 rw [if_neg h5]
 by_cases h6:s.Offset>1073741824-((s.Counts.length:Int)-1)
 ·rw [if_pos (decide_eq_true h6),if_pos (by omega)]
 ·rw [if_neg (by rw [decide_eq_false h6];decide),if_neg (by omega)]
theorem rside_eq8 (s:T_api_Side):m_limnographref08_side s=some (sdE s):=by
 unfold m_limnographref08_side sdE
 by_cases h1:s.Counts.length>160
 ·rw [if_pos (by omega),if_pos h1]
 rw [if_neg (by omega),if_neg h1]
 by_cases h2:s.Counts=[]
 ·rw [if_pos h2,h2,if_pos (by rfl)]
  by_cases h3:s.Offset≠0
  ·rw [if_pos h3,if_pos h3]
  ·rw [if_neg h3,if_neg h3]
 have h0:0<s.Counts.length:=List.length_pos_iff.2 h2;obtain ⟨e1,e2⟩:=ends h2 (by omega);rw [if_neg (by omega),if_neg h2,e1,bndS];simp only [jn_eq]
 by_cases h3:s.Counts.headD 0=0
 ·rw [if_pos ((u64z' _).2 h3),if_pos (by trivial),if_pos (Or.inl h3)]
 rw [if_neg (λh=>h3 ((u64z' _).1 h)),e2,bndS]
 by_cases h4:s.Counts.getLastD 0=0
 ·rw [if_pos (decide_eq_true ((u64z' _).2 h4)),if_pos (Or.inr h4)]
 rw [if_neg (by rw [decide_eq_false (λh=>h4 ((u64z' _).1 h))];decide),if_neg (show ¬(s.Counts.headD 0=0∨s.Counts.getLastD 0=0) from λh=>h.elim h3 h4)]
 by_cases h5:s.Offset < -1073741824∨s.Offset>1073741824
 ·rw [if_pos h5,if_pos (by trivial),if_pos (by omega)]
 rw [if_neg h5,W64_id (z:=s.Offset+(s.Counts.length:Int)) (by omega) (by omega),W64_id (by omega) (by omega)]
 by_cases h6:s.Offset+(s.Counts.length:Int)-1>1073741824
 ·rw [if_pos (decide_eq_true h6),if_pos (Or.inr h6)]
 ·rw [if_neg (by rw [decide_eq_false h6];decide),if_neg (by omega)]
def hcE (h:T_api_Hist):Int:=
 if h.Scale < -10∨h.Scale>20 then 1 else if sdE h.Pos≠0 then sdE h.Pos else if sdE h.Neg≠0 then sdE h.Neg else if totN h<2^64 then 0 else 4
theorem Check8_eq (h:T_api_Hist) (h1:h.Pos.Counts.length≤1000000) (h2:h.Neg.Counts.length≤1000000):m_limnographref08_Check h=some (hcE h):=by
 unfold m_limnographref08_Check hcE
 by_cases hs:h.Scale < -10∨h.Scale>20
 ·rw [if_pos hs,if_pos hs]
 rw [if_neg hs,if_neg hs,rside_eq8,bndS]
 by_cases c1:sdE h.Pos≠0
 ·rw [if_pos c1,if_pos c1]
 rw [if_neg c1,if_neg c1,rside_eq8,bndS]
 by_cases c2:sdE h.Neg≠0
 ·rw [if_pos c2,if_pos c2]
 rw [if_neg c2,if_neg c2,rTotal_eq h h1 h2,bndS];unfold totE
 by_cases ht:totN h<2^64
 ·rw [if_pos ht,if_pos ht,if_neg (by simp)]
 ·rw [if_neg ht,if_neg ht,if_pos (by simp)]
theorem HCheck_eq (h:T_api_Hist) (h1:h.Pos.Counts.length≤1000000) (h2:h.Neg.Counts.length≤1000000):m_hist_Check h=some (hcE h):=by
 unfold m_hist_Check m_hist_sides hcE
 by_cases hs:h.Scale < -10∨h.Scale>20
 ·rw [if_pos hs,if_pos hs]
 rw [if_neg hs,if_neg hs,bndS,jn_eq];obtain ⟨m,hm⟩:=fuelS 3 (by omega);rw [hm,m_hist_Check_L1,if_pos (by omega),show idx [h.Pos,h.Neg] 0=some h.Pos from rfl,bndS,scheck_eq,bndS]
 by_cases c1:sdE h.Pos≠0
 ·rw [if_pos c1,if_pos c1]
 rw [if_neg c1,if_neg c1,W64_id (by omega) (by omega),show (0:Int)+1=1 from rfl,m_hist_Check_L1,if_pos (by omega),show idx [h.Pos,h.Neg] 1=some h.Neg from rfl,bndS,scheck_eq,bndS]
 by_cases c2:sdE h.Neg≠0
 ·rw [if_pos c2,if_pos c2]
 rw [if_neg c2,if_neg c2,W64_id (by omega) (by omega),show (1:Int)+1=2 from rfl,m_hist_Check_L1,if_neg (by omega),Total_eq h h1 h2,bndS];unfold totE
 by_cases ht:totN h<2^64
 ·rw [if_pos ht,if_pos ht,if_neg (by simp)]
 ·rw [if_neg ht,if_neg ht,if_pos (by simp)]
def alike (a b:T_api_Hist):Prop:=a.Scale=b.Scale∧a.Pos.Offset=b.Pos.Offset∧a.Neg.Offset=b.Neg.Offset∧a.Pos.Counts.length=b.Pos.Counts.length∧a.Neg.Counts.length=b.Neg.Counts.length
instance (a b:T_api_Hist):Decidable (alike a b):=by unfold alike;exact inferInstance
def allC (h:T_api_Hist):List UInt64:=h.Zero::(h.Pos.Counts++h.Neg.Counts)
def smS (l:List UInt64):List Bool:=l.flatMap λc=>smB c.toNat
def dfS (l m:List UInt64):List Bool:=(l.zip m).flatMap λc=>smB (zig (sI (c.1-c.2))).toNat
def shB (s:T_api_Side):List Bool:=rowB s.Counts.length 8++if s.Counts.length>0 then smB (zig s.Offset).toNat else []
def fullH (h:T_api_Hist):List Bool:=false::(rowB (h.Scale+10).toNat 5++(shB h.Pos++(shB h.Neg++smS (allC h))))
def hB (n:Nat) (last h:T_api_Hist):List Bool:=if 0<n∧alike last h then true::dfS (allC h) (allC last) else fullH h
abbrev h00:T_api_Hist:=⟨0,0,⟨0,[]⟩,⟨0,[]⟩⟩
abbrev Txt:=List UInt8
abbrev Pr:=T_api_Pair
def small (c:UInt8):Bool:=decide (97≤c.toNat)&&decide (c.toNat≤122)
def nmC (c:UInt8):Bool:=small c||(decide (48≤c.toNat)&&decide (c.toNat≤57))||decide (c.toNat=95)||decide (c.toNat=46)
def nameB (s:Txt):Bool:=decide (s.length≤32)&&match s with | []=>false | c::t=>small c&&t.all nmC
def valC (c:UInt8):Bool:=decide (33≤c.toNat)&&decide (c.toNat≤126)&&decide (c.toNat≠61)&&decide (c.toNat≠59)&&decide (c.toNat≠44)
def valB (s:Txt):Bool:=decide (s.length≤32)&&decide (1≤s.length)&&s.all valC
theorem small_eq (c:UInt8):m_label_small c=some (small c):=by unfold m_label_small small;rw [← Bool.decide_and];congr 1;apply decide_eq_decide.2;omega
theorem isName_eq (s:Txt):m_label_isName s=some (nameB s):=by
 unfold m_label_isName;simp only [jn_eq]
 split
 ·rename_i h;rcases h with rfl | h<;>simp [nameB];omega
 ·rename_i h
  match s,h with
  | c::t,h=>
   simp only [not_or] at h;have hb:=h.2;rw [idx0,bndS,small_eq,bndS,len_some (by omega),bndS,m_label_isName_L1_scan _ _ (by omega),scanL_all nmC (some false)]
   ·have:(c::t).length≤32:=by omega
    have hn:small c=true→nmC c=true:=λh=>by simp [nmC,h]
    unfold nameB
    cases hc:small c<;>simp_all
    split<;>simp_all
   ·intro i x k _
    rw [bndS,small_eq,bndS]
    refine ite_neg ?_ (λ_=>rfl) λ_=>rfl
    simp [nmC];grind
theorem isValue_eq (s:Txt):m_label_isValue s=some (valB s):=by
 unfold m_label_isValue;simp only [jn_eq]
 split
 ·rename_i h;rcases h with rfl | h<;>simp [valB];omega
 ·rename_i h
  simp only [not_or] at h;have hb:=h.2;have:=List.length_pos_iff.2 h.1;rw [len_some (by omega),bndS,m_label_isValue_L1_scan _ _ (by omega),scanL_all valC (some false)]
  ·unfold valB;split<;>simp_all<;>omega
  ·intro i x k _
   simp only [bndS,jn_eq,valC]
   grind
theorem refName_eq (s:Txt):m_limnographref11_Name s=some (nameB s):=by
 unfold m_limnographref11_Name;simp only [jn_eq]
 split
 ·rename_i h
  match s with
  | []=>rfl
  | c::t=>unfold nameB;simp at h ⊢;grind
 ·rename_i h
  rw [m_limnographref11_Name_L1_scan _ _ (by omega)]
  match s with
  | []=>simp at h
  | c::t=>
   unfold scanL;simp only [scan_cons,bndS];rw [scan_all nmC (some false)]
   ·unfold nameB small;simp at h ⊢;grind
   ·intro i x k hi _
    refine ite_neg ?_ (λ_=>rfl) λ_=>rfl
    simp [nmC,small];omega
theorem refValue_eq (s:Txt):m_limnographref11_Value s=some (valB s):=by
 unfold m_limnographref11_Value;simp only [jn_eq]
 split
 ·rename_i h;unfold valB;simp;omega
 ·rename_i h
  rw [m_limnographref11_Value_L1_scan _ _ (by omega),scanL_all valC (some false)]
  ·unfold valB;split<;>simp_all<;>omega
  ·intro i x k _
   simp only [bndS,valC]
   grind
def chk:List Pr→List Pr→Int
 | _,[]=>0
 | p,a::l=>if (nameB a.Key&&valB a.Val)=true then (if p.any (λb=>decide (b.Key=a.Key))=true then 8 else chk (p++[a]) l) else 3
def check (name:Txt) (l:List Pr):Int:=if nameB name=true then (if l.length>4 then 4 else chk [] l) else 3
theorem contains_eq (l:List Pr) (a:Pr) (h:l.length<4611686018427387904):m_slices_ContainsFunc_api_Pair_api_Pair_s2 l a=some (l.any λb=>decide (b.Key=a.Key)):=by
 unfold m_slices_ContainsFunc_api_Pair_api_Pair_s2 m_slices_IndexFunc_api_Pair_api_Pair_s1;rw [jn_eq,m_slices_IndexFunc_api_Pair_api_Pair_s1_L1_scan _ _ _ h];rw [scanL_pre (λp q _=>some (if q.any (λb=>decide (b.Key=a.Key))=true then ((p.length+q.findIdx λb=>decide (b.Key=a.Key):Nat):Int) else -1)) ?_ ?_]
 ·cases h:l.any (λb=>decide (b.Key=a.Key))<;>simp [bndS]
 ·intro s;rfl
 ·intro p x q _ k _ hk
  simp only [bndS,m_label_Check_1,hk]
  by_cases hx:x.Key=a.Key
  ·simp [hx,List.findIdx_cons]
  ·simp [hx,List.findIdx_cons];congr 1;omega
theorem check_eq (name:Txt) (l:List Pr):m_label_Check name l=some (check name l):=by
 unfold m_label_Check check;rw [isName_eq,bndS]
 by_cases hn:nameB name=true
 ·rw [hn,if_neg (by simp),if_pos rfl]
  by_cases hl:l.length>4
  ·rw [if_pos (by omega),if_pos hl]
  rw [if_neg (by omega),if_neg hl,jn_eq,m_label_Check_L1_scan _ _ (by omega)];refine scanL_pre (λp q _=>some (chk p q)) (λ_=>rfl) ?_;intro p x q _ k hp hk;subst hp;simp only [bndS,isName_eq,isValue_eq,jn_eq,cut_mid,contains_eq p x (by simp at hl;omega),hk,chk]
  cases nameB x.Key<;>cases valB x.Val<;>simp
  split<;>rfl
 ·simp at hn
  rw [hn];rfl
def insR (a:Pr):List Pr→List Pr
 | []=>[a]
 | b::l=>if Op.bytesLess a.Key b.Key=true then b::insR a l else a::b::l
def srt (l:List Pr):List Pr:=(l.foldl (λacc a=>insR a acc) []).reverse
theorem refL2c (l:List Pr) (x:Pr) (y:Nat) (hx:idx l (y:Int)=some x) (j:Unit→Option Int):∀ (b a q:List Pr) (n:Nat),l=a++b++q→y=(a++b).length→b.length<n→l.length<4611686018427387904 →
 m_limnographref11_Check_L2 l y j n (a.length:Int)=if b.any (λb=>decide (b.Key=x.Key))=true then some 8 else j ()
 | [],a,q,n,hl,hy,h,_=>by
  obtain ⟨n,rfl⟩:∃ m,n=m+1:=⟨n-1,by omega⟩;rw [m_limnographref11_Check_L2,if_neg (by simp at hy;omega)];rfl
 | z::b,a,q,n,hl,hy,h,hb=>by
  obtain ⟨n,rfl⟩:∃ m,n=m+1:=⟨n-1,by omega⟩;simp only [List.length_cons] at h
  have hz:idx l (a.length:Int)=some z:=by rw [hl,List.append_assoc];exact idx_mid _ _ _
  have ih:=refL2c l x y hx j b (a++[z]) q n (by rw [hl];simp) (by rw [hy];simp) (by omega) hb;rw [m_limnographref11_Check_L2,if_pos (by rw [hy];simp;omega),hz,bndS,hx,bndS,W64_up (by simp [hl] at hb;omega)];rw [List.length_append,List.length_singleton] at ih;rw [ih,List.any_cons]
  by_cases hk:z.Key=x.Key<;>simp [hk]
theorem refCheck_eq (name:Txt) (l:List Pr):m_limnographref11_Check name l=some (check name l):=by
 unfold m_limnographref11_Check check;rw [refName_eq,bndS]
 by_cases hn:nameB name=true
 ·rw [hn,if_neg (by simp),if_pos rfl]
  by_cases hl:l.length>4
  ·rw [if_pos (by omega),if_pos hl]
  rw [if_neg (by omega),if_neg hl,jn_eq,m_limnographref11_Check_L1_scan _ _ (by omega)];refine scanL_pre (λp q _=>some (chk p q)) (λ_=>rfl) ?_;intro p x q _ k hp hk
  have h2:=λj=>refL2c l x p.length (by rw [← hp];exact idx_mid _ _ _) j p [] (x::q) fuel (by simpa using hp.symm) (by simp) (by unfold fuel;simp [← hp] at hl;omega) (by omega)
  simp only [List.length_nil,Int.natCast_zero,Int.cast_ofNat_Int] at h2;simp only [bndS,refName_eq,refValue_eq,jn_eq,h2,hk,chk]
  cases nameB x.Key<;>cases valB x.Val<;>simp
  split<;>rfl
 ·simp at hn
  rw [hn];rfl
def at1 (a:Pr):Txt:=[59]++a.Key++[61]++a.Val
def texts (l:List Pr):Txt:=l.flatMap at1
def cut1 (c:UInt8):Txt→Txt×Txt×Bool
 | []=>([],[],false)
 | x::s=>if x=c then ([],s,true) else (x::(cut1 c s).1,(cut1 c s).2)
theorem cut1_no {c:UInt8}:∀ {s:Txt},(cut1 c s).2.2=false→cut1 c s=(s,[],false)
 | [],_=>rfl
 | x::s,h=>by
  unfold cut1 at h ⊢
  split at h
  ·cases h
  ·rename_i hx;rw [if_neg hx,cut1_no h]
theorem cut1_yes {c:UInt8}:∀ {s:Txt},(cut1 c s).2.2=true→s=(cut1 c s).1++c::(cut1 c s).2.1
 | [],h=>by cases h
 | x::s,h=>by
  unfold cut1 at h ⊢
  split at h
  ·rename_i hx;rw [if_pos hx,hx];rfl
  ·rename_i hx;rw [if_neg hx];have:=cut1_yes h;show x::s=x::((cut1 c s).1++c::(cut1 c s).2.1);rw [← this]
theorem cut1_len {c:UInt8}:∀ {s:Txt},(cut1 c s).1.length+(cut1 c s).2.1.length≤s.length
 | []=>by simp [cut1]
 | x::s=>by
  unfold cut1
  split
  ·simp
  ·have:=cut1_len (c:=c) (s:=s);simp;omega
theorem indexByte_cut (c:UInt8):∀ s:Txt,Lib.indexByte s c=if (cut1 c s).2.2=true then ((cut1 c s).1.length:Int) else -1
 | []=>rfl
 | x::s=>by
  unfold Lib.indexByte cut1
  by_cases hx:x=c
  ·simp [hx]
  ·rw [indexByte_cut c s]
   simp only [hx,beq_iff_eq,if_false]
   split
   ·rw [if_neg (by omega),List.length_cons];simp
   ·simp
theorem strCut_eq (s:Txt) (c:UInt8) (h:s.length<4611686018427387904):m_strings_Cut s [c]=some (cut1 c s):=by
 have key:m_internal_stringslite_Index s [c]=some (if (cut1 c s).2.2=true then ((cut1 c s).1.length:Int) else -1):=by
  unfold m_internal_stringslite_Index
  by_cases hs:[c]=s
  ·rw [if_pos (.inr hs),← hs];simp [cut1]
  ·rw [if_neg (by simp [hs]),if_pos (show (([c]:Txt).length:Int)=1 from rfl),idx0,bndS,m_internal_stringslite_IndexByte,bndS,indexByte_cut]
 unfold m_strings_Cut m_internal_stringslite_Cut;rw [key,bndS]
 by_cases hf:(cut1 c s).2.2=true
 ·have h1:=cut1_yes hf
  have hl:=congrArg List.length h1;simp at hl
  have c1:cutL s 0 ((cut1 c s).1.length:Int)=some (cut1 c s).1:=by
   conv=>lhs;arg 1;rw [h1]
   exact cut_mid _ _
  have c2:cutL s (((cut1 c s).1.length:Int)+1) (s.length:Nat)=some (cut1 c s).2.1:=by
   have:=cut_end ((cut1 c s).1++[c]) (cut1 c s).2.1;rw [List.append_assoc,List.singleton_append,← h1] at this;simpa using this
  rw [if_pos hf,if_pos (by omega),c1,bndS];show ((cutL s (W64 (((cut1 c s).1.length:Int)+1)) (s.length:Nat)).bind _).bind _=_;rw [W64_id (by omega) (by omega),c2,bndS,bndS];simp [← hf]
 ·have h1:=cut1_no (by simpa using hf:(cut1 c s).2.2=false)
  rw [if_neg hf,if_neg (by omega),bndS,h1]
def pairOf (s:Txt):Option Pr:=if ((cut1 61 s).2.2&&nameB (cut1 61 s).1&&valB (cut1 61 s).2.1)=true then some ⟨(cut1 61 s).1,(cut1 61 s).2.1⟩ else none
theorem pair_eq (s:Txt) (h:s.length<4611686018427387904):m_label_pair s=some (match pairOf s with | some a=>(a,0) | none=>(⟨[],[]⟩,3)):=by
 unfold m_label_pair pairOf;rw [strCut_eq s _ h,bndS];simp only [jn_eq,isName_eq,isValue_eq,bndS]
 cases (cut1 61 s).2.2<;>cases nameB (cut1 61 s).1<;>cases valB (cut1 61 s).2.1<;>simp
def foll (l:List Pr) (key:Txt):Int:=if l.any (λb=>decide (b.Key=key))=true then 8 else match l.getLast? with | some b=>if Op.bytesLess key b.Key=true then 9 else 0 | none=>0
theorem follows_eq (l:List Pr) (key:Txt) (h0:l≠[]) (h:l.length<4611686018427387904):m_label_follows l key=some (foll l key):=by
 unfold m_label_follows foll;rw [jn_eq,m_label_follows_L1_scan _ _ _ h,scanL_all (λb=>!decide (b.Key=key)) (some 8)]
 ·obtain ⟨b,hb⟩:∃ b,l.getLast?=some b:=⟨_,List.getLast?_eq_some_getLast h0⟩
  have hp:=List.length_pos_iff.2 h0
  have hi:idx l (W64 ((l.length:Int)-1))=some b:=by
   rw [W64_id (by omega) (by omega),show (l.length:Int)-1=((l.length-1:Nat):Int) by omega,idx_nat,← List.getLast?_eq_getElem?];exact hb
  rw [hi,bndS,hb]
  by_cases ha:l.any (λb=>decide (b.Key=key))=true
  ·rw [if_pos ha,if_neg]
   simp at ha ⊢;exact ha
  ·rw [if_neg ha,if_pos]
   ·show (if _ then _ else _)=some (if _ then _ else _)
    split<;>rfl
   ·simp at ha ⊢;exact ha
 ·intro i x k _
  rw [bndS]
  by_cases hx:x.Key=key<;>simp [hx]
def spl:Txt→Txt×List Txt
 | []=>([],[])
 | x::s=>if x=59 then ([],(spl s).1::(spl s).2) else (x::(spl s).1,(spl s).2)
def partsOf (more:Bool) (rest:Txt):List Txt:=if more=true then (spl rest).1::(spl rest).2 else []
theorem spl_cut:∀ s,(cut1 59 s).1=(spl s).1∧partsOf (cut1 59 s).2.2 (cut1 59 s).2.1=(spl s).2
 | []=>⟨rfl,rfl⟩
 | x::s=>by
  unfold cut1 spl
  by_cases hx:x=59
  ·rw [if_pos hx,if_pos hx];exact ⟨rfl,rfl⟩
  ·rw [if_neg hx,if_neg hx];have:=spl_cut s;exact ⟨by simp [this.1],this.2⟩
theorem spl_join:∀ s,s=(spl s).1++(spl s).2.flatMap (λp=>59::p)
 | []=>rfl
 | x::s=>by
  unfold spl
  by_cases hx:x=59
  ·rw [if_pos hx];show x::s=[]++(59::(spl s).1++(spl s).2.flatMap (λp=>59::p));rw [hx,List.nil_append,List.cons_append,← spl_join s]
  ·rw [if_neg hx];show x::s=x::((spl s).1++_);rw [← spl_join s]
abbrev Res:=Txt×List Pr×Int×Int
def pgo (name:Txt):List Pr→Int→List Txt→Res
 | l,_,[]=>(name,l,0,0)
 | l,at_,p::ps=>
  if l.length=4 then ([],[],at_,4) else
  match pairOf p with
  | none=>([],[],at_,3)
  | some a=>if foll l a.Key=0 then pgo name (l++[a]) (at_+p.length+1) ps else ([],[],at_,foll l a.Key)
def parse (s:Txt):Res:=if nameB (spl s).1=true then pgo (spl s).1 [] ((spl s).1.length+1) (spl s).2 else ([],[],0,3)
theorem parseL (name:Txt) (j:List Pr→Option Res) (hj:∀ l,j l=some (name,l,0,0)):∀ (n:Nat) (l:List Pr) (at_:Int) (rest:Txt) (more:Bool),(if more=true then 1+rest.length else 0)<n→l.length≤4→0≤at_→at_+rest.length≤1000000 →
 m_label_Parse_L1 j n l at_ rest more=some (pgo name l at_ (partsOf more rest)):=by
 intro n
 induction n with
 | zero=>intro l at_ rest more h;omega
 | succ n ih=>
  intro l at_ rest more h hl h0 h1;rw [m_label_Parse_L1]
  cases more with
  | false=>rw [if_neg (by simp),hj];rfl
  | true=>
   rw [if_pos rfl] at h ⊢;obtain ⟨e1,e2⟩:=spl_cut rest;have hcl:=cut1_len (c:=59) (s:=rest)
   have hpo:partsOf true rest=(cut1 59 rest).1::partsOf (cut1 59 rest).2.2 (cut1 59 rest).2.1:=by rw [e1,e2];rfl
   rw [strCut_eq rest _ (by omega),bndS,pair_eq _ (by omega),bndS,hpo,pgo];simp only [jn_eq]
   have hmore:(if (cut1 59 rest).2.2=true then 1+(cut1 59 rest).2.1.length else 0)<n∧((cut1 59 rest).2.2=true→(cut1 59 rest).1.length+(cut1 59 rest).2.1.length+1=rest.length):=by
    by_cases hm:(cut1 59 rest).2.2=true
    ·have hc:=congrArg List.length (cut1_yes hm)
     simp at hc;rw [if_pos hm];omega
    ·rw [if_neg hm];exact ⟨by omega,λh=>absurd h hm⟩
   generalize (cut1 59 rest).1=pt at *;generalize (cut1 59 rest).2.1=rst at *;generalize (cut1 59 rest).2.2=mr at *
   by_cases h4:l.length=4
   ·rw [if_pos (by omega),if_pos h4,if_neg (by simp),if_pos (by simp)]
   ·rw [if_neg (by omega),if_neg h4]
    cases hp:pairOf pt with
    | none=>simp
    | some a=>
     have hnext:m_label_Parse_L1 j n (l++[a]) (W64 (at_+W64 ((pt.length:Int)+1))) rst mr=some (pgo name (l++[a]) (at_+pt.length+1) (partsOf mr rst)):=by
      rw [W64_id (z:=(pt.length:Int)+1) (by omega) (by omega),W64_id (by omega) (by omega),← Int.add_assoc]
      cases mr with
      | false=>
       obtain ⟨m,rfl⟩:∃ m,n=m+1:=⟨n-1,by omega⟩;rw [m_label_Parse_L1,if_neg (by simp),hj];rfl
      | true=>exact ih _ _ _ _ hmore.1 (by simp;omega) (by omega) (by have:=hmore.2 rfl;omega)
     have hap:appL l [(⟨a.Key,a.Val⟩:Pr)]=some (l++[a]):=app_some (by simp;omega);dsimp only
     by_cases hl0:l=[]
     ·subst hl0
      rw [if_neg (by simp),if_neg (by simp),hap,bndS,hnext,if_pos (show foll [] a.Key=0 from rfl)]
     ·have:=List.length_pos_iff.2 hl0
      rw [if_pos ⟨rfl,by omega⟩,follows_eq l a.Key hl0 (by omega),bndS]
      by_cases hf:foll l a.Key=0
      ·rw [if_neg (by omega),hap,bndS,hnext,if_pos hf]
      ·rw [if_pos hf,if_neg hf]
theorem spl_len (s:Txt):(spl s).1.length≤s.length:=by have:=congrArg List.length (spl_join s);simp at this;omega
theorem parse_eq (s:Txt) (h:s.length≤100000):m_label_Parse s=some (parse s):=by
 unfold m_label_Parse parse;obtain ⟨e1,e2⟩:=spl_cut s;have hcl:=cut1_len (c:=59) (s:=s);rw [strCut_eq s _ (by omega),bndS,isName_eq,bndS,e1];have hsl:=spl_len s
 by_cases hn:nameB (spl s).1=true
 ·rw [hn,if_neg (by simp),if_pos rfl,jn_eq,← e2]
  rw [W64_id (by omega) (by omega)];exact parseL _ _ (λl=>rfl) _ _ _ _ _ (by unfold fuel;split<;>omega) (by simp) (by omega) (by rw [← e1];omega)
 ·simp at hn
  rw [hn];rfl
theorem find_loop (c:UInt8) (j:Int→Option Int):∀ (p a r:Txt) (n:Nat),(∀ x∈p,x≠c)→(r=[]∨∃ t,r=c::t)→p.length<n→(a++p++r).length<4611686018427387904 →
 m_limnographref11_find_L1 (a++p++r) c j n (a.length:Int)=j ((a.length+p.length:Nat):Int)
 | [],a,r,n,hp,hr,h,hb=>by
  obtain ⟨n,rfl⟩:∃ m,n=m+1:=⟨n-1,by omega⟩;rw [m_limnographref11_find_L1,jn_eq]
  rcases hr with rfl|⟨t,rfl⟩
  ·rw [if_neg (by simp)];simp
  ·rw [if_pos (by simp;omega),List.append_nil,idx_mid,bndS];simp
 | x::p,a,r,n,hp,hr,h,hb=>by
  obtain ⟨n,rfl⟩:∃ m,n=m+1:=⟨n-1,by omega⟩;have ih:=find_loop c j p (a++[x]) r n (λy hy=>hp y (by simp [hy])) hr (by simp at h;omega) (by simpa using hb);have hx:=hp x (by simp)
  have e:a++x::p++r=a++x::(p++r):=by simp
  have hne:(x.toNat:Int)≠(c.toNat:Int):=λh=>hx (UInt8.toNat_inj.1 (by omega))
  rw [m_limnographref11_find_L1,jn_eq,if_pos (by simp;omega)]
  have e2:a++x::p++r=a++[x]++p++r:=by simp
  rw [show idx (a++x::p++r) (a.length:Int)=some x by rw [e];exact idx_mid _ _ _,bndS];dsimp only;rw [if_pos (by simp [hne]),W64_up (by simp at hb;omega),e2];rw [List.length_append,List.length_singleton] at ih;rw [ih,List.length_cons];congr 2;omega
theorem find_eq (c:UInt8) (p a r:Txt) (hp:∀ x∈p,x≠c) (hr:r=[]∨∃ t,r=c::t) (hb:(a++p++r).length<4611686018427387904) :
 m_limnographref11_find (a++p++r) (a.length:Int) c=some ((a.length+p.length:Nat):Int):=by
 unfold m_limnographref11_find;rw [jn_eq,find_loop c _ p a r _ hp hr (by unfold fuel;simp at hb;omega) hb]
theorem cut1_free {c:UInt8}:∀ {s:Txt},∀ x∈(cut1 c s).1,x≠c
 | [],x,hx=>by cases hx
 | y::s,x,hx=>by
  unfold cut1 at hx
  split at hx
  ·cases hx
  ·rename_i hy
   rcases List.mem_cons.1 hx with rfl|hx
   ·exact hy
   ·exact cut1_free x hx
theorem spl_free:∀ (s:Txt),(∀ x∈(spl s).1,x≠59)∧∀ p∈(spl s).2,∀ x∈p,x≠59
 | []=>⟨λx hx=>(by cases hx),λx hx=>(by cases hx)⟩
 | y::s=>by
  unfold spl;have ih:=spl_free s
  split
  ·refine ⟨λx hx=>(by cases hx),λp hp=>?_⟩
   rcases List.mem_cons.1 hp with rfl|hp
   ·exact ih.1
   ·exact ih.2 p hp
  ·rename_i hy
   refine ⟨λx hx=>?_,ih.2⟩
   rcases List.mem_cons.1 hx with rfl|hx
   ·exact hy
   ·exact ih.1 x hx
def got (r:Res):T_limnographref11_Got:=⟨r.1,r.2.1,r.2.2.1,r.2.2.2⟩
theorem cut1_find (s:Txt) (h:s.length<4611686018427387904):m_limnographref11_find s 0 61=some (((cut1 61 s).1.length:Nat):Int):=by
 by_cases hf:(cut1 61 s).2.2=true
 ·have h1:=cut1_yes hf
  have:=find_eq 61 (cut1 61 s).1 [] (61::(cut1 61 s).2.1) cut1_free (.inr ⟨_,rfl⟩) (by rw [List.nil_append,← h1];exact h);rw [List.nil_append,← h1] at this;simpa using this
 ·have h1:=cut1_no (by simpa using hf:(cut1 61 s).2.2=false)
  have hfr:=cut1_free (c:=61) (s:=s);rw [h1] at hfr ⊢;have:=find_eq 61 s [] [] hfr (.inl rfl) (by simpa using h);simpa using this
theorem refFoll (l:List Pr) (key:Txt) (a:Int) (nm:Txt) (at_ e:Int) (j:Unit→Option T_limnographref11_Got) (h:l.length<4611686018427387904) :
 m_limnographref11_Parse_L2 a ⟨nm,l,at_,e⟩ key j fuel 0=if l.any (λb=>decide (b.Key=key))=true then some ⟨[],[],W64 (a+1),8⟩ else j ():=by
 rw [m_limnographref11_Parse_L2_scan _ _ _ _ h,scanL_all (λb=>!decide (b.Key=key)) (some ⟨[],[],W64 (a+1),8⟩)]
 ·by_cases ha:l.any (λb=>decide (b.Key=key))=true
  ·rw [if_pos ha,if_neg]
   simp at ha ⊢;exact ha
  ·rw [if_neg ha,if_pos]
   simp at ha ⊢;exact ha
 ·intro i x k _
  rw [bndS]
  by_cases hx:x.Key=key<;>simp [hx]
theorem refParseL (s name:Txt) (j:T_limnographref11_Got→Option T_limnographref11_Got) (hj:∀ l,j ⟨name,l,0,0⟩=some ⟨name,l,0,0⟩) (hs:s.length≤1000000):∀ (ps:List Txt) (pre:Txt) (n:Nat) (l:List Pr),s=pre++ps.flatMap (λp=>59::p)→(∀ p∈ps,∀ x∈p,x≠59)→ps.length<n→l.length≤4 →
 m_limnographref11_Parse_L1 s j n (pre.length:Int) ⟨name,l,0,0⟩=some (got (pgo name l ((pre.length:Int)+1) ps))
 | [],pre,n,l,he,hp,h,hl=>by
  obtain ⟨n,rfl⟩:∃ m,n=m+1:=⟨n-1,by omega⟩;rw [m_limnographref11_Parse_L1,if_neg (by rw [he];simp),hj];rfl
 | p::ps,pre,n,l,he,hp,h,hl=>by
  obtain ⟨n,rfl⟩:∃ m,n=m+1:=⟨n-1,by omega⟩;have hlen:=congrArg List.length he;simp only [List.flatMap_cons,List.length_append,List.length_cons] at hlen
  have e1:s=(pre++[59])++p++ps.flatMap (λp=>59::p):=by rw [he];simp
  have hfind:m_limnographref11_find s ((pre.length:Int)+1) 59=some (((pre++[59]++p).length:Nat):Int):=by
   have:=find_eq 59 p (pre++[59]) (ps.flatMap λp=>59::p) (hp p (by simp)) (by cases ps with | nil=>exact .inl rfl | cons q ps=>exact .inr ⟨_,rfl⟩) (by rw [← e1];omega);rw [← e1] at this;rw [show ((pre.length:Int)+1)=((pre++[59]:Txt).length:Nat) by simp,this];simp;omega
  have hcut:cutL s ((pre.length:Int)+1) ((pre++[59]++p).length:Nat)=some p:=by
   rw [cut_some (by omega) (by simp;omega) (by simp;omega)]
   congr 1
   rw [Int.toNat_natCast,e1,List.take_left]
   have:((pre.length:Int)+1).toNat=(pre++[59]).length:=by simp
   rw [this,List.drop_left]
  have ih:=λl' (hl':l'.length≤4)=>refParseL s name j hj hs ps (pre++[59]++p) n l' e1 (λq hq=>hp q (by simp [hq])) (by simp at h;omega) hl'
  have hcl:=cut1_len (c:=61) (s:=p);rw [m_limnographref11_Parse_L1,if_pos (by omega),W64_id (by omega) (by omega),hfind,bndS,hcut,bndS,pgo];dsimp only
  by_cases h4:l.length=4
  ·rw [if_pos (by omega),if_pos h4];rfl
  ·rw [if_neg (by omega),if_neg h4,cut1_find p (by omega),bndS]
   simp only [jn_eq];unfold pairOf
   by_cases hf:(cut1 61 p).2.2=true
   ·have h1:=cut1_yes hf
    have hpl:=congrArg List.length h1;simp only [List.length_append,List.length_cons] at hpl
    have c1:cutL p 0 ((cut1 61 p).1.length:Int)=some (cut1 61 p).1:=by
     conv=>lhs;arg 1;rw [h1]
     exact cut_mid _ _
    have c2:cutL p (((cut1 61 p).1.length:Int)+1) (p.length:Nat)=some (cut1 61 p).2.1:=by
     have:=cut_end ((cut1 61 p).1++[61]) (cut1 61 p).2.1;rw [List.append_assoc,List.singleton_append,← h1] at this;simpa using this
    rw [W64_id (z:=((cut1 61 p).1.length:Int)+1) (by omega) (by omega),if_neg (by omega),c1,bndS,c2,refName_eq,bndS];simp only [bndS,refValue_eq,hf];generalize (cut1 61 p).1=kk at *;generalize (cut1 61 p).2.1=vv at *
    cases hn:nameB kk with
    | false=>simp [got]
    | true=>
     cases hv:valB vv with
     | false=>simp [got]
     | true=>
      simp only [Bool.not_true,Bool.false_eq_true,if_false,Bool.and_self,if_true,bndS];rw [refFoll l kk _ _ _ _ _ (by omega),W64_id (by omega) (by omega)];have hap:appL l [(⟨kk,vv⟩:Pr)]=some (l++[⟨kk,vv⟩]):=app_some (by simp;omega);have ih:=ih (l++[⟨kk,vv⟩]) (by simp;omega)
      have hat:((pre++[59]++p).length:Int)+1=(pre.length:Int)+1+p.length+1:=by simp;omega
      rw [hat] at ih
      by_cases ha:l.any (λb=>decide (b.Key=kk))=true
      ·have hfo:foll l kk=8:=by unfold foll;rw [if_pos ha]
       rw [if_pos ha,hfo];rfl
      ·rw [if_neg ha]
       by_cases hl0:l=[]
       ·subst hl0
        have hfo:foll [] kk=0:=rfl;rw [hfo,if_pos (show (0:Int)=0 from rfl),if_neg (by simp),hap,bndS,ih]
       ·obtain ⟨b,hb⟩:∃ b,l.getLast?=some b:=⟨_,List.getLast?_eq_some_getLast hl0⟩
        have hp0:=List.length_pos_iff.2 hl0
        have hi:idx l (W64 ((l.length:Int)-1))=some b:=by
         rw [W64_id (by omega) (by omega),show (l.length:Int)-1=((l.length-1:Nat):Int) by omega,idx_nat,← List.getLast?_eq_getElem?];exact hb
        have hfo:foll l kk=if Op.bytesLess kk b.Key=true then 9 else 0:=by unfold foll;rw [if_neg ha,hb]
        rw [if_pos (by omega),hi,bndS]
        by_cases hlt:Op.bytesLess kk b.Key=true
        ·rw [if_pos hlt] at hfo;rw [if_pos hlt,hfo];rfl
        ·rw [if_neg hlt] at hfo;rw [if_neg hlt,hfo,hap,bndS,ih];rfl
   ·have h1:=cut1_no (by simpa using hf:(cut1 61 p).2.2=false)
    rw [h1];simp [got]
theorem refParse_eq (s:Txt) (h:s.length≤100000):m_limnographref11_Parse s=some (got (parse s)):=by
 unfold m_limnographref11_Parse parse;have hj:=spl_join s;have hf:=spl_free s;have hlen:=congrArg List.length hj;simp only [List.length_append] at hlen
 have hfind:m_limnographref11_find s 0 59=some (((spl s).1.length:Nat):Int):=by
  have:=find_eq 59 (spl s).1 [] ((spl s).2.flatMap λp=>59::p) hf.1 (by cases (spl s).2 with | nil=>exact .inl rfl | cons q ps=>exact .inr ⟨_,rfl⟩) (by rw [List.nil_append,← hj];omega);rw [List.nil_append,← hj] at this;simpa using this
 have hcut:cutL s 0 ((spl s).1.length:Int)=some (spl s).1:=by
  conv=>lhs;arg 1;rw [hj]
  exact cut_mid _ _
 rw [hfind,bndS,hcut,bndS,refName_eq,bndS]
 by_cases hn:nameB (spl s).1=true
 ·rw [hn,if_neg (by simp),if_pos rfl,jn_eq]
  refine refParseL s (spl s).1 _ (λl=>rfl) (by omega) (spl s).2 (spl s).1 fuel [] hj hf.2 ?_ (by simp)
  have:∀ ps:List Txt,ps.length≤(ps.flatMap λp=>59::p).length:=by
   intro ps
   induction ps with
   | nil=>simp
   | cons p ps ih=>simp at ih ⊢;omega
  have:=this (spl s).2;unfold fuel;omega
 ·simp at hn
  rw [hn];rfl
def fall:List Pr→Prop
 | []=>True
 | [_]=>True
 | a::b::l=>Op.bytesLess a.Key b.Key=false∧fall (b::l)
theorem srt_fall:∀ (q p:List Pr),fall (q.reverse++p)→q.foldl (λacc a=>insR a acc) p=q.reverse++p
 | [],p,_=>rfl
 | x::q,p,h=>by
  rw [List.foldl_cons]
  have hx:insR x p=x::p:=by
   cases p with
   | nil=>rfl
   | cons b p=>
    have:∀ u:List Pr,fall (u++(x::b::p))→Op.bytesLess x.Key b.Key=false:=by
     intro u
     induction u with
     | nil=>exact λh=>h.1
     | cons y u ih=>
      intro h
      cases u with
      | nil=>exact h.2.1
      | cons z u=>exact ih h.2
    rw [insR,if_neg (by rw [this q.reverse (by simpa using h)];simp)]
  rw [hx,srt_fall q (x::p) (by simpa using h)];simp
theorem srt_id {l:List Pr} (h:fall l.reverse):srt l=l:=by unfold srt;rw [srt_fall l [] (by simpa using h)];simp
theorem chk_snoc:∀ (q p:List Pr) (a:Pr),chk p q=0→nameB a.Key=true→valB a.Val=true→(p++q).any (λb=>decide (b.Key=a.Key))=false→chk p (q++[a])=0
 | [],p,a,_,h1,h2,h3=>by rw [List.append_nil] at h3;show chk p [a]=0;rw [chk,h1,h2,h3];rfl
 | x::q,p,a,h,h1,h2,h3=>by
  rw [chk] at h;rw [List.cons_append,chk]
  split at h
  ·rename_i hx
   rw [if_pos hx]
   split at h
   ·cases h
   ·rename_i hp
    rw [if_neg hp];exact chk_snoc q (p++[x]) a h h1 h2 (by simpa using h3)
  ·cases h
theorem pairOf_some {p:Txt} {a:Pr} (h:pairOf p=some a):p=a.Key++61::a.Val∧nameB a.Key=true∧valB a.Val=true:=by
 unfold pairOf at h
 split at h
 ·rename_i hh
  simp only [Bool.and_eq_true] at hh
  cases h
  exact ⟨cut1_yes hh.1.1,hh.1.2,hh.2⟩
 ·cases h
theorem pgo_ok (name:Txt):∀ (ps:List Txt) (l:List Pr) (at_:Int),l.length≤4→chk [] l=0→fall l.reverse→(pgo name l at_ ps).2.2.2=0 →
 ∃ m,pgo name l at_ ps=(name,m,0,0)∧m.length≤4∧chk [] m=0∧fall m.reverse∧texts m=texts l++ps.flatMap (λp=>59::p)
 | [],l,at_,h4,hc,hf,_=>⟨l,rfl,h4,hc,hf,by simp⟩
 | p::ps,l,at_,h4,hc,hf,h=>by
  rw [pgo] at h ⊢
  split at h
  ·cases h
  ·rename_i hl
   rw [if_neg hl]
   cases hp:pairOf p with
   | none=>rw [hp] at h;cases h
   | some a=>
    rw [hp] at h;dsimp only at h ⊢
    split at h
    ·rename_i hfo
     rw [if_pos hfo];obtain ⟨e,hn,hv⟩:=pairOf_some hp;have hfo':=hfo;unfold foll at hfo
     split at hfo
     ·cases hfo
     ·rename_i hany
      have hfl:fall (l++[a]).reverse:=by
       rw [List.reverse_append]
       cases hr:l.reverse with
       | nil=>trivial
       | cons b r=>
        have hb:l.getLast?=some b:=by rw [← List.head?_reverse,hr];rfl
        rw [hb] at hfo;dsimp only at hfo
        split at hfo
        ·cases hfo
        ·rename_i hlt
         refine ⟨by simpa using hlt,?_⟩;rw [← hr];exact hf
      obtain ⟨m,h1,h2,h3,h5,h6⟩:=pgo_ok name ps (l++[a]) (at_+p.length+1) (by simp;omega) (chk_snoc l [] a hc hn hv (by simpa using hany)) hfl h;refine ⟨m,h1,h2,h3,h5,?_⟩;rw [h6,e];simp [texts,at1]
    ·rename_i hfo
     exact absurd h hfo
theorem parse_ok {s:Txt} (h:(parse s).2.2.2=0):∃ name m,parse s=(name,m,0,0)∧nameB name=true∧m.length≤4∧chk [] m=0∧srt m=m∧s=name++texts m:=by
 unfold parse at h ⊢
 split at h
 ·rename_i hn
  rw [if_pos hn];obtain ⟨m,h1,h2,h3,h4,h5⟩:=pgo_ok _ _ [] _ (by simp) rfl trivial h;refine ⟨_,m,h1,hn,h2,h3,srt_id h4,?_⟩;rw [h5];simpa [texts] using spl_join s
 ·cases h
theorem chk_iff:∀ (l p:List Pr),chk p l=0↔(∀ a∈l,nameB a.Key=true∧valB a.Val=true)∧(∀ a∈l,∀ b∈p,b.Key≠a.Key)∧l.Pairwise (λa b=>a.Key≠b.Key)
 | [],p=>by simp [chk]
 | x::l,p=>by
  rw [chk]
  by_cases hx:(nameB x.Key&&valB x.Val)=true
  ·rw [if_pos hx]
   by_cases hp:p.any (λb=>decide (b.Key=x.Key))=true
   ·rw [if_pos hp]
    simp at hp;obtain ⟨b,hb,hk⟩:=hp
    constructor
    ·intro h;cases h
    ·intro h;exact absurd hk (h.2.1 x (by simp) b hb)
   ·rw [if_neg hp,chk_iff l (p++[x])]
    simp at hx hp ⊢
    grind
  ·rw [if_neg hx]
   simp at hx ⊢
   grind
def finB (x:UInt64):Bool:=decide (x.toNat/4503599627370496%2048≠2047)
theorem and_exp (x:Nat):x&&&9218868437227405312=(x/4503599627370496%2048)*4503599627370496:=by
 have e1:x/4503599627370496%2048=(x>>>52)&&&(2^11-1):=by rw [Nat.and_two_pow_sub_one_eq_mod,Nat.shiftRight_eq_div_pow]
 have e2:((x>>>52)&&&(2^11-1))*4503599627370496=((x>>>52)&&&(2^11-1))<<<52:=by rw [Nat.shiftLeft_eq]
 rw [e1,e2]
 apply Nat.eq_of_testBit_eq
 intro i;rw [Nat.testBit_and,Nat.testBit_shiftLeft,Nat.testBit_and,Nat.testBit_shiftRight,Nat.testBit_two_pow_sub_one,show (9218868437227405312:Nat)=(2^11-1)<<<52 by decide,Nat.testBit_shiftLeft,Nat.testBit_two_pow_sub_one]
 by_cases h:i≥52
 ·rw [show 52+(i-52)=i by omega]
  simp [h]
 ·simp [h]
theorem fin_eq (x:UInt64):m_num_Finite x=some (finB x):=by
 unfold m_num_Finite finB
 congr 1
 apply decide_eq_decide.2
 rw [UInt64.toNat_and,show (9218868437227405312:UInt64).toNat=9218868437227405312 by rfl,and_exp]
 omega
theorem quo_n (x:UInt64) (k:UInt64) (hk:k≠0):quo64 x k=some (UInt64.ofNat (x.toNat/k.toNat)):=by
 unfold quo64;rw [if_neg hk]
 congr 1
 apply UInt64.toNat_inj.1
 have:=x.toNat_lt;rw [UInt64.toNat_div,ofNat_nat (Nat.lt_of_le_of_lt (Nat.div_le_self _ _) (by omega))]
theorem rem_n (x:UInt64) (k:UInt64) (hk:k≠0):rem64 x k=some (UInt64.ofNat (x.toNat%k.toNat)):=by
 unfold rem64;rw [if_neg hk]
 congr 1
 apply UInt64.toNat_inj.1
 have:=x.toNat_lt;rw [UInt64.toNat_mod,ofNat_nat (Nat.lt_of_le_of_lt (Nat.mod_le _ _) (by omega))]
theorem rfin_eq (x:UInt64):m_limnographref05_Finite x=some (finB x):=by
 have hx:=x.toNat_lt;unfold m_limnographref05_Finite finB;rw [quo_n _ _ (by decide),bndS,rem_n _ _ (by decide),bndS,show (4503599627370496:UInt64).toNat=4503599627370496 by rfl,show (2048:UInt64).toNat=2048 by rfl,ofNat_nat (n:=x.toNat/4503599627370496) (by omega),ofNat_nat (n:=x.toNat/4503599627370496%2048) (by omega)]
 congr 1
 apply decide_eq_decide.2
 omega
def ltZ (x:UInt64):Bool:=decide (9223372036854775808≤x.toNat∧x.toNat%9223372036854775808≠0∧x.toNat%9223372036854775808≤9218868437227405312)
theorem rless_eq (x:UInt64):m_limnographref05_Less x 0=some (ltZ x):=by
 have hx:=x.toNat_lt
 have o0:m_limnographref05_Odd 0=some false:=by decide
 have ox:m_limnographref05_Odd x=some (decide (x.toNat%9223372036854775808>9218868437227405312)):=by
  unfold m_limnographref05_Odd;simp only [jn_eq];rw [quo_n _ _ (by decide),bndS,rem_n _ _ (by decide),bndS,rem_n _ _ (by decide),bndS,show (4503599627370496:UInt64).toNat=4503599627370496 by rfl,show (2048:UInt64).toNat=2048 by rfl,ofNat_nat (n:=x.toNat/4503599627370496) (by omega),ofNat_nat (n:=x.toNat/4503599627370496%2048) (by omega),ofNat_nat (n:=x.toNat%4503599627370496) (by omega)]
  by_cases h:x.toNat/4503599627370496%2048=2047
  ·rw [if_pos (by omega)];congr 1;apply decide_eq_decide.2;omega
  ·rw [if_neg (by omega)];congr 1;symm;rw [decide_eq_false_iff_not];omega
 unfold m_limnographref05_Less ltZ;simp only [jn_eq];rw [ox,bndS,o0,bndS,rem_n _ _ (by decide),bndS,rem_n _ _ (by decide),bndS,show (9223372036854775808:UInt64).toNat=9223372036854775808 by rfl,ofNat_nat (by omega),show (0:UInt64).toNat=0 by rfl]
 by_cases h1:x.toNat%9223372036854775808>9218868437227405312
 ·rw [if_pos (decide_eq_true h1),if_pos (by first | trivial | rfl)];congr 1;symm;rw [decide_eq_false_iff_not];omega
 ·rw [if_neg (by rw [decide_eq_false h1];decide),if_neg (by decide)]
  by_cases h2:x.toNat%9223372036854775808=0
  ·rw [if_pos ⟨by omega,by rfl⟩];congr 1;symm;rw [decide_eq_false_iff_not];omega
  ·rw [if_neg (λk=>h2 (by have:=k.1;omega)),if_neg (by omega)]
   by_cases h3:x.toNat<9223372036854775808
   ·rw [if_pos ⟨by omega,by decide⟩];congr 1;apply decide_eq_decide.2
    rw [show (UInt64.ofNat (0%9223372036854775808)).toNat=0 by rfl];omega
   ·rw [if_neg (λk=>h3 (by have:=k.1;omega))];congr 1;apply decide_eq_decide.2;omega
theorem less_eq (x:UInt64):m_num_Less x 0=some (ltZ x):=by
 have hx:=x.toNat_lt;unfold m_num_Less m_num_of fltLt ltZ;rw [bndS,bndS]
 congr 1
 have r0:Ieee.Format.read Ieee.double (0:UInt64).toNat=.number false 0 (-1074):=by decide
 show (Ieee.Datum.order (Ieee.Format.read Ieee.double x.toNat) (Ieee.Format.read Ieee.double (0:UInt64).toNat)==some .lt)=_;rw [r0];generalize x.toNat=v at *;unfold Ieee.Format.read
 have sw:Ieee.double.signWeight=9223372036854775808:=by decide
 have bn:Ieee.double.binade=4503599627370496:=by decide
 have ir:Ieee.double.infRung=9218868437227405312:=by decide
 have lp:Ieee.double.leastPlace=-1074:=by decide
 dsimp only;rw [sw,bn,ir,lp]
 have hs:(v/9223372036854775808%2==1)=decide (9223372036854775808≤v):=by
  by_cases h:9223372036854775808≤v
  ·rw [decide_eq_true h];have:v/9223372036854775808%2=1:=by omega
   rw [this];rfl
  ·rw [decide_eq_false h];have:v/9223372036854775808%2=0:=by omega
   rw [this];rfl
 rw [hs];generalize hb:decide (9223372036854775808≤v)=s
 have hb':s=true↔9223372036854775808≤v:=by rw [← hb];exact decide_eq_true_iff
 have cmp:∀ (m k:Nat),(Ieee.Datum.order (.number s m (-1074+(k:Int))) (.number false 0 (-1074))==some .lt)=decide (s=true∧m≠0):=by
  intro m k
  have e1:min (-1074+(k:Int)) (-1074)=-1074:=by omega
  show (some (compare (Ieee.signed s m ((-1074+(k:Int))-min (-1074+(k:Int)) (-1074)).toNat) (Ieee.signed false 0 ((-1074:Int)-min (-1074+(k:Int)) (-1074)).toNat))==some .lt)=_;rw [e1,show ((-1074+(k:Int))-(-1074)).toNat=k by omega,show ((-1074:Int)-(-1074)).toNat=0 by rfl];unfold Ieee.signed;rw [if_neg (show ¬(false=true) by decide),show ((0<<<0:Nat):Int)=0 by rfl,Nat.shiftLeft_eq];have hp:=Nat.two_pow_pos k
  cases s with
  | false=>
   have:¬(((m*2^k:Nat):Int)<0):=by omega
   simp only [compare,compareOfLessAndEq];rw [if_neg (show ¬(if false=true then -((m*2^k:Nat):Int) else ((m*2^k:Nat):Int))<0 from this)]
   (repeat' split)<;>first | rfl | (exfalso;simp_all) | simp
  | true=>
   by_cases hm:m=0
   ·subst hm;simp [compare,compareOfLessAndEq]
   ·have h0:0<m*2^k:=Nat.mul_pos (by omega) hp
    have:(-((m*2^k:Nat):Int)<0):=by omega
    simp only [compare,compareOfLessAndEq];rw [if_pos (show (if True then -((m*2^k:Nat):Int) else ((m*2^k:Nat):Int))<0 by rw [if_pos trivial];exact this)];simp [hm]
 by_cases h1:v%9223372036854775808<4503599627370496
 ·rw [if_pos h1]
  refine (cmp (v%9223372036854775808) 0).trans ?_
  apply decide_eq_decide.2;rw [hb'];omega
 ·rw [if_neg h1]
  by_cases h2:v%9223372036854775808<9218868437227405312
  ·rw [if_pos h2]
   refine (cmp (4503599627370496+v%9223372036854775808%4503599627370496) _).trans ?_
   apply decide_eq_decide.2;rw [hb'];omega
  ·rw [if_neg h2]
   by_cases h3:v%9223372036854775808=9218868437227405312
   ·rw [if_pos h3]
    show (some (if s=true then Ordering.lt else .gt)==some .lt)=_
    have:decide (s=true)=decide (9223372036854775808≤v∧v%9223372036854775808≠0∧v%9223372036854775808≤9218868437227405312):=by apply decide_eq_decide.2;rw [hb'];omega
    rw [← this];cases s<;>rfl
   ·rw [if_neg h3]
    show false=_
    symm;rw [decide_eq_false_iff_not];omega
abbrev Pt:=T_api_Point
def kindsB (p:Pt):Bool:=if p.Kind=3 then decide (p.Temp=0) else decide (1≤p.Kind∧p.Kind≤5)&&decide (p.Temp=1∨p.Temp=2)
theorem kinds_eq (p:Pt):m_point_kinds p=some (kindsB p):=by
 unfold m_point_kinds kindsB;rw [jn_eq]
 by_cases h3:p.Kind=3
 ·rw [if_pos h3,if_pos h3]
 ·rw [if_neg h3,if_neg h3]
  by_cases h1:p.Kind=1
  ·simp [h1]
  ·by_cases h2:p.Kind=2
   ·simp [h2]
   ·by_cases h4:p.Kind=4
    ·simp [h4]
    ·by_cases h5:p.Kind=5
     ·simp [h5]
     ·have:¬(1≤p.Kind∧p.Kind≤5):=by omega
      simp [h1,h2,h4,h5,this]
def timesB (p:Pt):Bool:=decide (0≤p.Start∧p.Time≤4503599627370496∧(if p.Kind=3 then p.Start=p.Time else p.Start<p.Time))
theorem times_eq (p:Pt):m_point_times p=some (timesB p):=by
 unfold m_point_times timesB
 by_cases h:p.Start<0∨p.Time>4503599627370496
 ·rw [if_pos h];congr 1;symm;rw [decide_eq_false_iff_not];omega
 ·rw [if_neg h]
  split<;>(congr 1;apply decide_eq_decide.2;omega)
def bareB (h:T_api_Hist):Bool:=decide (h.Scale=0∧h.Zero=0∧h.Pos.Offset=0∧h.Neg.Offset=0∧h.Pos.Counts=[]∧h.Neg.Counts=[])
theorem u64z (x:UInt64):((x.toNat:Nat):Int)=0↔x=0:=by
 constructor
 ·intro h;apply UInt64.toNat_inj.1;simp;omega
 ·rintro rfl;rfl
theorem bare_eq (h:T_api_Hist) (h1:h.Pos.Counts.length≤1000000) (h2:h.Neg.Counts.length≤1000000):m_point_bare h=some (bareB h):=by
 unfold m_point_bare bareB;rw [jn_eq,W64_id (by omega) (by omega)];simp only [u64z]
 have e:((h.Pos.Counts.length:Int)+(h.Neg.Counts.length:Int)=0)↔h.Pos.Counts=[]∧h.Neg.Counts=[]:=by
  rw [← List.length_eq_zero_iff,← List.length_eq_zero_iff];omega
 simp only [e]
 split
 ·rename_i hh;congr 1;apply decide_eq_decide.2;simp [hh]
 ·rename_i hh;congr 1;symm;rw [decide_eq_false_iff_not];intro hc;exact hh ⟨⟨⟨hc.1,hc.2.1⟩,hc.2.2.1⟩,hc.2.2.2.1⟩
def ownB (p:Pt):Bool:=decide ((p.Kind≠1→p.Int_=0)∧(¬(p.Kind=2∨p.Kind=3∨p.Kind=5)→p.Re=0)∧(p.Kind≠5→p.Im=0)∧(p.Kind≠4→bareB p.Hist=true)∧0≤p.Flags∧p.Flags≤31)
theorem own_eq (p:Pt) (h1:p.Hist.Pos.Counts.length≤1000000) (h2:p.Hist.Neg.Counts.length≤1000000):m_point_own p=some (ownB p):=by
 unfold m_point_own ownB;rw [jn_eq,bare_eq _ h1 h2,jn_eq];simp only [u64z,ne_eq]
 by_cases a1:¬p.Kind=1∧¬p.Int_=0
 ·rw [if_pos a1,decide_eq_true a1,if_pos rfl];congr 1;symm;rw [decide_eq_false_iff_not];intro hc;exact a1.2 (hc.1 a1.1)
 ·rw [if_neg a1]
  by_cases a2:(¬((p.Kind=2∨p.Kind=3)∨p.Kind=5))∧¬p.Re=0
  ·rw [if_pos a2,decide_eq_true a2,if_pos rfl];congr 1;symm;rw [decide_eq_false_iff_not];intro hc;exact a2.2 (hc.2.1 (by intro h;exact a2.1 (by omega)))
  ·rw [if_neg a2]
   by_cases a3:¬p.Kind=5∧¬p.Im=0
   ·rw [if_pos a3,decide_eq_true a3,if_pos rfl];congr 1;symm;rw [decide_eq_false_iff_not];intro hc;exact a3.2 (hc.2.2.1 a3.1)
   ·rw [if_neg a3]
    have b1:¬p.Kind=1→p.Int_=0:=λh=>Classical.byContradiction λh'=>a1 ⟨h,h'⟩
    have b2:¬(p.Kind=2∨p.Kind=3∨p.Kind=5)→p.Re=0:=λh=>Classical.byContradiction λh'=>a2 ⟨by omega,h'⟩
    have b3:¬p.Kind=5→p.Im=0:=λh=>Classical.byContradiction λh'=>a3 ⟨h,h'⟩
    by_cases a4:p.Kind=4
    ·rw [if_neg (by simpa using a4)]
     simp only [Bool.false_eq_true,if_false]
     by_cases a5:p.Flags<0∨p.Flags>31
     ·rw [decide_eq_true a5,if_pos rfl];congr 1;symm;rw [decide_eq_false_iff_not];omega
     ·rw [decide_eq_false a5];simp only [Bool.false_eq_true,if_false];congr 1;symm;rw [decide_eq_true_iff];exact ⟨b1,b2,b3,λh=>(h a4).elim,by omega,by omega⟩
    ·rw [if_pos a4,bndS]
     cases hb:bareB p.Hist with
     | false=>simp only [Bool.not_false,if_true];congr 1;symm;rw [decide_eq_false_iff_not];intro hc;have:=hc.2.2.2.1 a4;cases this
     | true=>
      simp only [Bool.not_true,Bool.false_eq_true,if_false]
      by_cases a5:p.Flags<0∨p.Flags>31
      ·rw [decide_eq_true a5,if_pos rfl];congr 1;symm;rw [decide_eq_false_iff_not];omega
      ·rw [decide_eq_false a5];simp only [Bool.false_eq_true,if_false];congr 1;symm;rw [decide_eq_true_iff];exact ⟨b1,b2,b3,λ_=>by first | rfl | trivial,by omega,by omega⟩
def pcE (p:Pt):Int:=
 if check p.Name p.Attrs≠0 then check p.Name p.Attrs
 else if kindsB p=false then 14
 else if p.Mono=true∧p.Kind≠1∧p.Kind≠2 then 1
 else if timesB p=false then 1
 else if ownB p=false then 3
 else if (p.Mono=true∧p.Kind=2)∧finB p.Re=false then 11
 else if p.Mono=true∧(p.Int_<0∨ltZ p.Re=true) then 1
 else if p.Kind=4 then hcE p.Hist else 0
theorem PCheck_eq (p:Pt) (h1:p.Hist.Pos.Counts.length≤1000000) (h2:p.Hist.Neg.Counts.length≤1000000):m_point_Check p=some (pcE p):=by
 unfold m_point_Check pcE m_point_sum;rw [check_eq,bndS]
 by_cases c:check p.Name p.Attrs≠0
 ·rw [if_pos c,if_pos c]
 rw [if_neg c,if_neg c,kinds_eq,bndS]
 cases hk:kindsB p with
 | false=>rw [if_pos (by rfl),if_pos rfl]
 | true=>
  rw [if_neg (by decide),if_neg (show ¬(true=false) by decide)];simp only [jn_eq,bndS,times_eq,own_eq p h1 h2,fin_eq,less_eq,HCheck_eq p.Hist h1 h2]
  have e1:(p.Mono=true∧p.Kind≠1∧p.Kind≠2)↔(if p.Mono=true then (!decide ((p.Kind=1)∨(p.Kind=2))) else false)=true:=by
   cases p.Mono<;>simp
  cases hm:p.Mono with
  | false=>
   simp only [Bool.false_eq_true,if_false,false_and]
   cases timesB p<;>simp
   cases ownB p<;>simp
   split<;>rfl
  | true=>
   simp only [if_true,true_and]
   by_cases hs:p.Kind=1∨p.Kind=2
   ·rw [decide_eq_true hs]
    simp only [Bool.not_true,Bool.false_eq_true,if_false];rw [if_neg (show ¬(p.Kind≠1∧p.Kind≠2) by omega)]
    cases timesB p<;>simp
    cases ownB p<;>simp
    have h4:¬p.Kind=4:=by omega
    by_cases h2:p.Kind=2
    ·simp only [h2,if_true,true_and]
     cases finB p.Re<;>simp
     by_cases hi:p.Int_<0
     ·simp [hi]
     ·simp [hi];split<;>rfl
    ·simp only [h2,if_false,false_and]
     by_cases hi:p.Int_<0
     ·simp [hi]
     ·simp [hi,h4];split<;>rfl
   ·rw [decide_eq_false hs,if_pos (show p.Kind≠1∧p.Kind≠2 by omega)]
    simp
theorem u64ne (x y:UInt64):(((x.toNat:Nat):Int)≠((y.toNat:Nat):Int))↔x≠y:=by
 constructor
 ·rintro h rfl;exact h rfl
 ·intro h hh;exact h (UInt64.toNat_inj.1 (by omega))
theorem u64eq (x y:UInt64):(((x.toNat:Nat):Int)=((y.toNat:Nat):Int))↔x=y:=by
 constructor
 ·intro hh;exact UInt64.toNat_inj.1 (by omega)
 ·rintro rfl;rfl
theorem scan_same {α:Type} [DecidableEq α] (a b:List α) (hl:a.length=b.length) (B:Nat→α→Unit→(Unit→Option Bool)→Option Bool) (J:Unit→Option Bool) (hJ:J ()=some true)
 (hB:∀ i x k,B i x () k=(idx b (i:Int)).bind λy=>if x≠y then some false else k ()):scanL a () B J=some (decide (a=b)):=by
 rw [scanL_pre (λp q _=>some (decide (q=b.drop p.length))) ?_ ?_]
 ·simp
 ·intro s;rw [hJ];simp [hl]
 ·intro p x q _ k hp hk
  rw [hB,hk]
  have:p.length<b.length:=by rw [← hl,← hp];simp
  rw [idx_at this,bndS,List.drop_eq_getElem_cons this,List.length_append,List.length_singleton]
  by_cases hx:x=b[p.length]
  ·rw [if_neg (λh=>h hx)];congr 1;apply decide_eq_decide.2;rw [List.cons.injEq];exact ⟨λh=>⟨hx,h⟩,λh=>h.2⟩
  ·rw [if_pos hx,decide_eq_false];rw [List.cons.injEq];exact λh=>hx h.1
theorem side_ext (a b:T_api_Side):a=b↔a.Offset=b.Offset∧a.Counts=b.Counts:=by cases a;cases b;simp
theorem rsame_eq (a b:T_api_Side) (h:a.Counts.length≤1000000):m_limnographref08_SameSide a b=some (decide (a=b)):=by
 unfold m_limnographref08_SameSide
 by_cases hc:a.Offset≠b.Offset∨(a.Counts.length:Int)≠(b.Counts.length:Int)
 ·rw [if_pos hc];congr 1;symm;rw [decide_eq_false_iff_not,side_ext];rintro ⟨h1,h2⟩;rw [h1,h2] at hc;simp at hc
 ·rw [if_neg hc,jn_eq,m_limnographref08_SameSide_L1_scan _ _ _ (by omega)]
  have:=scan_same a.Counts b.Counts (by omega) (λii xx ss kk=>(some xx).bind λz21=>(idx b.Counts (ii:Int)).bind λz24=>if ((z21).toNat:Int)≠((z24).toNat:Int) then (some false) else (kk ())) (λ_=>some true) rfl λi x k=>by rw [bndS];simp only [u64ne]
  refine this.trans ?_
  congr 1;apply decide_eq_decide.2;rw [side_ext];constructor
  ·intro h;exact ⟨by omega,h⟩
  ·exact λh=>h.2
theorem hist_ext (a b:T_api_Hist):a=b↔(a.Scale=b.Scale∧a.Zero=b.Zero)∧a.Pos=b.Pos∧a.Neg=b.Neg:=by cases a;cases b;simp [and_assoc]
theorem rHist_eq (a b:T_api_Hist) (h1:a.Pos.Counts.length≤1000000) (h2:a.Neg.Counts.length≤1000000):m_limnographref08_Same a b=some (decide (a=b)):=by
 unfold m_limnographref08_Same;rw [rsame_eq _ _ h1,rsame_eq _ _ h2];simp only [u64eq,bndS,jn_eq]
 by_cases hc:a.Scale=b.Scale∧a.Zero=b.Zero
 ·rw [if_pos hc]
  by_cases hp:a.Pos=b.Pos
  ·rw [decide_eq_true hp,if_pos rfl];congr 1;apply decide_eq_decide.2;rw [hist_ext];simp [hc,hp]
  ·rw [decide_eq_false hp];simp only [Bool.false_eq_true,if_false];congr 1;symm;rw [decide_eq_false_iff_not,hist_ext];exact λh=>hp h.2.1
 ·rw [if_neg hc];simp only [Bool.false_eq_true,if_false];congr 1;symm;rw [decide_eq_false_iff_not,hist_ext];exact λh=>hc h.1
theorem none_eq (h:T_api_Hist) (h1:h.Pos.Counts.length≤1000000) (h2:h.Neg.Counts.length≤1000000):m_limnographref12_none h=some (bareB h):=by
 unfold m_limnographref12_none bareB;rw [rHist_eq _ _ h1 h2,bndS]
 congr 1
 apply decide_eq_decide.2
 rw [hist_ext,side_ext,side_ext]
 constructor
 ·rintro ⟨⟨a,b⟩,⟨c,d⟩,e,f⟩;exact ⟨a,b,c,e,d,f⟩
 ·rintro ⟨a,b,c,e,d,f⟩;exact ⟨⟨a,b⟩,⟨c,d⟩,e,f⟩
theorem RCheck_eq (p:Pt) (h1:p.Hist.Pos.Counts.length≤1000000) (h2:p.Hist.Neg.Counts.length≤1000000):m_limnographref12_Check p=some (pcE p):=by
 unfold m_limnographref12_Check pcE;rw [refCheck_eq,bndS]
 by_cases c:check p.Name p.Attrs≠0
 ·rw [if_pos c,if_pos c]
 rw [if_neg c,if_neg c];simp only [jn_eq,bndS,none_eq p.Hist h1 h2,rfin_eq,rless_eq,Check8_eq p.Hist h1 h2]
 cases hk:kindsB p with
 | false=>
  rw [if_pos (show false=false from rfl)]
  by_cases a:p.Kind<1∨p.Kind>5
  ·rw [if_pos a]
  ·rw [if_neg a,if_pos]
   unfold kindsB at hk
   by_cases h3:p.Kind=3
   ·rw [if_pos h3] at hk;exact Or.inl ⟨h3,of_decide_eq_false hk⟩
   ·rw [if_neg h3,decide_eq_true (show 1≤p.Kind∧p.Kind≤5 by omega),Bool.true_and] at hk
    have:=of_decide_eq_false hk;exact Or.inr ⟨⟨h3,λh=>this (Or.inl h)⟩,λh=>this (Or.inr h)⟩
 | true=>
  rw [if_neg (show ¬(true=false) by decide)]
  have k:1≤p.Kind∧p.Kind≤5∧(p.Kind=3→p.Temp=0)∧(p.Kind≠3→p.Temp=1∨p.Temp=2):=by
   unfold kindsB at hk
   by_cases h3:p.Kind=3
   ·rw [if_pos h3] at hk;have:=of_decide_eq_true hk;omega
   ·rw [if_neg h3,Bool.and_eq_true] at hk
    have a:=of_decide_eq_true hk.1;have b:=of_decide_eq_true hk.2;exact ⟨a.1,a.2,λh=>(h3 h).elim,λ_=>b⟩
  rw [if_neg (show ¬(p.Kind<1∨p.Kind>5) by omega),if_neg (show ¬((p.Kind=3∧p.Temp≠0)∨((p.Kind≠3∧p.Temp≠1)∧p.Temp≠2)) by omega)]
  by_cases hs:p.Mono=true∧p.Kind≠1∧p.Kind≠2
  ·rw [if_pos (show (p.Mono=true∧p.Kind≠1)∧p.Kind≠2 from ⟨⟨hs.1,hs.2.1⟩,hs.2.2⟩),if_pos hs]
  rw [if_neg (show ¬((p.Mono=true∧p.Kind≠1)∧p.Kind≠2) from λh=>hs ⟨h.1.1,h.1.2,h.2⟩),if_neg hs]
  have ht:((((p.Start<0)∨(p.Time>4503599627370496))∨((p.Kind=3)∧(p.Start≠p.Time)))∨((p.Kind≠3)∧(p.Start≥p.Time)))↔timesB p=false:=by
   unfold timesB;rw [decide_eq_false_iff_not]
   by_cases h3:p.Kind=3
   ·rw [if_pos h3];omega
   ·rw [if_neg h3];omega
  by_cases t:timesB p=false
  ·rw [if_pos (ht.2 t),if_pos t]
  rw [if_neg (λh=>t (ht.1 h)),if_neg t]
  have ho:ownB p=false↔((((p.Kind≠1)∧(p.Int_≠0))∨((p.Kind≠5)∧(((p.Im).toNat:Int)≠0)))∨(p.Kind≠4∧bareB p.Hist=false)∨(((((p.Kind=1)∨(p.Kind=4))∧(((p.Re).toNat:Int)≠0))∨(p.Flags<0))∨(p.Flags>31))):=by
   unfold ownB;rw [decide_eq_false_iff_not,ne_eq,ne_eq (((p.Im).toNat:Int)),ne_eq (((p.Re).toNat:Int)),u64z,u64z]
   have e:bareB p.Hist=false↔¬bareB p.Hist=true:=by cases bareB p.Hist<;>simp
   rw [e]
   by_cases z1:p.Re=0<;>by_cases z2:p.Im=0<;>by_cases z3:bareB p.Hist=true<;>(simp [z1,z2,z3];try omega)
  by_cases ab:((p.Kind≠1)∧(p.Int_≠0))∨((p.Kind≠5)∧(((p.Im).toNat:Int)≠0))
  ·rw [if_pos (ho.2 (Or.inl ab)),if_pos ab,if_pos (by first | trivial | rfl)]
  rw [if_neg ab]
  by_cases hb:p.Kind≠4∧bareB p.Hist=false
  ·rw [if_pos (ho.2 (Or.inr (Or.inl hb))),if_pos hb.1,if_pos (by rw [hb.2];rfl)]
  have go:∀ (X:Option Int),(if p.Kind≠4 then (if (!bareB p.Hist)=true then some 3 else X) else (if false=true then some 3 else X))=X:=by
   intro X
   by_cases k4:p.Kind≠4
   ·have:bareB p.Hist=true:=by cases h:bareB p.Hist with | true=>rfl | false=>exact (hb ⟨k4,h⟩).elim
    rw [if_pos k4,if_neg (by rw [this];decide)]
   ·rw [if_neg k4,if_neg (by decide)]
  refine (go _).trans ?_
  by_cases c3:((((p.Kind=1)∨(p.Kind=4))∧(((p.Re).toNat:Int)≠0))∨(p.Flags<0))∨(p.Flags>31)
  ·rw [if_pos (ho.2 (Or.inr (Or.inr c3))),if_pos c3]
  have oT:¬ownB p=false:=λh=>(ho.1 h).elim ab λh=>h.elim hb c3
  rw [if_neg oT,if_neg c3]
  by_cases m2:p.Mono=true∧p.Kind=2
  ·rw [if_pos m2,if_pos m2]
   have i0:¬p.Int_<0:=by omega
   cases hf:finB p.Re with
   | false=>rw [if_pos (by rfl),if_pos (show (p.Mono=true∧p.Kind=2)∧false=false from ⟨m2,rfl⟩)]
   | true=>
    rw [if_neg (by decide),if_neg (show ¬((p.Mono=true∧p.Kind=2)∧true=false) by simp)]
    cases hl:ltZ p.Re with
    | true=>rw [if_pos (Or.inl rfl),if_pos ⟨m2.1,Or.inr rfl⟩]
    | false=>rw [if_neg (show ¬(false=true∨(p.Mono=true∧p.Kind=1)∧p.Int_<0) by simp [i0]),if_neg (show ¬(p.Mono=true∧(p.Int_<0∨false=true)) by simp [i0])];split<;>rfl
  ·rw [if_neg m2,if_neg (show ¬(false=true) by decide),if_neg m2,if_neg (show ¬((p.Mono=true∧p.Kind=2)∧finB p.Re=false) from λh=>m2 h.1)]
   by_cases m1:p.Mono=true∧p.Kind=1
   ·have r0:p.Re=0:=by apply (u64z _).1;omega
    have l0:ltZ p.Re=false:=by rw [r0];decide
    rw [l0]
    by_cases hi:p.Int_<0
    ·rw [if_pos (Or.inr ⟨m1,hi⟩),if_pos ⟨m1.1,Or.inl hi⟩]
    ·rw [if_neg (show ¬(false=true∨(p.Mono=true∧p.Kind=1)∧p.Int_<0) by simp [hi]),if_neg (show ¬(p.Mono=true∧(p.Int_<0∨false=true)) by simp [hi])];split<;>rfl
   ·have hm:¬p.Mono=true:=by
     intro hm;exact hs ⟨hm,λh=>m1 ⟨hm,h⟩,λh=>m2 ⟨hm,h⟩⟩
    rw [if_neg (show ¬(false=true∨(p.Mono=true∧p.Kind=1)∧p.Int_<0) by simp [hm]),if_neg (show ¬(p.Mono=true∧(p.Int_<0∨ltZ p.Re=true)) from λh=>hm h.1)];split<;>rfl
abbrev zPt:Pt:=⟨[],[],0,0,false,0,0,0,0,0,h00,0⟩
def sPt (nm:Txt) (l:List Pr) (a b c:UInt8):Pt:=⟨nm,l,W64 ((a.toNat:Int)-48),W64 ((b.toNat:Int)-48),decide (((c).toNat:Int)=49),if W64 ((a.toNat:Int)-48)=3 then 1 else 0,1,0,0,0,h00,0⟩
def oPt (nm:Txt) (l:List Pr) (a b c:UInt8):Pt:=⟨nm,l,W64 ((a.toNat:Int)-48),W64 ((b.toNat:Int)-48),decide (((c).toNat:Int)=49),0,0,0,0,0,h00,0⟩
def serE (s:Txt):Pt×Int:=
 if (((cut1 32 s).2.2=true∧(cut1 32 s).2.1.length=3)∧(parse (cut1 32 s).1).2.2.2=0)∧((cut1 32 s).2.1.getD 2 0=48∨(cut1 32 s).2.1.getD 2 0=49) ∧
  pcE (sPt (parse (cut1 32 s).1).1 (parse (cut1 32 s).1).2.1 ((cut1 32 s).2.1.getD 0 0) ((cut1 32 s).2.1.getD 1 0) ((cut1 32 s).2.1.getD 2 0))=0
 then (oPt (parse (cut1 32 s).1).1 (parse (cut1 32 s).1).2.1 ((cut1 32 s).2.1.getD 0 0) ((cut1 32 s).2.1.getD 1 0) ((cut1 32 s).2.1.getD 2 0),0) else (zPt,3)
theorem byteZ (c:UInt8) (k:Nat) (hk:k<256):((c.toNat:Nat):Int)=(k:Int)↔c=UInt8.ofNat k:=by
 constructor
 ·intro h;apply UInt8.toNat_inj.1;rw [UInt8.toNat_ofNat'];omega
 ·rintro rfl;rw [UInt8.toNat_ofNat'];omega
theorem three {l:List UInt8} (h:l.length=3):∃ a b c,l=[a,b,c]:=by
 match l,h with
 | [a,b,c],_=>exact ⟨a,b,c,rfl⟩
theorem series_eq (s:Txt) (hs:s.length≤10000):m_chunk_Series s=some (serE s):=by
 unfold m_chunk_Series serE;have hl:=cut1_len (c:=32) (s:=s);rw [strCut_eq s 32 (by omega),bndS];generalize hc:cut1 32 s=t at *;obtain ⟨p,q,f⟩:=t;dsimp only at hl ⊢;rw [parse_eq p (by omega),bndS];generalize parse p=r;obtain ⟨nm,l,at_,e⟩:=r;dsimp only;simp only [jn_eq]
 by_cases h:(f=true∧q.length=3)∧e=0
 ·obtain ⟨⟨hf,hq⟩,he⟩:=h
  obtain ⟨a,b,c,rfl⟩:=three hq;subst hf he;rw [if_neg (show ¬(((!true)=true∨(0:Int)≠0)∨(([a,b,c]:List UInt8).length:Int)≠3) by simp),show idx [a,b,c] 2=some c from rfl,bndS,bndS,show idx [a,b,c] 0=some a from rfl,bndS,show idx [a,b,c] 1=some b from rfl,bndS,bndS];rw [show ([a,b,c]:List UInt8).getD 0 0=a from rfl,show ([a,b,c]:List UInt8).getD 1 0=b from rfl,show ([a,b,c]:List UInt8).getD 2 0=c from rfl]
  have fin:(if W64 ((a.toNat:Int)-48)=3 then (m_point_Check ⟨nm,l,W64 ((a.toNat:Int)-48),W64 ((b.toNat:Int)-48),decide (((c).toNat:Int)=49),1,1,0,0,0,h00,0⟩).bind λp54=>if p54≠0 then some (zPt,(3:Int)) else some (oPt nm l a b c,0) else (m_point_Check ⟨nm,l,W64 ((a.toNat:Int)-48),W64 ((b.toNat:Int)-48),decide (((c).toNat:Int)=49),0,1,0,0,0,h00,0⟩).bind λp54=>if p54≠0 then some (zPt,(3:Int)) else some (oPt nm l a b c,0))=some (if pcE (sPt nm l a b c)=0 then (oPt nm l a b c,0) else (zPt,3)):=by
   have e1:pcE (sPt nm l a b c)=pcE ⟨nm,l,W64 ((a.toNat:Int)-48),W64 ((b.toNat:Int)-48),decide (((c).toNat:Int)=49),if W64 ((a.toNat:Int)-48)=3 then 1 else 0,1,0,0,0,h00,0⟩:=rfl;rw [e1]
   by_cases h3:W64 ((a.toNat:Int)-48)=3
   ·rw [if_pos h3,if_pos h3,PCheck_eq _ (by simp) (by simp),bndS]
    by_cases hh:pcE ⟨nm,l,W64 ((a.toNat:Int)-48),W64 ((b.toNat:Int)-48),decide (((c).toNat:Int)=49),1,1,0,0,0,h00,0⟩=0
    ·rw [if_neg (λk=>k hh),if_pos hh]
    ·rw [if_pos hh,if_neg hh]
   ·rw [if_neg h3,if_neg h3,PCheck_eq _ (by simp) (by simp),bndS]
    by_cases hh:pcE ⟨nm,l,W64 ((a.toNat:Int)-48),W64 ((b.toNat:Int)-48),decide (((c).toNat:Int)=49),0,1,0,0,0,h00,0⟩=0
    ·rw [if_neg (λk=>k hh),if_pos hh]
    ·rw [if_pos hh,if_neg hh]
  by_cases h48:c=48
  ·rw [if_neg (show ¬((c.toNat:Int)≠48) by rw [h48];decide),if_neg (show ¬(false=true) by decide)]
   refine fin.trans ?_
   congr 1
   exact ite_cong ⟨λh=>⟨⟨⟨rfl,rfl⟩,rfl⟩,Or.inl h48,h⟩,λh=>h.2.2⟩ (λ_=>rfl) (λ_=>rfl)
  ·rw [if_pos (show (c.toNat:Int)≠48 from λh=>h48 ((byteZ c 48 (by omega)).1 h))]
   by_cases h49:c=49
   ·rw [if_neg (by rw [h49];decide)]
    refine fin.trans ?_
    congr 1
    exact ite_cong ⟨λh=>⟨⟨⟨rfl,rfl⟩,rfl⟩,Or.inr h49,h⟩,λh=>h.2.2⟩ (λ_=>rfl) (λ_=>rfl)
   ·rw [if_pos (decide_eq_true (show (c.toNat:Int)≠49 from λh=>h49 ((byteZ c 49 (by omega)).1 h))),if_neg (λh=>h.2.1.elim h48 h49)]
 ·rw [if_neg (c:=((f=true∧q.length=3)∧e=0)∧_) (λk=>h k.1),if_pos,if_pos (by first | trivial | rfl)]
  cases f with
  | false=>exact Or.inl (Or.inl rfl)
  | true=>
   by_cases hq:q.length=3
   ·exact Or.inl (Or.inr λhe=>h ⟨⟨rfl,hq⟩,he⟩)
   ·exact Or.inr (by omega)
theorem cut1_at (s:Txt):∀ (i:Nat),i<(cut1 32 s).1.length→∃ x,s[i]?=some x∧x≠32:=by
 intro i hi
 have e:∃ t,s=(cut1 32 s).1++t:=by
  by_cases h:(cut1 32 s).2.2=true
  ·exact ⟨_,cut1_yes h⟩
  ·have:=cut1_no (c:=32) (s:=s) (by simpa using h)
   exact ⟨[],by rw [this];simp⟩
 obtain ⟨t,ht⟩:=e;refine ⟨(cut1 32 s).1[i],?_,cut1_free _ (List.getElem_mem hi)⟩;exact (congrArg (λz:Txt=>z[i]?) ht).trans (by rw [List.getElem?_append_left hi,List.getElem?_eq_getElem hi])
theorem rseries_loop (s:Txt) (hs:s.length≤10000) (j:Int→Option (Pt×Int)):∀ (r i f:Nat),i+r=(cut1 32 s).1.length→r<f→m_limnographref13_Series_L1 s j f (i:Int)=j (((cut1 32 s).1.length:Nat):Int):=by
 have hl:=cut1_len (c:=32) (s:=s);intro r
 induction r with
 | zero=>
  intro i f hi hf;obtain ⟨f,rfl⟩:∃ k,f=k+1:=⟨f-1,by omega⟩;rw [m_limnographref13_Series_L1];simp only [jn_eq]
  have hi':i=(cut1 32 s).1.length:=by omega
  by_cases h:(cut1 32 s).2.2=true
  ·have e:=cut1_yes h
   have hx:idx s (i:Int)=some 32:=by rw [hi'];exact (congrArg (λz:Txt=>idx z (((cut1 32 s).1.length:Nat):Int)) e).trans (idx_mid _ _ _)
   have hlt:i<s.length:=by have:=congrArg List.length e;simp at this;omega
   rw [if_pos (by omega),hx,bndS,if_neg (by decide),hi']
  ·have e:=cut1_no (c:=32) (s:=s) (by simpa using h)
   rw [if_neg (by rw [hi',e];simp),if_neg (by decide),hi']
 | succ r ih=>
  intro i f hi hf;obtain ⟨f,rfl⟩:∃ k,f=k+1:=⟨f-1,by omega⟩;obtain ⟨x,hx,h32⟩:=cut1_at s i (by omega)
  have hlt:i<s.length:=by omega
  rw [m_limnographref13_Series_L1];simp only [jn_eq];rw [if_pos (by omega),idx_nat,hx,bndS,if_pos (decide_eq_true (show (x.toNat:Int)≠32 from λh=>h32 ((byteZ x 32 (by omega)).1 h))),W64_up (by omega)];exact ih (i+1) f (by omega) (by omega)
theorem rseries_eq (s:Txt) (hs:s.length≤10000):m_limnographref13_Series s=some (serE s):=by
 unfold m_limnographref13_Series serE;have hl:=cut1_len (c:=32) (s:=s);obtain ⟨ff,hf⟩:=fuelS 20001 (by omega);rw [jn_eq];refine (rseries_loop s hs _ (cut1 32 s).1.length 0 fuel (by omega) (by rw [hf];omega)).trans ?_;rw [W64_id (z:=(s.length:Int)-_) (by omega) (by omega)]
 by_cases h:(cut1 32 s).2.2=true∧(cut1 32 s).2.1.length=3
 ·obtain ⟨h1,h3⟩:=h
  have e:=cut1_yes h1;have el:=congrArg List.length e;simp only [List.length_append,List.length_cons] at el;obtain ⟨a,b,c,hq⟩:=three h3;generalize hp:(cut1 32 s).1=p at *;rw [hq] at e el;simp only [List.length_cons,List.length_nil] at el;rw [if_neg (by omega),h1,hq]
  have c1:cutL s 0 (p.length:Int)=some p:=by rw [e];exact cut_mid p _
  have w1:W64 ((p.length:Int)+1)=((p.length+1:Nat):Int):=W64_up (by omega)
  have w2:W64 ((p.length:Int)+2)=((p.length+2:Nat):Int):=by rw [W64_id (by omega) (by omega)];rfl
  have w3:W64 ((p.length:Int)+3)=((p.length+3:Nat):Int):=by rw [W64_id (by omega) (by omega)];rfl
  have i1:idx s ((p.length+1:Nat):Int)=some a:=by rw [idx_nat,e,List.getElem?_append_right (by omega),Nat.add_sub_cancel_left];rfl
  have i2:idx s ((p.length+2:Nat):Int)=some b:=by rw [idx_nat,e,List.getElem?_append_right (by omega),Nat.add_sub_cancel_left];rfl
  have i3:idx s ((p.length+3:Nat):Int)=some c:=by rw [idx_nat,e,List.getElem?_append_right (by omega),Nat.add_sub_cancel_left];rfl
  rw [c1,bndS,refParse_eq p (by omega),bndS,w1,w2,w3,i1,bndS,i2,bndS,i3,bndS];simp only [jn_eq,bndS,if_true,Bool.false_eq_true,if_false];rw [show ([a,b,c]:List UInt8).getD 0 0=a from rfl,show ([a,b,c]:List UInt8).getD 1 0=b from rfl,show ([a,b,c]:List UInt8).getD 2 0=c from rfl];unfold got;generalize parse p=r;obtain ⟨nm,l,at_,er⟩:=r;dsimp only;have key:∀ st:Int,(st=if W64 ((a.toNat:Int)-48)=3 then 1 else 0)→∀ X:Pt,X=⟨nm,l,W64 ((a.toNat:Int)-48),W64 ((b.toNat:Int)-48),decide (((c).toNat:Int)=49),st,1,0,0,0,h00,0⟩ →
   (if er≠0 then some (zPt,(3:Int)) else (m_limnographref12_Check X).bind λp65=>if decide (p65≠0)=true then some (zPt,(3:Int)) else if (c.toNat:Int)≠48 then (if decide ((c.toNat:Int)≠49)=true then some (zPt,(3:Int)) else some (oPt nm l a b c,0)) else some (oPt nm l a b c,0)) =
   some (if ((True∧(3:Nat)=3)∧er=0)∧(c=48∨c=49)∧pcE (sPt nm l a b c)=0 then (oPt nm l a b c,0) else (zPt,3)):=by
   intro st hst X hX
   have e1:sPt nm l a b c=X:=by rw [hX,hst];rfl
   rw [e1]
   by_cases h0:er=0
   ·rw [if_neg (λk=>k h0),RCheck_eq X (by rw [hX];simp) (by rw [hX];simp),bndS]
    by_cases hc:pcE X=0
    ·rw [if_neg (by rw [decide_eq_false (λk=>k hc)];decide)]
     by_cases h48:c=48
     ·rw [if_neg (show ¬((c.toNat:Int)≠48) by rw [h48];decide),if_pos ⟨⟨⟨trivial,rfl⟩,h0⟩,Or.inl h48,hc⟩]
     ·rw [if_pos (show (c.toNat:Int)≠48 from λh=>h48 ((byteZ c 48 (by omega)).1 h))]
      by_cases h49:c=49
      ·rw [if_neg (by rw [h49];decide),if_pos ⟨⟨⟨trivial,rfl⟩,h0⟩,Or.inr h49,hc⟩]
      ·rw [if_pos (decide_eq_true (show (c.toNat:Int)≠49 from λh=>h49 ((byteZ c 49 (by omega)).1 h))),if_neg (λh=>h.2.1.elim h48 h49)]
    ·rw [if_pos (decide_eq_true hc),if_neg (λk=>hc k.2.2)]
   ·rw [if_pos h0,if_neg (λk=>h0 k.1.2)]
  by_cases h3':W64 ((a.toNat:Int)-48)=3
  ·rw [if_pos h3']
   refine (key 1 (by rw [if_pos h3']) _ rfl).trans ?_
   congr 1
  ·rw [if_neg h3']
   refine (key 0 (by rw [if_neg h3']) _ rfl).trans ?_
   congr 1
 ·rw [if_pos,if_neg (λk=>h k.1.1)]
  by_cases h1:(cut1 32 s).2.2=true
  ·have e:=cut1_yes h1
   have el:=congrArg List.length e;simp only [List.length_append,List.length_cons] at el;intro k;exact h ⟨h1,by omega⟩
  ·have e:=cut1_no (c:=32) (s:=s) (by simpa using h1)
   rw [e];dsimp only;omega
end Go.Proofs.YtpcpfjpcfcbopaaGreatDoor
set_option linter.unusedVariables false
set_option linter.unusedSimpArgs false
namespace Go.Proofs.YtpcpfjpcfcbopaaGreatDoor
open Go Go.RowKit Go.Wk
section
variable {K:Bool→Bool→Bool} {J:List Int→Option (List Int)} {L:List Int→List Int→List Int→Option (List Int)} {acc:List Int}
end
section
variable {a b:List Int} (h:a.length+b.length≤1000000)
include h
end
end Go.Proofs.YtpcpfjpcfcbopaaGreatDoor
set_option linter.unusedVariables false
set_option linter.unusedSimpArgs false
namespace Go.Proofs.YtpcpfjpcfcbopaaGreatDoor
open Go Go.RowKit Go.Wk
variable {K:Bool→Bool→Bool}
theorem mem_if (k:Bool) (x z:Int) (G:List Int):z∈(if k=true then [x] else [])++G↔(k=true∧z=x)∨z∈G:=by cases k<;>simp
abbrev Asc (l:List Int):Prop:=l.Pairwise (·<·)
theorem asc_if {k:Bool} {x:Int} {G:List Int} (h:Asc G) (hx:∀ z∈G,x<z):Asc ((if k=true then [x] else [])++G):=by
 cases k with
 | true=>simpa using ⟨hx,h⟩
 | false=>simpa using h
theorem len_if (k:Bool) (x:Int) (G:List Int):((if k=true then [x] else [])++G).length=(if k=true then 1 else 0)+G.length:=by cases k<;>simp;omega
end Go.Proofs.YtpcpfjpcfcbopaaGreatDoor
set_option linter.unusedVariables false
set_option linter.unusedSimpArgs false
namespace Go.Proofs.YtpcpfjpcfcbopaaGreatDoor
open Go Go.RowKit Go.Wk
section
variable {α:Type}
def rowF (P:α→Bool):Nat→List α→List Int
 | _,[]=>[]
 | i,k::q=>(if P k=true then [(i:Int)] else [])++rowF P (i+1) q
theorem rowF_mem (P:α→Bool) (z:Int):∀ (i:Nat) (q:List α),z∈rowF P i q↔∃ j k,q[j]?=some k∧P k=true∧z=((i+j:Nat):Int)
 | i,[]=>by simp [rowF]
 | i,k::q=>by
  rw [rowF,mem_if,rowF_mem P z (i+1) q]
  constructor
  ·rintro (⟨h1,h2⟩ | ⟨j,x,h1,h2,h3⟩)
   ·exact ⟨0,k,rfl,h1,h2⟩
   ·exact ⟨j+1,x,h1,h2,by rw [h3];congr 1;omega⟩
  ·rintro ⟨j,x,h1,h2,h3⟩
   cases j with
   | zero=>simp at h1;subst h1;exact .inl ⟨h2,h3⟩
   | succ j=>exact .inr ⟨j,x,h1,h2,by rw [h3];congr 1;omega⟩
theorem rowF_asc (P:α→Bool):∀ (i:Nat) (q:List α),Asc (rowF P i q)
 | i,[]=>List.Pairwise.nil
 | i,k::q=>asc_if (rowF_asc P (i+1) q) λz hz=>by
  obtain ⟨j,x,_,_,h⟩:=(rowF_mem P z _ q).1 hz
  omega
theorem rowF_snoc (P:α→Bool) (k:α):∀ (i:Nat) (q:List α),rowF P i (q++[k])=rowF P i q++(if P k=true then [((i+q.length:Nat):Int)] else [])
 | i,[]=>by simp [rowF]
 | i,x::q=>by
  rw [List.cons_append,rowF,rowF_snoc P k (i+1) q,rowF,List.append_assoc,List.length_cons]
  have e:i+1+q.length=i+(q.length+1):=by omega
  rw [e]
theorem rowF_len (P:α→Bool):∀ (i:Nat) (q:List α),(rowF P i q).length≤q.length
 | i,[]=>by simp [rowF]
 | i,k::q=>by
  have:=rowF_len P (i+1) q;rw [rowF,len_if];simp only [List.length_cons]
  split<;>omega
theorem rowF_ext {P Q:α→Bool} {i:Nat} {q:List α} (h:∀ k∈q,P k=Q k):rowF P i q=rowF Q i q:=by
 induction q generalizing i with
 | nil=>rfl
 | cons k q ih=>rw [rowF,rowF,h k (by simp),ih λx hx=>h x (by simp [hx])]
theorem asc_ext:∀ {a b:List Int},Asc a→Asc b→(∀ z,z∈a↔z∈b)→a=b
 | [],[],_,_,_=>rfl
 | x::a,[],_,_,h=>by have:=(h x).1 (by simp);cases this
 | [],y::b,_,_,h=>by have:=(h y).2 (by simp);cases this
 | x::a,y::b,ha,hb,h=>by
  have ha':=List.pairwise_cons.1 ha;have hb':=List.pairwise_cons.1 hb
  have e:x=y:=by
   rcases List.mem_cons.1 ((h x).1 (by simp)) with h1|h1
   ·exact h1
   ·rcases List.mem_cons.1 ((h y).2 (by simp)) with h2 | h2
    ·exact h2.symm
    ·have:=hb'.1 x h1;have:=ha'.1 y h2;omega
  subst e
  congr 1
  refine asc_ext ha'.2 hb'.2 λz=>?_
  have hz:=h z
  constructor
  ·intro h1
   have h3:=ha'.1 z h1
   rcases List.mem_cons.1 (hz.1 (by simp [h1])) with h2|h2
   ·omega
   ·exact h2
  ·intro h1
   have h3:=hb'.1 z h1
   rcases List.mem_cons.1 (hz.2 (by simp [h1])) with h2|h2
   ·omega
   ·exact h2
end
section
variable {κ β:Type} [DecidableEq κ]
theorem lookO_put (a b:κ) (xs:List β):∀ R:Ko κ β,lookO a (putO b xs R)=if a=b then xs else lookO a R
 | []=>by
  unfold lookO putO
  by_cases h:b=a
  ·simp [h]
  ·simp [h,Ne.symm h]
 | p::R=>by
  have ih:=lookO_put a b xs R;unfold lookO at ih ⊢;unfold putO
  by_cases h:p.1=b
  ·rw [if_pos h]
   by_cases h2:b=a
   ·subst h2;simp [h]
   ·have h3:¬p.1=a:=λhh=>h2 (h.symm.trans hh)
    simp [h2,h3,Ne.symm h2]
  ·rw [if_neg h]
   by_cases h2:p.1=a
   ·have h3:¬a=b:=λhh=>h (h2.trans hh)
    simp [h2,h3]
   ·simp only [List.find?_cons,h2,decide_false]
    exact ih
theorem putO_mem (a b:κ) (xs:List β):∀ R:Ko κ β,a∈(putO b xs R).map (·.1)↔a=b∨a∈R.map (·.1)
 | []=>by simp [putO]
 | p::R=>by
  unfold putO
  by_cases h:p.1=b
  ·rw [if_pos h];simp [h]
  ·rw [if_neg h]
   have ih:=putO_mem a b xs R;simp only [List.map_cons,List.mem_cons] at ih ⊢;rw [ih]
   constructor
   ·rintro (h | h | h)
    ·exact .inr (.inl h)
    ·exact .inl h
    ·exact .inr (.inr h)
   ·rintro (h | h | h)
    ·exact .inr (.inl h)
    ·exact .inl h
    ·exact .inr (.inr h)
theorem putO_len (b:κ) (xs:List β):∀ R:Ko κ β,(putO b xs R).length≤R.length+1
 | []=>by simp [putO]
 | p::R=>by
  unfold putO;have ih:=putO_len b xs R
  split<;>simp<;>omega
end
section
variable {β:Type}
theorem lookP_put' (a b:List UInt8) (x:β):∀ R:Kv β,lookP a (putP b x R)=if a=b then some x else lookP a R
 | []=>by
  unfold lookP putP
  by_cases h:b=a
  ·simp [h]
  ·simp [h,Ne.symm h]
 | p::R=>by
  have ih:=lookP_put' a b x R;unfold lookP at ih ⊢;unfold putP
  by_cases h:p.1=b
  ·rw [if_pos h]
   by_cases h2:b=a
   ·subst h2;simp [h]
   ·have h3:¬p.1=a:=λhh=>h2 (h.symm.trans hh)
    simp [h2,h3,Ne.symm h2]
  ·rw [if_neg h]
   by_cases h2:p.1=a
   ·have h3:¬a=b:=λhh=>h (h2.trans hh)
    simp [h2,h3]
   ·simp only [List.find?_cons,h2,decide_false]
    exact ih
end
end Go.Proofs.YtpcpfjpcfcbopaaGreatDoor
set_option linter.unusedVariables false
set_option linter.unusedSimpArgs false
namespace Go.Proofs.YtpcpfjpcfcbopaaGreatDoor
open Go Go.RowKit Go.Wk
def attrs (k:Txt):List Pr:=(serE k).1.Attrs++[⟨[],(serE k).1.Name⟩]
theorem serE_err (k:Txt):(serE k).2=0∨(serE k).2=3:=by unfold serE;split<;>simp
theorem serE_at (k:Txt) (h:(serE k).2=0):∃ nm m,(parse (cut1 32 k).1)=(nm,m,0,0)∧nameB nm=true∧m.length≤4∧chk [] m=0∧(serE k).1.Attrs=m∧(serE k).1.Name=nm:=by
 unfold serE at h ⊢
 split at h
 ·rename_i hc
  obtain ⟨nm,m,h1,h2,h3,h4,_⟩:=parse_ok hc.1.2;refine ⟨nm,m,h1,h2,h3,h4,?_,?_⟩
  ·rw [if_pos hc,h1];rfl
  ·rw [if_pos hc,h1];rfl
 ·simp at h
theorem nameB_ne {s:Txt} (h:nameB s=true):s≠[]:=by rintro rfl;simp [nameB] at h
abbrev Dis (l:List Pr):Prop:=l.Pairwise λa b=>a.Key≠b.Key
theorem attrs_dis {k:Txt} (h:(serE k).2=0):Dis (attrs k)∧(attrs k).length≤5:=by
 obtain ⟨nm,m,_,_,h3,h4,h5,h6⟩:=serE_at k h;have hc:=(chk_iff m []).1 h4;unfold attrs;rw [h5,h6];refine ⟨List.pairwise_append.2 ⟨hc.2.2,List.pairwise_singleton _ _,λa ha b hb=>?_⟩,by simp;omega⟩;simp at hb;subst hb;exact nameB_ne (hc.1 a ha).1
theorem dis_nodup {l:List Pr} (h:Dis l):l.Nodup:=h.imp λhab he=>hab (congrArg T_api_Pair.Key he)
abbrev Rows35:=Ko Pr Int
def addK (l:List Pr) (i:Int) (R:Rows35):Rows35:=l.foldl (λR a=>putO a (lookO a R++[i]) R) R
theorem addK_look (a:Pr) (i:Int):∀ (l:List Pr) (R:Rows35),l.Nodup→lookO a (addK l i R)=lookO a R++(if a∈l then [i] else [])
 | [],R,_=>by simp [addK]
 | b::l,R,h=>by
  obtain ⟨h1,h2⟩:=List.nodup_cons.1 h;show lookO a (addK l i (putO b (lookO b R++[i]) R))=_;rw [addK_look a i l _ h2,lookO_put]
  by_cases e:a=b
  ·subst e;simp [h1]
  ·simp [e]
theorem addK_mem (a:Pr) (i:Int):∀ (l:List Pr) (R:Rows35),a∈(addK l i R).map (·.1)↔a∈l∨a∈R.map (·.1)
 | [],R=>by simp [addK]
 | b::l,R=>by
  show a∈(addK l i (putO b (lookO b R++[i]) R)).map (·.1)↔_;rw [addK_mem a i l,putO_mem,List.mem_cons]
  constructor
  ·rintro (h | h | h)
   ·exact .inl (.inr h)
   ·exact .inl (.inl h)
   ·exact .inr h
  ·rintro ((h | h) | h)
   ·exact .inr (.inl h)
   ·exact .inl h
   ·exact .inr (.inr h)
theorem addK_len (i:Int):∀ (l:List Pr) (R:Rows35),(addK l i R).length≤R.length+l.length
 | [],R=>by simp [addK]
 | b::l,R=>by
  have h1:=addK_len i l (putO b (lookO b R++[i]) R);have h2:=putO_len b (lookO b R++[i]) R;show (addK l i (putO b (lookO b R++[i]) R)).length≤_;simp only [List.length_cons];omega
theorem addK_nodup (i:Int):∀ (l:List Pr) (R:Rows35),(R.map (·.1)).Nodup→((addK l i R).map (·.1)).Nodup
 | [],R,h=>h
 | b::l,R,h=>addK_nodup i l _ ((putO_keys b (lookO b R++[i]) R).2 h)
def rowsI:Nat→List Txt→Rows35→Rows35
 | _,[],R=>R
 | i,k::q,R=>rowsI (i+1) q (addK (attrs k) i R)
abbrev OkK (k:Txt):Prop:=(serE k).2=0
theorem rowsI_look (a:Pr):∀ (i:Nat) (q:List Txt) (R:Rows35),(∀ k∈q,OkK k)→lookO a (rowsI i q R)=lookO a R++rowF (λk=>decide (a∈attrs k)) i q
 | i,[],R,_=>by simp [rowsI,rowF]
 | i,k::q,R,h=>by
  rw [rowsI,rowsI_look a (i+1) q _ λx hx=>h x (by simp [hx]),addK_look a i _ _ (dis_nodup (attrs_dis (h k (by simp))).1),rowF,List.append_assoc];simp
theorem rowsI_mem (a:Pr):∀ (i:Nat) (q:List Txt) (R:Rows35),a∈(rowsI i q R).map (·.1)↔(∃ k∈q,a∈attrs k)∨a∈R.map (·.1)
 | i,[],R=>by simp [rowsI]
 | i,k::q,R=>by
  rw [rowsI,rowsI_mem a (i+1) q,addK_mem]
  constructor
  ·rintro (⟨x,h1,h2⟩ | h | h)
   ·exact .inl ⟨x,by simp [h1],h2⟩
   ·exact .inl ⟨k,by simp,h⟩
   ·exact .inr h
  ·rintro (⟨x,h1,h2⟩ | h)
   ·rcases List.mem_cons.1 h1 with rfl | h1
    ·exact .inr (.inl h2)
    ·exact .inl ⟨x,h1,h2⟩
   ·exact .inr (.inr h)
theorem rowsI_len:∀ (i:Nat) (q:List Txt) (R:Rows35),(∀ k∈q,OkK k)→(rowsI i q R).length≤R.length+5*q.length
 | i,[],R,_=>by simp [rowsI]
 | i,k::q,R,h=>by
  have h1:=rowsI_len (i+1) q (addK (attrs k) i R) λx hx=>h x (by simp [hx])
  have h2:=addK_len i (attrs k) R;have h3:=(attrs_dis (h k (by simp))).2;rw [rowsI];simp only [List.length_cons];omega
theorem rowsI_nodup:∀ (i:Nat) (q:List Txt) (R:Rows35),(R.map (·.1)).Nodup→((rowsI i q R).map (·.1)).Nodup
 | i,[],R,h=>h
 | i,k::q,R,h=>rowsI_nodup (i+1) q _ (addK_nodup i _ _ h)
theorem rowsI_snoc (k:Txt):∀ (i:Nat) (q:List Txt) (R:Rows35),rowsI i (q++[k]) R=addK (attrs k) ((i+q.length:Nat):Int) (rowsI i q R)
 | i,[],R=>by simp [rowsI]
 | i,x::q,R=>by
  rw [List.cons_append,rowsI,rowsI_snoc k (i+1) q,rowsI,List.length_cons]
  have e:i+1+q.length=i+(q.length+1):=by omega
  rw [e]
def goN:List Txt→List Txt→Rows35→Option T_index_Index×Int×Int
 | p,[],R=>(some ⟨p,R⟩,0,0)
 | p,k::q,R=>if (serE k).2≠0 then (none,p.length,(serE k).2) else if k∈p then (none,p.length,8) else goN (p++[k]) q (addK (attrs k) p.length R)
theorem newL2 (i:Int) (l:List Pr) (j:T_index_Index→Option (Option T_index_Index×Int×Int)) (x:T_index_Index) (hl:l.length≤1000) (hb:∀ a,(lookO a x.rows).length≤1000000) :
 m_index_New_L2 i l j fuel 0 x=j ⟨x.keys,addK l i x.rows⟩:=by
 rw [m_index_New_L2_scan _ _ _ _ (by omega)];refine scanL_inv (λ(p:List Pr) (s:T_index_Index)=>∀ a,(lookO a s.rows).length≤1000000+p.length) (λ(_ q:List Pr) (s:T_index_Index)=>j ⟨s.keys,addK q i s.rows⟩) hb (λs _=>rfl) ?_;intro p a q s k hp hI hk
 have hpl:p.length+q.length+1≤1000:=by rw [← hp] at hl;simp at hl;omega
 have hla:=hI a;rw [bndS,app_some (by simp;omega),bndS,hk _ λb=>?_]
 ·rfl
 ·have:=hI b
  simp only [lookO_put]
  split<;>simp<;>omega
theorem new_eq (ks:List Txt) (hn:ks.length≤1000) (hk:∀ k∈ks,k.length≤10000):m_index_New ks=some (goN [] ks []):=by
 unfold m_index_New;rw [if_neg (by omega),jn_eq,m_index_New_L1_scan _ _ _ _ (by omega)];refine (scanL_inv (λ(p:List Txt) (s:Kv Int×T_index_Index)=>(∀ k,(lookP k s.1).getD 0=if k∈p then 1 else 0)∧s.2.keys=p∧s.2.rows=rowsI 0 p []∧∀ k∈p,OkK k) (λ(p q:List Txt) (s:Kv Int×T_index_Index)=>some (goN p q s.2.rows)) ⟨λk=>by simp [lookP],rfl,rfl,λk h=>by cases h⟩ ?_ ?_)
 ·rintro ⟨s,x⟩ ⟨_,h1,_,_⟩
  cases x
  cases h1
  rfl
 ·rintro p k q ⟨s,x⟩ kk hp ⟨h1,h2,h3,h4⟩ hkk
  have hpl:p.length+q.length+1≤1000:=by rw [← hp] at hn;simp at hn;omega
  have hkl:k.length≤10000:=hk k (by rw [← hp];simp);dsimp only at h1 h2 h3 ⊢;simp only [bndS,jn_eq,series_eq k hkl,goN,h1 k]
  by_cases he:(serE k).2=0
  ·obtain ⟨nm,m,g1,g2,g3,g4,g5,g6⟩:=serE_at k he
   by_cases hm:k∈p
   ·simp [he,hm]
   ·have e1:¬(decide ((if k∈p then (1:Int) else 0)>0)=true):=by simp [hm]
    simp only [he,if_true,ne_eq,not_true_eq_false,if_false,hm,e1]
    rw [if_neg (by decide),app_some (by rw [h2];simp;omega),bndS,app_some (by rw [g5];simp;omega),bndS,newL2 _ _ _ _ (by simp;rw [g5];omega) (λa=>by
     dsimp only;rw [h3,rowsI_look a 0 p [] h4];have:=rowF_len (λk=>decide (a∈attrs k)) 0 p
     simp [lookO] at this ⊢;omega)]
    have e2:W64 (0+1)=1:=by decide
    rw [hkk _ ⟨λb=>?_,?_,?_,?_⟩]
    ·rfl
    ·show x.keys++[k]=p++[k]
     rw [h2]
    ·show addK (attrs k) p.length x.rows=_
     rw [h3];have:=rowsI_snoc k 0 p [];rw [Nat.zero_add] at this;exact this.symm
    ·intro b hb
     rcases List.mem_append.1 hb with hb|hb
     ·exact h4 b hb
     ·simp at hb;subst hb;exact he
    ·dsimp only
     rw [lookP_put',e2]
     by_cases hb:b=k
     ·subst hb;simp
     ·simp only [hb,if_false,h1 b,List.mem_append,List.mem_singleton,or_false]
  ·simp [he]
theorem goN_some:∀ (q p:List Txt) (R:Rows35) (x:T_index_Index) (a e:Int),goN p q R=(some x,a,e)→x=⟨p++q,rowsI p.length q R⟩∧(∀ k∈q,OkK k)∧a=0∧e=0∧(∀ k∈q,k ∉ p)∧q.Nodup
 | [],p,R,x,a,e,h=>by
  simp only [goN,Prod.mk.injEq,Option.some.injEq] at h;obtain ⟨rfl,rfl,rfl⟩:=h;simp [rowsI]
 | k::q,p,R,x,a,e,h=>by
  rw [goN] at h
  split at h
  ·simp at h
  ·rename_i he
   split at h
   ·simp at h
   ·rename_i hm
    obtain ⟨h1,h2,h3,h4,h5,h6⟩:=goN_some q (p++[k]) _ x a e h;refine ⟨by rw [h1];simp [rowsI],λb hb=>?_,h3,h4,λb hb=>?_,?_⟩
    ·rcases List.mem_cons.1 hb with rfl | hb
     ·exact Classical.not_not.1 he
     ·exact h2 b hb
    ·rcases List.mem_cons.1 hb with rfl | hb
     ·exact hm
     ·exact λhh=>h5 b hb (by simp [hh])
    ·exact List.nodup_cons.2 ⟨λhh=>h5 k hh (by simp),h6⟩
end Go.Proofs.YtpcpfjpcfcbopaaGreatDoor
set_option linter.unusedVariables false
set_option linter.unusedSimpArgs false
namespace Go.Proofs.YtpcpfjpcfcbopaaGreatDoor
open Go Go.RowKit Go.Wk
def look35 (k key:Txt):Option Txt:=((attrs k).find? λa=>decide (a.Key=key)).map (·.Val)
theorem find_dis:∀ {l:List Pr} {key v:Txt},Dis l→((⟨key,v⟩:Pr)∈l↔(l.find? λa=>decide (a.Key=key)).map (·.Val)=some v)
 | [],key,v,_=>by simp
 | a::l,key,v,h=>by
  obtain ⟨h1,h2⟩:=List.pairwise_cons.1 h
  by_cases e:a.Key=key
  ·rw [List.find?_cons,decide_eq_true e,List.mem_cons]
   constructor
   ·rintro (h3 | h3)
    ·rw [← h3];rfl
    ·exact (h1 _ h3 e).elim
   ·intro h3
    left
    cases a
    simp at h3 e;rw [e,h3]
  ·rw [List.find?_cons,decide_eq_false e,List.mem_cons,← find_dis h2]
   constructor
   ·rintro (h3 | h3)
    ·exact (e (by rw [← h3])).elim
    ·exact h3
   ·exact .inr
theorem look_iff {k:Txt} (h:OkK k) (key v:Txt):(⟨key,v⟩:Pr)∈attrs k↔look35 k key=some v:=find_dis (attrs_dis h).1
structure IxOk (x:T_index_Index) (ks:List Txt):Prop where
 keys:x.keys=ks
 rows:x.rows=rowsI 0 ks []
 ok:∀ k∈ks,OkK k
 len:ks.length≤1000
theorem IxOk.of {ks:List Txt} {x:T_index_Index} {a e:Int} (hn:ks.length≤1000) (h:goN [] ks []=(some x,a,e)):IxOk x ks:=by
 obtain ⟨h1,h2,_⟩:=goN_some ks [] [] x a e h;exact ⟨by rw [h1];rfl,by rw [h1];rfl,h2,hn⟩
section
variable {x:T_index_Index} {ks:List Txt} (hx:IxOk x ks)
include hx
theorem IxOk.look (key v:Txt):lookO (⟨key,v⟩:Pr) x.rows=rowF (λk=>decide (look35 k key=some v)) 0 ks:=by
 rw [hx.rows,rowsI_look _ _ _ _ hx.ok];have:lookO (⟨key,v⟩:Pr) ([]:Rows35)=[]:=rfl;rw [this,List.nil_append]
 exact rowF_ext λk hk=>by simp only [look_iff (hx.ok k hk)]
theorem IxOk.all:m_index_Index_all x=some (rowF (λ_=>true) 0 ks):=by
 have hl:=hx.len;unfold m_index_Index_all;rw [hx.keys]
 have mk:mkL (ks.length:Int) (0:Int)=some (List.replicate ks.length 0):=by unfold mkL;rw [if_pos (by omega)];simp
 rw [mk,bndS,jn_eq,m_index_Index_all_L1_scan _ _ _ (by simp;omega)]
 have e:rowF (λ_:Txt=>true) 0 ks=(List.range ks.length).map λj=>((j:Nat):Int):=by
  refine asc_ext (rowF_asc _ 0 ks) ?_ λz=>?_
  ·rw [Asc,List.pairwise_map]
   exact List.pairwise_lt_range.imp λh=>by omega
  ·rw [rowF_mem,List.mem_map]
   constructor
   ·rintro ⟨j,k,h1,_,h3⟩
    exact ⟨j,by rw [List.mem_range];exact (List.getElem?_eq_some_iff.1 h1).1,by rw [h3];simp⟩
   ·rintro ⟨j,h1,h2⟩
    rw [List.mem_range] at h1;exact ⟨j,ks[j],List.getElem?_eq_getElem h1,rfl,by rw [← h2];simp⟩
 rw [e];refine (scanL_inv (λ(p:List Int) (s:List Int)=>s=((List.range p.length).map λj=>((j:Nat):Int))++List.replicate (ks.length-p.length) 0) (λ_ _ _=>some ((List.range ks.length).map λj=>((j:Nat):Int))) (by simp) ?_ ?_)
 ·intro s hs
  rw [hs];simp
 ·intro p y q s kk hp hI hk
  have hpl:p.length+q.length+1=ks.length:=by have:=congrArg List.length hp;simp at this;omega
  have e2:ks.length-p.length=(ks.length-(p.length+1))+1:=by omega
  rw [e2,List.replicate_succ] at hI;rw [hI,idx_mid' (by simp),bndS];refine hk _ ?_;simp only [List.length_append,List.length_singleton,List.range_succ,List.map_append,List.map_cons,List.map_nil,List.append_assoc];unfold setI;rw [List.set_append_right _ _ (by simp)];simp
def vals35 (x:T_index_Index) (key:Txt):List Txt:=((((x.rows.map λp=>p.1).filter λp=>decide (p.Key=key)).map λp=>p.Val)).mergeSort leK
theorem IxOk.vals (key:Txt):m_index_Index_Values x key=some (vals35 x key):=by
 unfold m_index_Index_Values;have h1:=rowsI_len 0 ks [] hx.ok;have h2:=hx.len;rw [hx.rows,if_pos (by simp at h1;omega),← hx.rows]
 rfl
theorem IxOk.vals_mem (key v:Txt):v∈vals35 x key↔∃ k∈ks,look35 k key=some v:=by
 unfold vals35;rw [List.mem_mergeSort,List.mem_map]
 constructor
 ·rintro ⟨a,h1,rfl⟩
  obtain ⟨h2,h3⟩:=List.mem_filter.1 h1;have h3:=of_decide_eq_true h3;rw [hx.rows] at h2;have:=(rowsI_mem a 0 ks []).1 h2
  rcases this with ⟨k,h4,h5⟩|h
  ·refine ⟨k,h4,(look_iff (hx.ok k h4) key a.Val).1 ?_⟩
   rw [← h3];exact h5
  ·simp at h
 ·rintro ⟨k,h1,h2⟩
  refine ⟨⟨key,v⟩,List.mem_filter.2 ⟨?_,by simp⟩,rfl⟩;rw [hx.rows];exact (rowsI_mem _ 0 ks []).2 (.inl ⟨k,h1,(look_iff (hx.ok k h1) key v).2 h2⟩)
theorem IxOk.vals_len (key:Txt):(vals35 x key).length≤10000:=by
 have h1:=rowsI_len 0 ks [] hx.ok;have h2:=hx.len;unfold vals35;rw [List.length_mergeSort,List.length_map];refine Nat.le_trans (List.length_filter_le _ _) ?_;rw [List.length_map,hx.rows];simp at h1;omega
end
end Go.Proofs.YtpcpfjpcfcbopaaGreatDoor
set_option linter.unusedVariables false
set_option linter.unusedSimpArgs false
namespace Go.Proofs.YtpcpfjpcfcbopaaGreatDoor
open Go Go.RowKit Go.Wk
abbrev Pc:=T_glob_piece
end Go.Proofs.YtpcpfjpcfcbopaaGreatDoor
set_option linter.unusedVariables false
set_option linter.unusedSimpArgs false
namespace Go.Proofs.YtpcpfjpcfcbopaaGreatDoor
open Go Go.RowKit Go.Wk
theorem u8i (c:UInt8) (k:Nat) (hk:k<256):((c.toNat:Nat):Int)=(k:Int)↔c=UInt8.ofNat k:=byteZ c k hk
theorem c45 (c:UInt8):((c.toNat:Nat):Int)=45↔c=45:=u8i c 45 (by omega)
theorem c33 (c:UInt8):((c.toNat:Nat):Int)=33↔c=33:=u8i c 33 (by omega)
theorem c42 (c:UInt8):((c.toNat:Nat):Int)=42↔c=42:=u8i c 42 (by omega)
section
variable (s:Txt) (hs:s.length≤1000)
include hs
end
abbrev p0 (S:T_glob_set):Pc:=⟨0,S,false,0⟩
end Go.Proofs.YtpcpfjpcfcbopaaGreatDoor
set_option linter.unusedVariables false
set_option linter.unusedSimpArgs false
namespace Go.Proofs.YtpcpfjpcfcbopaaGreatDoor
open Go Go.RowKit Go.Wk
end Go.Proofs.YtpcpfjpcfcbopaaGreatDoor
set_option linter.unusedVariables false
set_option linter.unusedSimpArgs false
namespace Go.Proofs.YtpcpfjpcfcbopaaGreatDoor
open Go Go.RowKit Go.Wk
section
variable (ps:List Pc) (s:Txt)
end
end Go.Proofs.YtpcpfjpcfcbopaaGreatDoor
set_option linter.unusedVariables false
set_option linter.unusedSimpArgs false
namespace Go.Proofs.YtpcpfjpcfcbopaaGreatDoor
open Go Go.RowKit Go.Wk
def fewK (l:List Txt) (n:Int):Bool:=decide ((l.length:Int)≤n)&&l.all λk=>decide (k.length≤500)
theorem fewK_eq (l:List Txt) (n:Int) (hn:n≤1000):m_limnographref34_Few l n=some (fewK l n):=by
 unfold m_limnographref34_Few fewK
 by_cases h:(l.length:Int)>n
 ·rw [if_pos h,decide_eq_false (by omega)];rfl
 ·rw [if_neg h,decide_eq_true (by omega),jn_eq,m_limnographref34_Few_L1_scan _ _ (by omega)]
  refine (scanL_all (λk=>decide (k.length≤500)) (some false) λi x k _=>?_).trans ?_
  ·rw [bndS]
   by_cases h5:x.length≤500
   ·rw [if_neg (by omega),decide_eq_true h5,if_pos rfl]
   ·rw [if_pos (by omega),decide_eq_false h5,if_neg (by decide)]
  ·cases l.all λk=>decide (k.length≤500)<;>rfl
theorem same_refl (l:List Int) (h:l.length≤1000000):m_limnographref35_Same l l=some true:=by
 unfold m_limnographref35_Same;rw [if_neg (by simp),jn_eq,m_limnographref35_Same_L1_scan _ _ _ (by omega)];refine (scanL_pre (λ_ _ _=>some true) (λ_=>rfl) ?_);intro p x q s k hp hk
 have hi:idx l (p.length:Int)=some x:=by rw [← hp];exact idx_mid p x q
 rw [bndS,hi,bndS,if_neg (λh=>h rfl)];exact hk ()
end Go.Proofs.YtpcpfjpcfcbopaaGreatDoor
set_option linter.unusedVariables false
set_option linter.unusedSimpArgs false
namespace Go.Proofs.YtpcpfjpcfcbopaaGreatDoor
open Go Go.RowKit Go.Wk
theorem awake_eq:m_limnographlaw35_awake=some true:=by decide +kernel
theorem scanL_ex {α S R:Type} {l:List α} {s:S} {B:Nat→α→S→(S→Option R)→Option R} {J:S→Option R} (I:List α→S→Prop) (Q:Option R→Prop) (hI:I [] s) (h0:∀ s,I l s→Q (J s))
 (h1:∀ p x q s k,p++x::q=l→I p s→(∀ s',I (p++[x]) s'→Q (k s'))→Q (B p.length x s k)):Q (scanL l s B J):=by
 have key:∀ (q p:List α) (s:S),p++q=l→I p s→Q (scan B J p.length q s):=by
  intro q
  induction q with
  | nil=>intro p s hp hI;rw [List.append_nil] at hp;subst hp;exact h0 s hI
  | cons x q ih=>
   intro p s hp hI
   refine h1 p x q s _ hp hI λs' hI'=>?_
   have:=ih (p++[x]) s' (by simpa using hp) hI';simpa using this
 exact key l [] s rfl hI
def goC:List Txt→List Txt→Int×Int
 | _,[]=>(0,0)
 | p,k::q=>if (serE k).2≠0 then ((p.length:Int),3) else if k∈p then ((p.length:Int),8) else goC (p++[k]) q
theorem goN_snd:∀ (q p:List Txt) (R:Rows35),(goN p q R).2=goC p q
 | [],p,R=>rfl
 | k::q,p,R=>by
  rw [goN,goC]
  by_cases he:(serE k).2=0
  ·simp only [he,ne_eq,not_true_eq_false,if_false]
   by_cases hm:k∈p
   ·rw [if_pos hm,if_pos hm]
   ·rw [if_neg hm,if_neg hm];exact goN_snd q _ _
  ·rw [if_pos he,if_pos he,(serE_err k).resolve_left he]
theorem goN_isNone:∀ (q p:List Txt) (R:Rows35),(goN p q R).1.isNone=decide ((goN p q R).2.2≠0)
 | [],p,R=>by simp [goN]
 | k::q,p,R=>by
  rw [goN]
  by_cases he:(serE k).2=0
  ·rw [if_neg (λh=>h he)]
   by_cases hm:k∈p
   ·rw [if_pos hm];simp
   ·rw [if_neg hm];exact goN_isNone q _ _
  ·rw [if_pos he];simp [he]
theorem checkL2 (ks:List Txt) (hn:ks.length≤1000) (i:Nat) (k:Txt) (hi:ks[i]?=some k) (j:Unit→Option (Int×Int)):∀ (b a:List Txt) (n:Nat),ks.take i=a++b→b.length<n →
 m_limnographref35_Check_L2 ks (i:Int) j n (a.length:Int)=if k∈b then some ((i:Int),8) else j ()
 | [],a,n+1,h,_=>by
  have hil:=(List.getElem?_eq_some_iff.1 hi).1;have:=congrArg List.length h;simp at this;rw [m_limnographref35_Check_L2,if_neg (by omega),if_neg (by simp)]
 | y::b,a,n+1,h,hb=>by
  have hil:=(List.getElem?_eq_some_iff.1 hi).1;have hl:=congrArg List.length h;simp at hl
  have hy:idx ks (a.length:Int)=some y:=by
   rw [idx_nat]
   have h1:(ks.take i)[a.length]?=some y:=by rw [h];simp
   rw [List.getElem?_take] at h1
   split at h1
   ·exact h1
   ·cases h1
  rw [m_limnographref35_Check_L2,if_pos (by omega),hy,bndS,idx_nat,hi,bndS]
  by_cases e:y=k
  ·rw [if_pos e,if_pos (by simp [e])]
  ·rw [if_neg e,W64_id (by omega) (by omega)]
   have ih:=checkL2 ks hn i k hi j b (a++[y]) n (by rw [h];simp) (by simp at hb;omega)
   have e2:(((a++[y]).length:Nat):Int)=(a.length:Int)+1:=by simp
   rw [e2] at ih;rw [ih]
   by_cases hm:k∈b
   ·rw [if_pos hm,if_pos (by simp [hm])]
   ·rw [if_neg hm,if_neg (by simp [hm,Ne.symm e])]
theorem check35_eq (ks:List Txt) (hn:ks.length≤1000) (hk:∀ k∈ks,k.length≤10000):m_limnographref35_Check ks=some (goC [] ks):=by
 unfold m_limnographref35_Check;rw [if_neg (by omega),jn_eq,m_limnographref35_Check_L1_scan _ _ (by omega)];refine scanL_pre (λp q _=>some (goC p q)) (λ_=>rfl) ?_;intro p k q s kk hp hkk;rw [bndS,rseries_eq k (hk k (by rw [← hp];simp)),bndS,goC]
 by_cases he:(serE k).2=0
 ·rw [if_neg (λh=>h he),if_neg (λh=>h he),jn_eq]
  have hi:ks[p.length]?=some k:=by rw [← hp];simp
  have ht:ks.take p.length=[]++p:=by rw [← hp];simp
  have hpl:p.length≤1000:=by have:=congrArg List.length hp;simp at this;omega
  have:=checkL2 ks hn p.length k hi (λ_=>kk ()) p [] fuel ht (by unfold fuel;omega);refine this.trans ?_
  by_cases hm:k∈p
  ·rw [if_pos hm,if_pos hm]
  ·rw [if_neg hm,if_neg hm];exact hkk ()
 ·rw [if_pos he,if_pos he]
theorem looked_eq {k:Txt} (h:OkK k) (hk:k.length≤10000) (key:Txt):m_limnographref35_looked k key=some (match look35 k key with | some v=>(v,true) | none=>([],false)):=by
 obtain ⟨nm,m,g1,g2,g3,g4,g5,g6⟩:=serE_at k h;have hc:=(chk_iff m []).1 g4;unfold m_limnographref35_looked look35 attrs;rw [rseries_eq k hk,bndS,g5,g6]
 by_cases h0:key=[]
 ·subst h0
  rw [if_pos rfl,List.find?_append]
  have:m.find? (λa=>decide (a.Key=[]))=none:=by
   rw [List.find?_eq_none];intro a ha;simpa using nameB_ne (hc.1 a ha).1
  rw [this];rfl
 ·rw [if_neg h0,jn_eq,m_limnographref35_looked_L1_scan _ _ _ (by rw [g5];omega),g5]
  have hlast:([⟨[],nm⟩]:List Pr).find? (λa=>decide (a.Key=key))=none:=by simp [Ne.symm h0]
  rw [List.find?_append,hlast,Option.or_none];refine scanL_pre (λ(_ q:List Pr) (_:Unit)=>some (match (q.find? λa=>decide (a.Key=key)).map (·.Val) with|some v=>(v,true)|none=>([],false))) (λ_=>rfl) ?_;intro p a q s kk hp hkk;rw [bndS,List.find?_cons]
  by_cases e:a.Key=key
  ·rw [if_pos e,bndS,decide_eq_true e];rfl
  ·rw [if_neg e,decide_eq_false e];exact hkk ()
theorem having_eq (ks:List Txt) (hok:∀ k∈ks,OkK k) (hn:ks.length≤1000) (hk:∀ k∈ks,k.length≤10000) (key val:Txt):m_limnographref35_Having ks key val=some (rowF (λk=>decide (look35 k key=some val)) 0 ks):=by
 unfold m_limnographref35_Having;rw [jn_eq,m_limnographref35_Having_L1_scan _ _ _ _ _ (by omega)];refine (scanL_inv (λ(p:List Txt) (s:List Int)=>s=rowF (λk=>decide (look35 k key=some val)) 0 p) (λ_ _ _=>some (rowF (λk=>decide (look35 k key=some val)) 0 ks)) rfl (λs hs=>by rw [hs]) ?_);rintro p k q s kk hp rfl hkk
 have hkm:k∈ks:=by rw [← hp];simp
 have hpl:p.length≤1000:=by have:=congrArg List.length hp;simp at this;omega
 rw [jn_eq,bndS,looked_eq (hok k hkm) (hk k hkm),bndS];have sn:=rowF_snoc (λk=>decide (look35 k key=some val)) k 0 p;rw [Nat.zero_add] at sn;have rl:=rowF_len (λk=>decide (look35 k key=some val)) 0 p
 cases hv:look35 k key with
 | none=>
  dsimp only;rw [if_neg (by simp)];refine hkk _ ?_;rw [sn,hv,if_neg (by simp)];simp
 | some v=>
  dsimp only
  by_cases e:v=val
  ·rw [if_pos ⟨rfl,e⟩,app_some (by simp;omega),bndS]
   refine hkk _ ?_;rw [sn,hv,if_pos (by simp [e])]
  ·rw [if_neg (λh=>e h.2)]
   refine hkk _ ?_;rw [sn,hv,if_neg (by simp [e])];simp
abbrev Ris (l:List Txt):Prop:=Rising (λt:Txt=>t) l
theorem values_eq {x:T_index_Index} {ks:List Txt} (hx:IxOk x ks) (hk:∀ k∈ks,k.length≤10000) (key:Txt):m_limnographref35_Values ks key=some (vals35 x key):=by
 have hn:=hx.len;unfold m_limnographref35_Values;rw [jn_eq,m_limnographref35_Values_L1_scan _ _ _ _ (by omega)];refine scanL_ex (λ(p:List Txt) (s:List Txt)=>Ris s∧s.Nodup∧s.length≤p.length∧∀ v,v∈s↔∃ k∈p,look35 k key=some v) (λr=>r=some (vals35 x key)) ⟨List.Pairwise.nil,List.nodup_nil,Nat.le_refl _,by simp⟩ ?_ ?_
 ·rintro s ⟨h1,h2,h3,h4⟩
  congr 1
  have hnd:((((x.rows.map λp=>p.1).filter λp=>decide (p.Key=key)).map λp=>p.Val)).Nodup:=by
   rw [hx.rows];have hd:=(rowsI_nodup 0 ks [] (by simp)).filter (λp=>decide (p.Key=key));rw [List.nodup_iff_pairwise_ne,List.pairwise_map];refine hd.imp_of_mem ?_;intro a b ha hb hab he;have ka:=of_decide_eq_true (List.mem_filter.1 ha).2;have kb:=of_decide_eq_true (List.mem_filter.1 hb).2
   cases a;cases b
   dsimp only at ka kb he;subst ka kb he;exact hab rfl
  have hp:s.Perm (((x.rows.map λp=>p.1).filter λp=>decide (p.Key=key)).map λp=>p.Val):=by
   refine (List.perm_ext_iff_of_nodup h2 hnd).2 λv=>?_
   rw [h4 v,← hx.vals_mem key v];unfold vals35;rw [List.mem_mergeSort]
  unfold vals35;have h5:s.mergeSort leB=(((x.rows.map λp=>p.1).filter λp=>decide (p.Key=key)).map λp=>p.Val).mergeSort leB:=mergeSort_of_perm hp;show s=List.mergeSort _ leB;rw [← h5];exact (List.mergeSort_of_pairwise (h1.imp λh=>by simpa [leB] using h)).symm
 ·rintro p k q s kk hp ⟨h1,h2,h3,h4⟩ hkk
  have hkm:k∈ks:=by rw [← hp];simp
  have hpl:p.length≤1000:=by have:=congrArg List.length hp;simp at this;omega
  rw [jn_eq,bndS,looked_eq (hx.ok k hkm) (hk k hkm),bndS]
  cases hv:look35 k key with
  | none=>
   dsimp only;rw [if_pos (by decide)];refine hkk _ ⟨h1,h2,by simp;omega,λv=>?_⟩;rw [h4 v]
   constructor
   ·rintro ⟨y,g1,g2⟩;exact ⟨y,by simp [g1],g2⟩
   ·rintro ⟨y,g1,g2⟩
    rcases List.mem_append.1 g1 with g1|g1
    ·exact ⟨y,g1,g2⟩
    ·simp at g1;subst g1;rw [hv] at g2;cases g2
  | some v=>
   dsimp only;rw [if_neg (by decide),jn_eq]
   have same:v∈s→Ris s∧s.Nodup∧s.length≤(p++[k]).length∧∀ u,u∈s↔∃ k'∈p++[k],look35 k' key=some u:=λhm=>⟨h1,h2,by simp;omega,λu=>by
    rw [h4 u]
    constructor
    ·rintro ⟨y,g1,g2⟩;exact ⟨y,by simp [g1],g2⟩
    ·rintro ⟨y,g1,g2⟩
     rcases List.mem_append.1 g1 with g1|g1
     ·exact ⟨y,g1,g2⟩
     ·simp at g1;subst g1
      rw [hv] at g2;injection g2 with g2;subst g2
      exact (h4 v).1 hm⟩
   obtain ⟨c,c1,c2,c3,c4⟩:=back_scan (R:=List Txt) (m_limnographref35_Values_L2 s (v,true) (λ(y24:Int)=>
    (jn (λ(y26:Bool)=>
     (if y26=true then
      (kk s)
      else
      ((cutL s 0 y24).bind λz29=>
       (appL ([]:List (List UInt8)) z29).bind λz33=>
       (appL z33 [v]).bind λz37=>
       (cutL s y24 ((s).length)).bind λz39=>
       (appL z37 z39).bind λz41=>
       kk z41))) λj4=>
     if y24>0 then
     ((idx s (W64 (y24-1))).bind λz44=>
      j4 (decide (z44=v)))
     else
     (j4 false)))) (λ(y24:Int)=>
    (jn (λ(y26:Bool)=>
     (if y26=true then
      (kk s)
      else
      ((cutL s 0 y24).bind λz29=>
       (appL ([]:List (List UInt8)) z29).bind λz33=>
       (appL z33 [v]).bind λz37=>
       (cutL s y24 ((s).length)).bind λz39=>
       (appL z37 z39).bind λz41=>
       kk z41))) λj4=>
     if y24>0 then
     ((idx s (W64 (y24-1))).bind λz44=>
      j4 (decide (z44=v)))
     else
     (j4 false))) (λi=>Op.bytesLess v (s.getD i [])) s.length (by omega) (by
    intro n c hc;rw [m_limnographref35_Values_L2,jn_eq]
    by_cases h0:0<c
    ·rw [if_pos (by omega),W64_id (by omega) (by omega)]
     have e1:(c:Int)-1=((c-1:Nat):Int):=by omega
     have e2:s[c-1]?=some (s.getD (c-1) []):=by rw [List.getD_eq_getElem?_getD,List.getElem?_eq_getElem (by omega)];rfl
     rw [e1,idx_nat,e2,bndS]
     cases hb:Op.bytesLess v (s.getD (c-1) []) with
     | true=>dsimp only;rw [if_pos rfl,if_pos ⟨h0,rfl⟩]
     | false=>dsimp only;rw [if_neg (by decide),if_neg (λh=>by cases h.2)]
    ·rw [if_neg (by omega),if_neg (λh=>h0 h.1)]
     dsimp only
     rw [if_neg (by decide)])
   refine c2.trans ?_;rw [jn_eq]
   have hget:∀ i,(h:i<s.length)→s.getD i []=s[i]:=λi h=>by rw [List.getD_eq_getElem?_getD,List.getElem?_eq_getElem h];rfl
   have hgt:∀ i,c≤i→(h:i<s.length)→v<s[i]:=λi hi h=>by rw [← hget i h];exact bl_iff.1 (c3 i hi h)
   have put:(∀ h:c-1<s.length, 0<c→s[c-1]≠v)→((cutL s 0 (c:Int)).bind λz29 =>
    (appL ([]:List (List UInt8)) z29).bind λz33=>
    (appL z33 [v]).bind λz37=>
    (cutL s (c:Int) ((s).length)).bind λz39=>
    (appL z37 z39).bind λz41=>
    kk z41)=some (vals35 x key):=by
    intro hne;rw [cut_some (by omega) (by omega) (by omega),bndS,app_some (by simp;omega),bndS,app_some (by simp;omega),bndS,cut_some (by omega) (by omega) (by omega),bndS,app_some (by simp;omega),bndS]
    have e1:(([]++((s.take (c:Int).toNat).drop (0:Int).toNat))++[v])++((s.take (s.length:Int).toNat).drop (c:Int).toNat)=s.take c++v::s.drop c:=by simp
    rw [e1]
    have hlt:c=0∨∃ h:c-1<s.length,¬v<s[c-1]:=by
     rcases c4 with h|h
     ·exact .inl h
     ·by_cases h0:c=0
      ·exact .inl h0
      ·refine .inr ⟨by omega,λhh=>?_⟩
       rw [← hget (c-1) (by omega),← bl_iff,h] at hh
       cases hh
    obtain ⟨r1,r2⟩:=Rising.insert (key:=λt:Txt=>t) (x:=v) c1 h1 hgt hlt
    have hnv:v ∉ s:=by
     intro hm;obtain ⟨i,hi,he⟩:=List.getElem_of_mem hm
     rcases Nat.lt_or_ge i c with hic|hic
     ·rcases hlt with h0 | ⟨h5,h6⟩
      ·omega
      ·have h7:s[i]≤s[c-1]:=by
        rcases Nat.lt_or_ge i (c-1) with h8|h8
        ·exact List.pairwise_iff_getElem.1 h1 i (c-1) _ _ h8
        ·have:i=c-1:=by omega
         subst this;exact tle_refl _
       rw [he] at h7;exact hne h5 (by omega) (tle_anti (tnlt h6) h7)
     ·have:=hgt i hic hi
      rw [he] at this;exact tlt_irr v this
    refine hkk _ ⟨r1,r2.nodup_iff.2 (List.nodup_cons.2 ⟨hnv,h2⟩),by rw [r2.length_eq];simp;omega,λu=>?_⟩;rw [r2.mem_iff,List.mem_cons,h4 u]
    constructor
    ·rintro (rfl | ⟨y,g1,g2⟩)
     ·exact ⟨k,by simp,hv⟩
     ·exact ⟨y,by simp [g1],g2⟩
    ·rintro ⟨y,g1,g2⟩
     rcases List.mem_append.1 g1 with g1|g1
     ·exact .inr ⟨y,g1,g2⟩
     ·simp at g1;subst g1
      rw [hv] at g2;injection g2 with g2
      exact .inl g2.symm
   by_cases h0:0<c
   ·have e1:(c:Int)-1=((c-1:Nat):Int):=by omega
    rw [if_pos (by omega),W64_id (by omega) (by omega),e1,idx_nat,List.getElem?_eq_getElem (by omega:c-1<s.length),bndS]
    by_cases he:s[c-1]=v
    ·rw [decide_eq_true he];dsimp only
     rw [if_pos rfl];exact hkk _ (same (by rw [← he];exact List.getElem_mem _))
    ·rw [decide_eq_false he];dsimp only
     rw [if_neg (by decide)]
     exact put λ_ _=>he
   ·rw [if_neg (by omega)];dsimp only
    rw [if_neg (by decide)]
    exact put λ_ h=>absurd h h0
theorem same34_refl (l:List Txt) (h:l.length≤1000000):m_limnographref34_Same l l=some true:=by
 unfold m_limnographref34_Same;rw [if_neg (by simp),jn_eq,m_limnographref34_Same_L1_scan _ _ _ (by omega)];refine (scanL_pre (λ_ _ _=>some true) (λ_=>rfl) ?_);intro p x q s k hp hk
 have hi:idx l (p.length:Int)=some x:=by rw [← hp];exact idx_mid p x q
 rw [bndS,hi,bndS,if_neg (λh=>h rfl)];exact hk ()
theorem new_law (x0:List Txt) (x1:Int) (x2 x3:Txt):m_limnographlaw35_IndexNew x0 x1 x2 x3=some true:=by
 unfold m_limnographlaw35_IndexNew;rw [awake_eq,bndS,if_neg (by decide),fewK_eq _ _ (by omega),bndS]
 by_cases hlen:(((!fewK x0 40)=true)∨((x2.length:Int)>100))∨((x3.length:Int)>100)
 ·rw [if_pos hlen]
 rw [if_neg hlen]
 have hK:fewK x0 40=true:=by
  cases h:fewK x0 40 with
  | true=>rfl
  | false=>exact (hlen (.inl (.inl (by rw [h];rfl)))).elim
 unfold fewK at hK;rw [Bool.and_eq_true,decide_eq_true_iff] at hK
 have hks:∀ k∈x0,k.length≤10000:=λk hk=>by
  have:=of_decide_eq_true (List.all_eq_true.1 hK.2 k hk);omega
 have hn:x0.length≤1000:=by omega
 rw [new_eq x0 hn hks,bndS,check35_eq x0 hn hks,bndS,← goN_snd x0 [] [],jn_eq,if_neg (λh=>h.elim (λh=>h rfl) (λh=>h rfl)),goN_isNone];dsimp only;rw [if_neg (by simp),← goN_isNone]
 cases hg:(goN [] x0 []).1 with
 | none=>rfl
 | some x=>
 rw [if_neg (by simp),jn_eq];have hx:IxOk x x0:=IxOk.of (a:=(goN [] x0 []).2.1) (e:=(goN [] x0 []).2.2) hn (by rw [← hg])
 have go:∀ w:Txt, m_index_Index_Key x x1=some w→(λ(y30:(List UInt8)) =>
  ((some x).bind λz33=>
   (m_index_Index_Len z33).bind λp32=>
   jn (λ(y37:Bool)=>
    (if y37=true then
     (some false)
     else
     ((m_index_Index_Having z33 x2 x3).bind λp40=>
      (m_limnographref35_Having x0 x2 x3).bind λp43=>
      (m_limnographref35_Same p40 p43).bind λp46=>
      jn (λ(y49:Bool)=>
       (some y49)) λj4=>
      if p46=true then
      ((m_index_Index_Values z33 x2).bind λp52=>
       (m_limnographref35_Values x0 x2).bind λp55=>
       (m_limnographref34_Same p52 p55).bind λp58=>
       j4 p58)
      else
      (j4 false)))) λj3=>
   if p32≠(x0.length:Int) then
   (j3 true)
   else
   ((m_index_Index_Key z33 x1).bind λp61=>
    j3 (decide (p61≠y30))))) w=some true:=by
  intro w hw;dsimp only;rw [bndS];unfold m_index_Index_Len;rw [bndS,jn_eq,hx.keys,if_neg (λh=>h rfl),hw,bndS,decide_eq_false (λh=>h rfl)];dsimp only;rw [if_neg (by decide)];unfold m_index_Index_Having m_slices_Clone_int_int;have rl:=rowF_len (λk=>decide (look35 k x2=some x3)) 0 x0;rw [hx.look,app_some (by simp;omega),bndS,bndS,having_eq x0 hx.ok hn hks,bndS,List.nil_append,same_refl _ (by omega),bndS,jn_eq,if_pos rfl,hx.vals,bndS,values_eq hx hks,bndS,same34_refl _ (by have:=hx.vals_len x2;omega),bndS]
 unfold m_index_Index_Key at go;rw [jn_eq,hx.keys] at go
 by_cases hi:(x1≥0)∧(x1<(x0.length:Int))
 ·obtain ⟨w,hw⟩:=idx_lt hi.1 hi.2
  rw [if_pos hi,hw,bndS];refine go w ?_;rw [if_neg (by omega),decide_eq_false (by omega)];dsimp only;rw [if_neg (by decide),hw,bndS]
 ·rw [if_neg hi]
  refine go [] ?_
  by_cases h0:x1<0
  ·rw [if_pos h0];dsimp only;rw [if_pos rfl]
  ·rw [if_neg h0,decide_eq_true (by omega)];dsimp only;rw [if_pos rfl]
end Go.Proofs.YtpcpfjpcfcbopaaGreatDoor
