import Derived.Test.YtaikmpmokihciaaGreatNC
import Derived.Sort.Walk0
import Derived.Test.YtaikmpmokihciaaGreatVC2
set_option maxRecDepth 20000
set_option linter.unusedVariables false
set_option linter.unusedSimpArgs false
namespace Go.Proofs.YtaikmpmokihciaaGreat
open Go Go.RowKit Go.Wk
def rowB (v:Nat):Nat→List Bool
 | 0=>[]
 | n+1=>rowB (v/2) n++[v%2==1]
theorem toU8_nat (n:Nat):toU8 (n:Int)=UInt8.ofNat (n%256):=by unfold toU8;congr 1
def zig (x:Int):UInt64:=UInt64.ofNat (if 0≤x then 2*x.toNat else 2*(-1-x).toNat+1)
def szN (c:Nat):Nat:=if c=0 then 0 else if c=1 then 7 else if c=2 then 20 else 64
def clsN (v:Nat):Nat:=if v<1 then 0 else if v<128 then 1 else if v<1048576 then 2 else 3
def smB (v:Nat):List Bool:=rowB (clsN v) 2++rowB v (szN (clsN v))
theorem ofNat_nat {n:Nat} (h:n<18446744073709551616):(UInt64.ofNat n).toNat=n:=by rw [UInt64.toNat_ofNat'];exact Nat.mod_eq_of_lt h
def sI (u:UInt64):Int:=if u.toNat<9223372036854775808 then (u.toNat:Int) else (u.toNat:Int)-18446744073709551616
def sumN (l:List UInt64):Nat:=(l.map UInt64.toNat).sum
theorem sumN_cons (x:UInt64) (l:List UInt64):sumN (x::l)=x.toNat+sumN l:=by simp [sumN]
theorem or_zero (a b:UInt64):a|||b=0↔a=0∧b=0:=by
 constructor
 ·intro h
  have h1:(a|||b).toNat=0:=by rw [h];rfl
  rw [UInt64.toNat_or] at h1;have:=Nat.or_eq_zero_iff.1 h1;exact ⟨UInt64.toNat_inj.1 this.1,UInt64.toNat_inj.1 this.2⟩
 ·rintro ⟨rfl,rfl⟩;rfl
theorem tot_fold (l:List UInt64):∀ (a b:UInt64),((l.foldl (λ(s:UInt64×UInt64) x=>(s.1+x,s.2|||cry s.1 x)) (a,b)).1.toNat=(a.toNat+sumN l)%2^64) ∧
 ((l.foldl (λ(s:UInt64×UInt64) x=>(s.1+x,s.2|||cry s.1 x)) (a,b)).2=0↔b=0∧a.toNat+sumN l<2^64):=by
 induction l with
 | nil=>intro a b;have:=a.toNat_lt;simp [sumN];omega
 | cons x l ih=>
  intro a b;have ha:=a.toNat_lt;have hx:=x.toNat_lt;obtain ⟨h1,h2⟩:=ih (a+x) (b|||cry a x);rw [List.foldl_cons];dsimp only;rw [h1,h2,or_zero,sumN_cons];have e:(a+x).toNat=(a.toNat+x.toNat)%2^64:=UInt64.toNat_add a x
  constructor
  ·rw [e];omega
  ·unfold cry
   by_cases hc:18446744073709551616≤a.toNat+x.toNat
   ·rw [if_pos hc]
    constructor
    ·rintro ⟨⟨_,h⟩,_⟩;exact absurd h (by decide)
    ·rintro ⟨_,h⟩;omega
   ·rw [if_neg hc,e]
    constructor
    ·rintro ⟨⟨h,_⟩,k⟩;exact ⟨h,by omega⟩
    ·rintro ⟨h,k⟩;exact ⟨⟨h,rfl⟩,by omega⟩
def totN (h:T_api_Hist):Nat:=h.Zero.toNat+sumN h.Pos.Counts+sumN h.Neg.Counts
def totE (h:T_api_Hist):UInt64×Bool:=if totN h<2^64 then (UInt64.ofNat (totN h),true) else (0,false)
theorem Total_eq (h:T_api_Hist) (h1:h.Pos.Counts.length≤1000000) (h2:h.Neg.Counts.length≤1000000):m_hist_Total h=some (totE h):=by
 have hL2:∀ (z:T_api_Side) (j:UInt64→UInt64→Option (UInt64×Bool)) (a b:UInt64),z.Counts.length≤1000000→m_hist_Total_L2 z j fuel a b 0=j (z.Counts.foldl (λ(s:UInt64×UInt64) x=>(s.1+x,s.2|||cry s.1 x)) (a,b)).1 (z.Counts.foldl (λ(s:UInt64×UInt64) x=>(s.1+x,s.2|||cry s.1 x)) (a,b)).2:=by
  intro z j a b h;rw [m_hist_Total_L2_scan _ _ _ _ (by omega),scanL_fold (λ(s:UInt64×UInt64) x=>(s.1+x,s.2|||cry s.1 x)) (λi x s k _=>by rw [bndS])]
 unfold m_hist_Total m_hist_sides;rw [bndS,jn_eq];obtain ⟨m,hm⟩:=fuelS 3 (by omega)
 rw [show m_hist_Total_L1 { a0:=h.Pos,a1:=h.Neg } _ fuel _ _ _=m_hist_Total_L1 { a0:=h.Pos,a1:=h.Neg } _ (m+3) _ _ _ by rw [← hm],m_hist_Total_L1,if_pos (by omega),show idx [h.Pos,h.Neg] 0=some h.Pos from rfl,bndS,jn_eq,hL2 _ _ _ _ h1,W64_id (by omega) (by omega),show (0:Int)+1=1 from rfl,
  m_hist_Total_L1,if_pos (by omega),show idx [h.Pos,h.Neg] 1=some h.Neg from rfl,bndS,jn_eq,hL2 _ _ _ _ h2,W64_id (by omega) (by omega),show (1:Int)+1=2 from rfl,m_hist_Total_L1,if_neg (by omega)]
 obtain ⟨p1,p2⟩:=tot_fold h.Pos.Counts h.Zero 0;generalize h.Pos.Counts.foldl (λ(s:UInt64×UInt64) x=>(s.1+x,s.2|||cry s.1 x)) (h.Zero,0)=P at *;obtain ⟨q1,q2⟩:=tot_fold h.Neg.Counts P.1 P.2;generalize h.Neg.Counts.foldl (λ(s:UInt64×UInt64) x=>(s.1+x,s.2|||cry s.1 x)) (P.1,P.2)=Q at *;unfold totE totN
 by_cases hq:Q.2=0
 ·obtain ⟨a1,a2⟩:=q2.1 hq
  obtain ⟨_,a3⟩:=p2.1 a1;rw [if_neg (by rw [hq];decide),if_pos (by omega)]
  have:Q.1=UInt64.ofNat (h.Zero.toNat+sumN h.Pos.Counts+sumN h.Neg.Counts):=by
   apply UInt64.toNat_inj.1
   rw [q1,ofNat_nat (by omega)];omega
  rw [this]
 ·have hq':Q.2.toNat≠0:=λh=>hq (UInt64.toNat_inj.1 h)
  rw [if_pos (by omega),if_neg];intro h
  apply hq
  rw [q2];exact ⟨p2.2 ⟨rfl,by omega⟩,by omega⟩
def sdE (s:T_api_Side):Int:=
 if s.Counts.length>160 then 4
 else if s.Counts=[] then (if s.Offset≠0 then 3 else 0)
 else if s.Counts.headD 0=0∨s.Counts.getLastD 0=0 then 3
 else if s.Offset < -1073741824∨s.Offset+s.Counts.length-1>1073741824 then 1 else 0
theorem u64z' (x:UInt64):((x.toNat:Nat):Int)=0↔x=0:=by
 constructor
 ·intro h;apply UInt64.toNat_inj.1;show x.toNat=0;omega
 ·rintro rfl;rfl
theorem ends {l:List UInt64} (h:l≠[]) (hl:l.length≤1000000):idx l 0=some (l.headD 0)∧idx l (W64 ((l.length:Int)-1))=some (l.getLastD 0):=by
 have h0:0<l.length:=List.length_pos_iff.2 h
 constructor
 ·cases l with
  | nil=>exact absurd rfl h
  | cons a t=>rfl
 ·rw [W64_id (by omega) (by omega),show (l.length:Int)-1=((l.length-1:Nat):Int) by omega,idx_nat,← List.getLast?_eq_getElem?,List.getLast?_eq_some_getLast h]
  cases l with
  | nil=>exact absurd rfl h
  | cons a t=>rw [List.getLastD_cons,List.getLast_eq_getLastD]
theorem scheck_eq (s:T_api_Side):m_hist_check s=some (sdE s):=by
 unfold m_hist_check sdE
 by_cases h1:s.Counts.length>160
 ·rw [if_pos (by omega),if_pos h1]
 rw [if_neg (by omega),if_neg h1]
 by_cases h2:s.Counts=[]
 ·rw [if_pos h2,h2]
  by_cases h3:s.Offset≠0
  ·rw [if_pos ⟨rfl,h3⟩,if_pos h3]
  ·rw [if_neg (λh=>h3 h.2),if_pos (by rfl),if_neg h3]
 have h0:0<s.Counts.length:=List.length_pos_iff.2 h2;obtain ⟨e1,e2⟩:=ends h2 (by omega);rw [if_neg (by omega),if_neg (by omega),if_neg h2,e1,bndS];simp only [jn_eq]
 by_cases h3:s.Counts.headD 0=0
 ·rw [if_pos ((u64z' _).2 h3),if_pos (by trivial),if_pos (Or.inl h3)]
 rw [if_neg (λh=>h3 ((u64z' _).1 h)),e2,bndS]
 by_cases h4:s.Counts.getLastD 0=0
 ·rw [if_pos (decide_eq_true ((u64z' _).2 h4)),if_pos (Or.inr h4)]
 rw [if_neg (by rw [decide_eq_false (λh=>h4 ((u64z' _).1 h))];decide),if_neg (show ¬(s.Counts.headD 0=0∨s.Counts.getLastD 0=0) from λh=>h.elim h3 h4),W64_id (z:=(s.Counts.length:Int)-1) (by omega) (by omega),W64_id (by omega) (by omega)]
 by_cases h5:s.Offset < -1073741824
 ·rw [if_pos h5,if_pos (by trivial),if_pos (Or.inl h5)]
 rw [if_neg h5]
 by_cases h6:s.Offset>1073741824-((s.Counts.length:Int)-1)
 ·rw [if_pos (decide_eq_true h6),if_pos (by omega)]
 ·rw [if_neg (by rw [decide_eq_false h6];decide),if_neg (by omega)]
def hcE (h:T_api_Hist):Int:=
 if h.Scale < -10∨h.Scale>20 then 1 else if sdE h.Pos≠0 then sdE h.Pos else if sdE h.Neg≠0 then sdE h.Neg else if totN h<2^64 then 0 else 4
theorem HCheck_eq (h:T_api_Hist) (h1:h.Pos.Counts.length≤1000000) (h2:h.Neg.Counts.length≤1000000):m_hist_Check h=some (hcE h):=by
 unfold m_hist_Check m_hist_sides hcE
 by_cases hs:h.Scale < -10∨h.Scale>20
 ·rw [if_pos hs,if_pos hs]
 rw [if_neg hs,if_neg hs,bndS,jn_eq];obtain ⟨m,hm⟩:=fuelS 3 (by omega);rw [hm,m_hist_Check_L1,if_pos (by omega),show idx [h.Pos,h.Neg] 0=some h.Pos from rfl,bndS,scheck_eq,bndS]
 by_cases c1:sdE h.Pos≠0
 ·rw [if_pos c1,if_pos c1]
 rw [if_neg c1,if_neg c1,W64_id (by omega) (by omega),show (0:Int)+1=1 from rfl,m_hist_Check_L1,if_pos (by omega),show idx [h.Pos,h.Neg] 1=some h.Neg from rfl,bndS,scheck_eq,bndS]
 by_cases c2:sdE h.Neg≠0
 ·rw [if_pos c2,if_pos c2]
 rw [if_neg c2,if_neg c2,W64_id (by omega) (by omega),show (1:Int)+1=2 from rfl,m_hist_Check_L1,if_neg (by omega),Total_eq h h1 h2,bndS];unfold totE
 by_cases ht:totN h<2^64
 ·rw [if_pos ht,if_pos ht,if_neg (by simp)]
 ·rw [if_neg ht,if_neg ht,if_pos (by simp)]
def alike (a b:T_api_Hist):Prop:=a.Scale=b.Scale∧a.Pos.Offset=b.Pos.Offset∧a.Neg.Offset=b.Neg.Offset∧a.Pos.Counts.length=b.Pos.Counts.length∧a.Neg.Counts.length=b.Neg.Counts.length
instance (a b:T_api_Hist):Decidable (alike a b):=by unfold alike;exact inferInstance
def allC (h:T_api_Hist):List UInt64:=h.Zero::(h.Pos.Counts++h.Neg.Counts)
def smS (l:List UInt64):List Bool:=l.flatMap λc=>smB c.toNat
def dfS (l m:List UInt64):List Bool:=(l.zip m).flatMap λc=>smB (zig (sI (c.1-c.2))).toNat
def shB (s:T_api_Side):List Bool:=rowB s.Counts.length 8++if s.Counts.length>0 then smB (zig s.Offset).toNat else []
def fullH (h:T_api_Hist):List Bool:=false::(rowB (h.Scale+10).toNat 5++(shB h.Pos++(shB h.Neg++smS (allC h))))
def hB (n:Nat) (last h:T_api_Hist):List Bool:=if 0<n∧alike last h then true::dfS (allC h) (allC last) else fullH h
theorem hclone_eq (h:T_api_Hist) (h1:h.Pos.Counts.length≤1000000) (h2:h.Neg.Counts.length≤1000000):m_hist_Clone h=some h:=by
 unfold m_hist_Clone m_slices_Clone_uint64_uint64;simp only [app_some (show ([]:List UInt64).length+h.Pos.Counts.length≤1073741824 by simp;omega),app_some (show ([]:List UInt64).length+h.Neg.Counts.length≤1073741824 by simp;omega),bndS,List.nil_append]
abbrev Txt:=List UInt8
abbrev Pr:=T_api_Pair
def small (c:UInt8):Bool:=decide (97≤c.toNat)&&decide (c.toNat≤122)
def nmC (c:UInt8):Bool:=small c||(decide (48≤c.toNat)&&decide (c.toNat≤57))||decide (c.toNat=95)||decide (c.toNat=46)
def nameB (s:Txt):Bool:=decide (s.length≤32)&&match s with | []=>false | c::t=>small c&&t.all nmC
def valC (c:UInt8):Bool:=decide (33≤c.toNat)&&decide (c.toNat≤126)&&decide (c.toNat≠61)&&decide (c.toNat≠59)&&decide (c.toNat≠44)
def valB (s:Txt):Bool:=decide (s.length≤32)&&decide (1≤s.length)&&s.all valC
theorem small_eq (c:UInt8):m_label_small c=some (small c):=by unfold m_label_small small;rw [← Bool.decide_and];congr 1;apply decide_eq_decide.2;omega
theorem isName_eq (s:Txt):m_label_isName s=some (nameB s):=by
 unfold m_label_isName;simp only [jn_eq]
 split
 ·rename_i h;rcases h with rfl | h<;>simp [nameB];omega
 ·rename_i h
  match s,h with
  | c::t,h=>
   simp only [not_or] at h;have hb:=h.2;rw [idx0,bndS,small_eq,bndS,len_some (by omega),bndS,m_label_isName_L1_scan _ _ (by omega),scanL_all nmC (some false)]
   ·have:(c::t).length≤32:=by omega
    have hn:small c=true→nmC c=true:=λh=>by simp [nmC,h]
    unfold nameB
    cases hc:small c<;>simp_all
    split<;>simp_all
   ·intro i x k _
    rw [bndS,small_eq,bndS]
    refine ite_neg ?_ (λ_=>rfl) λ_=>rfl
    simp [nmC];grind
theorem isValue_eq (s:Txt):m_label_isValue s=some (valB s):=by
 unfold m_label_isValue;simp only [jn_eq]
 split
 ·rename_i h;rcases h with rfl | h<;>simp [valB];omega
 ·rename_i h
  simp only [not_or] at h;have hb:=h.2;have:=List.length_pos_iff.2 h.1;rw [len_some (by omega),bndS,m_label_isValue_L1_scan _ _ (by omega),scanL_all valC (some false)]
  ·unfold valB;split<;>simp_all<;>omega
  ·intro i x k _
   simp only [bndS,jn_eq,valC]
   grind
def chk:List Pr→List Pr→Int
 | _,[]=>0
 | p,a::l=>if (nameB a.Key&&valB a.Val)=true then (if p.any (λb=>decide (b.Key=a.Key))=true then 8 else chk (p++[a]) l) else 3
def check (name:Txt) (l:List Pr):Int:=if nameB name=true then (if l.length>4 then 4 else chk [] l) else 3
theorem contains_eq (l:List Pr) (a:Pr) (h:l.length<4611686018427387904):m_slices_ContainsFunc_api_Pair_api_Pair_s2 l a=some (l.any λb=>decide (b.Key=a.Key)):=by
 unfold m_slices_ContainsFunc_api_Pair_api_Pair_s2 m_slices_IndexFunc_api_Pair_api_Pair_s1;rw [jn_eq,m_slices_IndexFunc_api_Pair_api_Pair_s1_L1_scan _ _ _ h];rw [scanL_pre (λp q _=>some (if q.any (λb=>decide (b.Key=a.Key))=true then ((p.length+q.findIdx λb=>decide (b.Key=a.Key):Nat):Int) else -1)) ?_ ?_]
 ·cases h:l.any (λb=>decide (b.Key=a.Key))<;>simp [bndS]
 ·intro s;rfl
 ·intro p x q _ k _ hk
  simp only [bndS,m_label_Check_1,hk]
  by_cases hx:x.Key=a.Key
  ·simp [hx,List.findIdx_cons]
  ·simp [hx,List.findIdx_cons];congr 1;omega
theorem check_eq (name:Txt) (l:List Pr):m_label_Check name l=some (check name l):=by
 unfold m_label_Check check;rw [isName_eq,bndS]
 by_cases hn:nameB name=true
 ·rw [hn,if_neg (by simp),if_pos rfl]
  by_cases hl:l.length>4
  ·rw [if_pos (by omega),if_pos hl]
  rw [if_neg (by omega),if_neg hl,jn_eq,m_label_Check_L1_scan _ _ (by omega)];refine scanL_pre (λp q _=>some (chk p q)) (λ_=>rfl) ?_;intro p x q _ k hp hk;subst hp;simp only [bndS,isName_eq,isValue_eq,jn_eq,cut_mid,contains_eq p x (by simp at hl;omega),hk,chk]
  cases nameB x.Key<;>cases valB x.Val<;>simp
  split<;>rfl
 ·simp at hn
  rw [hn];rfl
def insR (a:Pr):List Pr→List Pr
 | []=>[a]
 | b::l=>if Op.bytesLess a.Key b.Key=true then b::insR a l else a::b::l
def srt (l:List Pr):List Pr:=(l.foldl (λacc a=>insR a acc) []).reverse
theorem setI_mid {α:Type} {p:List α} {x y:α} {q:List α} {i:Int} (h:i=p.length):setI (p++x::q) i y=p++y::q:=by subst h;simp [setI]
theorem sorted1_eq (a b:Pr):m_label_Sorted_1 a b=some (if Op.bytesLess a.Key b.Key=true then -1 else if Op.bytesLess b.Key a.Key=true then 1 else 0):=by
 simp [m_label_Sorted_1,m_cmp_Compare_string,m_cmp_isNaN_string];grind
theorem insL2 (j:List Pr→Option (List Pr)) (x:Pr):∀ (pre rest:List Pr) (n:Nat),pre.length<n→pre.length<4611686018427387904 →
 m_slices_insertionSortCmpFunc_api_Pair_s2_L2 0 j n (pre.reverse++x::rest) (pre.length:Int)=j ((insR x pre).reverse++rest)
 | [],rest,n,h,_=>by
  obtain ⟨n,rfl⟩:∃ m,n=m+1:=⟨n-1,by omega⟩;rw [m_slices_insertionSortCmpFunc_api_Pair_s2_L2,jn_eq,if_neg (by simp)];rfl
 | b::pre,rest,n,h,hb=>by
  obtain ⟨n,rfl⟩:∃ m,n=m+1:=⟨n-1,by omega⟩;simp only [List.length_cons] at h hb
  have e1:(b::pre).reverse++x::rest=(pre.reverse++[b])++x::rest:=by simp
  have e2:(b::pre).reverse++x::rest=pre.reverse++b::(x::rest):=by simp
  have e3:pre.reverse++b::b::rest=(pre.reverse++[b])++b::rest:=by simp
  have i1:idx ((b::pre).reverse++x::rest) ((b::pre).length:Int)=some x:=by rw [e1];exact idx_mid' (by simp)
  have w1:W64 (((b::pre).length:Int)-1)=(pre.length:Int):=by rw [List.length_cons,W64_id (by omega) (by omega)];omega
  have i2:idx ((b::pre).reverse++x::rest) (pre.length:Int)=some b:=by rw [e2];exact idx_mid' (by simp)
  rw [m_slices_insertionSortCmpFunc_api_Pair_s2_L2,jn_eq,if_pos (by simp only [List.length_cons];omega),i1,bndS,w1,i2,bndS,sorted1_eq,bndS,bndS,bndS]
  have s1:setI ((b::pre).reverse++x::rest) ((b::pre).length:Int) b=pre.reverse++b::b::rest:=by rw [e1,setI_mid (by simp)];simp
  rw [s1,idx_mid' (by simp),bndS,setI_mid (by simp),show pre.reverse++x::b::rest=pre.reverse++x::(b::rest) from rfl,insL2 j x pre (b::rest) n (by omega) (by omega)];rw [insR]
  by_cases hx:Op.bytesLess x.Key b.Key=true
  ·simp [hx]
  ·simp [hx];grind
theorem insL1 (j:List Pr→Option (List Pr)) (N:Nat) (hN:N<4611686018427387904):∀ (q p:List Pr) (n:Nat),q.length<n→p.length+q.length=N →
 m_slices_insertionSortCmpFunc_api_Pair_s2_L1 0 N j n (p.reverse++q) (p.length:Int)=j (q.foldl (λacc a=>insR a acc) p).reverse
 | [],p,n,h,hl=>by
  obtain ⟨n,rfl⟩:∃ m,n=m+1:=⟨n-1,by omega⟩;rw [m_slices_insertionSortCmpFunc_api_Pair_s2_L1,if_neg (by simp at hl;omega)];simp
 | x::q,p,n,h,hl=>by
  obtain ⟨n,rfl⟩:∃ m,n=m+1:=⟨n-1,by omega⟩;simp only [List.length_cons] at h hl
  have hlen:∀ p:List Pr,(insR x p).length=p.length+1:=by
   intro p
   induction p with
   | nil=>rfl
   | cons b p ih=>unfold insR;split<;>simp [ih]
  rw [m_slices_insertionSortCmpFunc_api_Pair_s2_L1,if_pos (by omega),jn_eq,insL2 _ x p q _ (by unfold fuel;omega) (by omega)];have:=insL1 j N hN q (insR x p) n (by omega) (by rw [hlen];omega);rw [hlen] at this;rw [W64_up (by omega),this,List.foldl_cons]
theorem insSort_eq (l:List Pr) (h:l.length<4611686018427387904):m_slices_insertionSortCmpFunc_api_Pair_s2 l 0 l.length=some (srt l):=by
 unfold m_slices_insertionSortCmpFunc_api_Pair_s2;rw [jn_eq,show W64 (0+1)=1 by decide]
 match l with
 | []=>rfl
 | x::l=>exact insL1 some (x::l).length h l [x] fuel (by unfold fuel;simp at h;omega) (by simp;omega)
theorem insR_len (x:Pr):∀ p:List Pr,(insR x p).length=p.length+1
 | []=>rfl
 | b::p=>by unfold insR;split<;>simp [insR_len x p]
theorem srt_len (l:List Pr):(srt l).length=l.length:=by
 have:∀ (l p:List Pr),(l.foldl (λacc a=>insR a acc) p).length=p.length+l.length:=by
  intro l
  induction l with
  | nil=>intro p;rfl
  | cons x l ih=>intro p;rw [List.foldl_cons,ih,insR_len,List.length_cons];omega
 unfold srt;rw [List.length_reverse,this];simp
theorem stable_eq (l:List Pr) (h:l.length≤20):m_slices_stableCmpFunc_api_Pair_s1 l l.length=some (srt l):=by
 obtain ⟨F,hF⟩:∃ m,fuel=m+2:=fuelS 2 (by omega);unfold m_slices_stableCmpFunc_api_Pair_s1;simp only [jn_eq];rw [hF,m_slices_stableCmpFunc_api_Pair_s1_L3]
 by_cases h20:l.length=20
 ·rw [if_pos (by omega),show (20:Int)=(l.length:Int) by omega,insSort_eq l (by omega),bndS,m_slices_stableCmpFunc_api_Pair_s1_L3,if_neg (by rw [W64_id (by omega) (by omega)];omega)]
  rw [m_slices_insertionSortCmpFunc_api_Pair_s2,jn_eq];rw [hF,m_slices_insertionSortCmpFunc_api_Pair_s2_L1,if_neg (by rw [W64_id (by omega) (by omega)];omega),bndS,m_slices_stableCmpFunc_api_Pair_s1_L1,if_neg (by omega)]
 ·rw [if_neg (by omega),insSort_eq l (by omega),bndS,m_slices_stableCmpFunc_api_Pair_s1_L1,if_neg (by omega)]
theorem sorted_eq (l:List Pr) (h:l.length≤20):m_label_Sorted l=some (srt l):=by
 unfold m_label_Sorted m_slices_Clone_api_Pair_api_Pair m_slices_SortStableFunc_api_Pair_api_Pair_s1;rw [app_some (by simp;omega),bndS,List.nil_append,stable_eq l h];rfl
theorem refL2 (x0:List Pr) (y:Int) (a:Pr) (ha:idx x0 y=some a) (j:Int→Option (List Pr)) (post:List Pr):∀ (pre:List Pr) (n:Nat),pre.length<n→pre.length<4611686018427387904 →
 m_limnographref11_Sorted_L2 x0 (pre.reverse++post) y j n (pre.length:Int)=j ((pre.dropWhile λb=>Op.bytesLess a.Key b.Key).length:Nat)
 | [],n,h,_=>by
  obtain ⟨n,rfl⟩:∃ m,n=m+1:=⟨n-1,by omega⟩;rw [m_limnographref11_Sorted_L2,jn_eq,if_neg (by simp)];rfl
 | b::pre,n,h,hb=>by
  obtain ⟨n,rfl⟩:∃ m,n=m+1:=⟨n-1,by omega⟩;simp only [List.length_cons] at h hb
  have w1:W64 (((b::pre).length:Int)-1)=(pre.length:Int):=by rw [List.length_cons,W64_id (by omega) (by omega)];omega
  have e2:(b::pre).reverse++post=pre.reverse++b::post:=by simp
  rw [m_limnographref11_Sorted_L2,jn_eq,if_pos (by simp only [List.length_cons];omega),w1,e2,idx_mid' (by simp),bndS,ha,bndS];dsimp only
  by_cases hx:Op.bytesLess a.Key b.Key=true
  ·rw [if_pos hx,List.dropWhile_cons,if_pos hx]
   have:=refL2 x0 y a ha j (b::post) pre n (by omega) (by omega);simpa using this
  ·rw [if_neg hx,List.dropWhile_cons,if_neg hx]
theorem insR_split (a:Pr) (p:List Pr):insR a p=(p.takeWhile λb=>Op.bytesLess a.Key b.Key)++a::(p.dropWhile λb=>Op.bytesLess a.Key b.Key):=by
 induction p with
 | nil=>rfl
 | cons b p ih=>unfold insR;split<;>simp_all
theorem refSorted_eq (l:List Pr) (h:l.length≤1048576):m_limnographref11_Sorted l=some (srt l):=by
 unfold m_limnographref11_Sorted;rw [jn_eq,m_limnographref11_Sorted_L1_scan _ _ _ (by omega)];rw [scanL_inv (λp s=>s.length=p.length) (λ_ q s=>some (q.foldl (λacc a=>insR a acc) s.reverse).reverse) rfl (λs _=>by simp)]
 ·rfl
 ·intro p x q s k hp hs hk
  subst hp;have hx:idx (p++x::q) (p.length:Int)=some x:=idx_mid p x q;have hr:=refL2 (p++x::q) (p.length:Int) x hx;obtain ⟨pre,rfl⟩:∃ pre,s=pre.reverse:=⟨s.reverse,by simp⟩
  have hr:=λj=>hr j [] pre fuel (by unfold fuel;simp at hs h;omega) (by simp at hs h;omega)
  simp only [List.append_nil] at hr;rw [jn_eq,List.length_reverse,hr];have hd:pre=(pre.takeWhile λb=>Op.bytesLess x.Key b.Key)++(pre.dropWhile λb=>Op.bytesLess x.Key b.Key):=(List.takeWhile_append_dropWhile ..).symm;have hsp:=insR_split x pre;generalize (pre.takeWhile λb=>Op.bytesLess x.Key b.Key)=u at hd hsp;generalize (pre.dropWhile λb=>Op.bytesLess x.Key b.Key)=v at hd hsp
  have hl:u.length+v.length≤1048576:=by
   have:=congrArg List.length hd;simp at this hs h;omega
  have e1:pre.reverse=v.reverse++u.reverse:=by rw [hd];simp
  have c1:cutL pre.reverse 0 (v.length:Int)=some v.reverse:=by rw [e1];have:=cut_mid v.reverse u.reverse;simpa using this
  have c2:cutL pre.reverse (v.length:Int) (pre.length:Nat)=some u.reverse:=by rw [e1,show pre.length=(v.reverse++u.reverse).length by rw [hd];simp;omega];have:=cut_end v.reverse u.reverse;rw [List.length_reverse] at this;exact this
  rw [c1,bndS,app_some (by simp;omega),bndS,bndS,app_some (by simp;omega),bndS,c2,bndS,app_some (by simp;omega),bndS,hk]
  ·rw [List.foldl_cons];simp [hsp]
  ·have:=congrArg List.length hd;simp at this hs ⊢;omega
def light (l:List Pr):Bool:=decide (l.length≤20)&&l.all λa=>decide (a.Key.length≤100)&&decide (a.Val.length≤100)
theorem light_eq (l:List Pr):m_limnographref11_Light l=some (light l):=by
 unfold m_limnographref11_Light light
 by_cases h:l.length≤20
 ·rw [if_neg (by omega),jn_eq,m_limnographref11_Light_L1_scan _ _ (by omega),scanL_all (λa=>decide (a.Key.length≤100)&&decide (a.Val.length≤100)) (some false)]
  ·simp [h];grind
  ·intro i x k _
   simp only [jn_eq,bndS]
   grind
 ·rw [if_pos (by omega)];simp [h]
def at1 (a:Pr):Txt:=[59]++a.Key++[61]++a.Val
def texts (l:List Pr):Txt:=l.flatMap at1
theorem texts_cons (a:Pr) (l:List Pr):texts (a::l)=at1 a++texts l:=by simp [texts]
theorem at1_len (a:Pr):(at1 a).length=a.Key.length+a.Val.length+2:=by simp [at1];omega
theorem textL (l:List Pr) (h:l.length≤4) (hs:∀ a∈l,a.Key.length≤32∧a.Val.length≤32) (s:Txt) (hs0:s.length≤1000) (j:Txt→Option (Txt×Int)) (hj:∀ s,j s=some (s,0)) :
 m_label_Text_L1 l j fuel 0 s=some (s++texts l,0):=by
 rw [m_label_Text_L1_scan _ _ _ (by omega)];refine scanL_inv (λp t=>t.length≤1000+66*p.length) (λ_ q t=>some (t++texts q,0)) (by simp;omega) (λs _=>by simp [hj,texts]) ?_;intro p x q t k hp ht hk;have hx:=hs x (by simp [← hp])
 have hpl:p.length≤4:=by rw [← hp] at h;simp at h;omega
 rw [bndS,cat_some (by simp;omega),bndS,cat_some (by simp;omega),bndS,cat_some (by simp;omega),bndS,app_some (by simp;omega),bndS,hk]
 ·rw [texts_cons];simp [at1]
 ·simp;omega
theorem nameB_len {s:Txt} (h:nameB s=true):s.length≤32:=by unfold nameB at h;simp at h;exact h.1
theorem valB_len {s:Txt} (h:valB s=true):s.length≤32:=by unfold valB at h;simp at h;exact h.1.1
theorem chk_ok:∀ (l p:List Pr),chk p l=0→∀ a∈l,nameB a.Key=true∧valB a.Val=true∧∀ b∈p,b.Key≠a.Key
 | [],p,_,a,ha=>by cases ha
 | x::l,p,h,a,ha=>by
  rw [chk] at h
  split at h
  ·rename_i hx
   split at h
   ·cases h
   ·rename_i hp
    rcases List.mem_cons.1 ha with rfl|ha
    ·simp at hx hp;exact ⟨hx.1,hx.2,hp⟩
    ·have:=chk_ok l (p++[x]) h a ha
     exact ⟨this.1,this.2.1,λb hb=>this.2.2 b (by simp [hb])⟩
  ·cases h
theorem check_ok {name:Txt} {l:List Pr} (h:check name l=0):nameB name=true∧l.length≤4∧chk [] l=0:=by
 unfold check at h
 split at h
 ·split at h
  ·cases h
  ·exact ⟨by assumption,by omega,h⟩
 ·cases h
theorem insR_mem (x a:Pr):∀ p:List Pr,a∈insR x p↔a=x∨a∈p
 | []=>by simp [insR]
 | b::p=>by unfold insR;split<;>simp [insR_mem x a p];grind
theorem srt_mem (a:Pr) (l:List Pr):a∈srt l↔a∈l:=by
 have:∀ (l p:List Pr),a∈(l.foldl (λacc a=>insR a acc) p)↔a∈p∨a∈l:=by
  intro l
  induction l with
  | nil=>intro p;simp
  | cons x l ih=>intro p;rw [List.foldl_cons,ih,insR_mem];simp;grind
 unfold srt;rw [List.mem_reverse,this];simp
def text (name:Txt) (l:List Pr):Txt×Int:=if check name l=0 then (name++texts (srt l),0) else ([],check name l)
theorem text_eq (name:Txt) (l:List Pr):m_label_Text name l=some (text name l):=by
 unfold m_label_Text text;rw [check_eq,bndS]
 by_cases h:check name l=0
 ·rw [if_neg (by omega),if_pos h]
  obtain ⟨h1,h2,h3⟩:=check_ok h;have h4:=nameB_len h1;rw [app_some (by simp;omega),bndS,sorted_eq l (by omega),bndS,jn_eq,List.nil_append]
  refine textL _ (by rw [srt_len];exact h2) (λa ha=>?_) name (by omega) _ λ_=>rfl
  have:=chk_ok l [] h3 a ((srt_mem a l).1 ha);exact ⟨nameB_len this.1,valB_len this.2.1⟩
 ·rw [if_pos h,if_neg h]
theorem same_eq (a b:List Pr) (h:a.length<4611686018427387904):m_limnographref11_Same a b=some (decide (a=b)):=by
 unfold m_limnographref11_Same
 by_cases hl:a.length=b.length
 ·rw [if_neg (by omega),jn_eq,m_limnographref11_Same_L1_scan _ _ _ h]
  rw [scanL_pre (λp q _=>some (decide (q=b.drop p.length))) ?_ ?_]
  ·simp
  ·intro s;simp [hl]
  ·intro p x q _ k hp hk
   rw [hk]
   have:p.length<b.length:=by rw [← hl,← hp];simp
   rw [idx_at this,bndS,bndS,List.drop_eq_getElem_cons this,List.length_append,List.length_singleton]
   by_cases hx:x=b[p.length]
   ·rw [if_neg (λh=>h hx)];congr 1;apply decide_eq_decide.2;rw [List.cons.injEq];exact ⟨λh=>⟨hx,h⟩,λh=>h.2⟩
   ·rw [if_pos hx,decide_eq_false];rw [List.cons.injEq];exact λh=>hx h.1
 ·rw [if_pos (by omega)]
  have:a≠b:=λh=>hl (by rw [h])
  simp [this]
theorem lt_asymm {x y:Txt} (h:Op.bytesLess x y=true):Op.bytesLess y x=false:=by
 rw [bytesLess_eq] at h ⊢;simp at h ⊢;exact List.le_of_lt h
theorem le_trans {x y z:Txt} (h:Op.bytesLess y x=false) (h':Op.bytesLess z y=false):Op.bytesLess z x=false:=by
 rw [bytesLess_eq] at h h' ⊢;simp at h h' ⊢;exact List.le_trans h h'
def ge (a b:Pr):Prop:=Op.bytesLess a.Key b.Key=false
theorem insR_perm (x:Pr):∀ p:List Pr,(insR x p).Perm (x::p)
 | []=>.refl _
 | b::p=>by
  unfold insR;split
  ·exact ((insR_perm x p).cons b).trans (.swap x b p)
  ·exact .refl _
theorem insR_ge (x:Pr):∀ p:List Pr,p.Pairwise ge→(insR x p).Pairwise ge
 | [],_=>by simp [insR]
 | b::p,h=>by
  obtain ⟨h1,h2⟩:=List.pairwise_cons.1 h;unfold insR;split
  ·rename_i hx
   refine List.pairwise_cons.2 ⟨λa ha=>?_,insR_ge x p h2⟩
   rcases (insR_mem x a p).1 ha with rfl|ha
   ·exact lt_asymm hx
   ·exact h1 a ha
  ·rename_i hx
   simp only [Bool.not_eq_true] at hx;refine List.pairwise_cons.2 ⟨λa ha=>?_,h⟩
   rcases List.mem_cons.1 ha with rfl|ha
   ·exact hx
   ·exact le_trans (h1 a ha) hx
theorem fold_ge:∀ (l p:List Pr),p.Pairwise ge→(l.foldl (λacc a=>insR a acc) p).Pairwise ge∧(l.foldl (λacc a=>insR a acc) p).Perm (l.reverse++p)
 | [],p,h=>⟨h,.refl _⟩
 | x::l,p,h=>by
  obtain ⟨h1,h2⟩:=fold_ge l (insR x p) (insR_ge x p h);refine ⟨h1,h2.trans ?_⟩;rw [List.reverse_cons,List.append_assoc];exact (insR_perm x p).append_left _
theorem srt_perm (l:List Pr):(srt l).Perm l:=by
 have:=(fold_ge l [] .nil).2;rw [List.append_nil] at this;exact (List.reverse_perm _).trans (this.trans (List.reverse_perm l))
def le (a b:Pr):Prop:=Op.bytesLess b.Key a.Key=false
theorem chk_iff:∀ (l p:List Pr),chk p l=0↔(∀ a∈l,nameB a.Key=true∧valB a.Val=true)∧(∀ a∈l,∀ b∈p,b.Key≠a.Key)∧l.Pairwise (λa b=>a.Key≠b.Key)
 | [],p=>by simp [chk]
 | x::l,p=>by
  rw [chk]
  by_cases hx:(nameB x.Key&&valB x.Val)=true
  ·rw [if_pos hx]
   by_cases hp:p.any (λb=>decide (b.Key=x.Key))=true
   ·rw [if_pos hp]
    simp at hp;obtain ⟨b,hb,hk⟩:=hp
    constructor
    ·intro h;cases h
    ·intro h;exact absurd hk (h.2.1 x (by simp) b hb)
   ·rw [if_neg hp,chk_iff l (p++[x])]
    simp at hx hp ⊢
    grind
  ·rw [if_neg hx]
   simp at hx ⊢
   grind
theorem chk_srt {l:List Pr} (h:chk [] l=0):chk [] (srt l)=0:=by
 rw [chk_iff] at h ⊢;refine ⟨λa ha=>h.1 a ((srt_mem a l).1 ha),λ_ _ _ hb=>(by cases hb),?_⟩;exact ((srt_perm l).pairwise_iff (fun {x y} h=>h.symm)).2 h.2.2
def body (a:Pr):Txt:=a.Key++61::a.Val
theorem light_len {l:List Pr} (h:light l=true):l.length≤20:=by unfold light at h;simp at h;exact h.1
theorem text_len {name:Txt} {l:List Pr} (h:check name l=0):(name++texts (srt l)).length≤32+66*4:=by
 obtain ⟨h1,h2,h3⟩:=check_ok h;have:=nameB_len h1
 have ht:∀ m:List Pr,(∀ a∈m,a.Key.length≤32∧a.Val.length≤32)→(texts m).length≤66*m.length:=by
  intro m
  induction m with
  | nil=>intro _;simp [texts]
  | cons a m ih=>intro hm;have:=ih λb hb=>hm b (by simp [hb]);have:=hm a (by simp);rw [texts_cons,List.length_append,at1_len,List.length_cons];omega
 have hs:=(chk_iff _ _).1 (chk_srt h3)
 have:=ht (srt l) λa ha=>⟨nameB_len (hs.1 a ha).1,valB_len (hs.1 a ha).2⟩
 rw [srt_len] at this;rw [List.length_append];omega
def finB (x:UInt64):Bool:=decide (x.toNat/4503599627370496%2048≠2047)
theorem and_exp (x:Nat):x&&&9218868437227405312=(x/4503599627370496%2048)*4503599627370496:=by
 have e1:x/4503599627370496%2048=(x>>>52)&&&(2^11-1):=by rw [Nat.and_two_pow_sub_one_eq_mod,Nat.shiftRight_eq_div_pow]
 have e2:((x>>>52)&&&(2^11-1))*4503599627370496=((x>>>52)&&&(2^11-1))<<<52:=by rw [Nat.shiftLeft_eq]
 rw [e1,e2]
 apply Nat.eq_of_testBit_eq
 intro i;rw [Nat.testBit_and,Nat.testBit_shiftLeft,Nat.testBit_and,Nat.testBit_shiftRight,Nat.testBit_two_pow_sub_one,show (9218868437227405312:Nat)=(2^11-1)<<<52 by decide,Nat.testBit_shiftLeft,Nat.testBit_two_pow_sub_one]
 by_cases h:i≥52
 ·rw [show 52+(i-52)=i by omega]
  simp [h]
 ·simp [h]
theorem fin_eq (x:UInt64):m_num_Finite x=some (finB x):=by
 unfold m_num_Finite finB
 congr 1
 apply decide_eq_decide.2
 rw [UInt64.toNat_and,show (9218868437227405312:UInt64).toNat=9218868437227405312 by rfl,and_exp]
 omega
def ltZ (x:UInt64):Bool:=decide (9223372036854775808≤x.toNat∧x.toNat%9223372036854775808≠0∧x.toNat%9223372036854775808≤9218868437227405312)
theorem less_eq (x:UInt64):m_num_Less x 0=some (ltZ x):=by
 have hx:=x.toNat_lt;unfold m_num_Less m_num_of fltLt ltZ;rw [bndS,bndS]
 congr 1
 have r0:Ieee.Format.read Ieee.double (0:UInt64).toNat=.number false 0 (-1074):=by decide
 show (Ieee.Datum.order (Ieee.Format.read Ieee.double x.toNat) (Ieee.Format.read Ieee.double (0:UInt64).toNat)==some .lt)=_;rw [r0];generalize x.toNat=v at *;unfold Ieee.Format.read
 have sw:Ieee.double.signWeight=9223372036854775808:=by decide
 have bn:Ieee.double.binade=4503599627370496:=by decide
 have ir:Ieee.double.infRung=9218868437227405312:=by decide
 have lp:Ieee.double.leastPlace=-1074:=by decide
 dsimp only;rw [sw,bn,ir,lp]
 have hs:(v/9223372036854775808%2==1)=decide (9223372036854775808≤v):=by
  by_cases h:9223372036854775808≤v
  ·rw [decide_eq_true h];have:v/9223372036854775808%2=1:=by omega
   rw [this];rfl
  ·rw [decide_eq_false h];have:v/9223372036854775808%2=0:=by omega
   rw [this];rfl
 rw [hs];generalize hb:decide (9223372036854775808≤v)=s
 have hb':s=true↔9223372036854775808≤v:=by rw [← hb];exact decide_eq_true_iff
 have cmp:∀ (m k:Nat),(Ieee.Datum.order (.number s m (-1074+(k:Int))) (.number false 0 (-1074))==some .lt)=decide (s=true∧m≠0):=by
  intro m k
  have e1:min (-1074+(k:Int)) (-1074)=-1074:=by omega
  show (some (compare (Ieee.signed s m ((-1074+(k:Int))-min (-1074+(k:Int)) (-1074)).toNat) (Ieee.signed false 0 ((-1074:Int)-min (-1074+(k:Int)) (-1074)).toNat))==some .lt)=_;rw [e1,show ((-1074+(k:Int))-(-1074)).toNat=k by omega,show ((-1074:Int)-(-1074)).toNat=0 by rfl];unfold Ieee.signed;rw [if_neg (show ¬(false=true) by decide),show ((0<<<0:Nat):Int)=0 by rfl,Nat.shiftLeft_eq];have hp:=Nat.two_pow_pos k
  cases s with
  | false=>
   have:¬(((m*2^k:Nat):Int)<0):=by omega
   simp only [compare,compareOfLessAndEq];rw [if_neg (show ¬(if false=true then -((m*2^k:Nat):Int) else ((m*2^k:Nat):Int))<0 from this)]
   (repeat' split)<;>first | rfl | (exfalso;simp_all) | simp
  | true=>
   by_cases hm:m=0
   ·subst hm;simp [compare,compareOfLessAndEq]
   ·have h0:0<m*2^k:=Nat.mul_pos (by omega) hp
    have:(-((m*2^k:Nat):Int)<0):=by omega
    simp only [compare,compareOfLessAndEq];rw [if_pos (show (if True then -((m*2^k:Nat):Int) else ((m*2^k:Nat):Int))<0 by rw [if_pos trivial];exact this)];simp [hm]
 by_cases h1:v%9223372036854775808<4503599627370496
 ·rw [if_pos h1]
  refine (cmp (v%9223372036854775808) 0).trans ?_
  apply decide_eq_decide.2;rw [hb'];omega
 ·rw [if_neg h1]
  by_cases h2:v%9223372036854775808<9218868437227405312
  ·rw [if_pos h2]
   refine (cmp (4503599627370496+v%9223372036854775808%4503599627370496) _).trans ?_
   apply decide_eq_decide.2;rw [hb'];omega
  ·rw [if_neg h2]
   by_cases h3:v%9223372036854775808=9218868437227405312
   ·rw [if_pos h3]
    show (some (if s=true then Ordering.lt else .gt)==some .lt)=_
    have:decide (s=true)=decide (9223372036854775808≤v∧v%9223372036854775808≠0∧v%9223372036854775808≤9218868437227405312):=by apply decide_eq_decide.2;rw [hb'];omega
    rw [← this];cases s<;>rfl
   ·rw [if_neg h3]
    show false=_
    symm;rw [decide_eq_false_iff_not];omega
abbrev Pt:=T_api_Point
def kindsB (p:Pt):Bool:=if p.Kind=3 then decide (p.Temp=0) else decide (1≤p.Kind∧p.Kind≤5)&&decide (p.Temp=1∨p.Temp=2)
theorem kinds_eq (p:Pt):m_point_kinds p=some (kindsB p):=by
 unfold m_point_kinds kindsB;rw [jn_eq]
 by_cases h3:p.Kind=3
 ·rw [if_pos h3,if_pos h3]
 ·rw [if_neg h3,if_neg h3]
  by_cases h1:p.Kind=1
  ·simp [h1]
  ·by_cases h2:p.Kind=2
   ·simp [h2]
   ·by_cases h4:p.Kind=4
    ·simp [h4]
    ·by_cases h5:p.Kind=5
     ·simp [h5]
     ·have:¬(1≤p.Kind∧p.Kind≤5):=by omega
      simp [h1,h2,h4,h5,this]
def timesB (p:Pt):Bool:=decide (0≤p.Start∧p.Time≤4503599627370496∧(if p.Kind=3 then p.Start=p.Time else p.Start<p.Time))
theorem times_eq (p:Pt):m_point_times p=some (timesB p):=by
 unfold m_point_times timesB
 by_cases h:p.Start<0∨p.Time>4503599627370496
 ·rw [if_pos h];congr 1;symm;rw [decide_eq_false_iff_not];omega
 ·rw [if_neg h]
  split<;>(congr 1;apply decide_eq_decide.2;omega)
def bareB (h:T_api_Hist):Bool:=decide (h.Scale=0∧h.Zero=0∧h.Pos.Offset=0∧h.Neg.Offset=0∧h.Pos.Counts=[]∧h.Neg.Counts=[])
theorem u64z (x:UInt64):((x.toNat:Nat):Int)=0↔x=0:=by
 constructor
 ·intro h;apply UInt64.toNat_inj.1;simp;omega
 ·rintro rfl;rfl
theorem bare_eq (h:T_api_Hist) (h1:h.Pos.Counts.length≤1000000) (h2:h.Neg.Counts.length≤1000000):m_point_bare h=some (bareB h):=by
 unfold m_point_bare bareB;rw [jn_eq,W64_id (by omega) (by omega)];simp only [u64z]
 have e:((h.Pos.Counts.length:Int)+(h.Neg.Counts.length:Int)=0)↔h.Pos.Counts=[]∧h.Neg.Counts=[]:=by
  rw [← List.length_eq_zero_iff,← List.length_eq_zero_iff];omega
 simp only [e]
 split
 ·rename_i hh;congr 1;apply decide_eq_decide.2;simp [hh]
 ·rename_i hh;congr 1;symm;rw [decide_eq_false_iff_not];intro hc;exact hh ⟨⟨⟨hc.1,hc.2.1⟩,hc.2.2.1⟩,hc.2.2.2.1⟩
def ownB (p:Pt):Bool:=decide ((p.Kind≠1→p.Int_=0)∧(¬(p.Kind=2∨p.Kind=3∨p.Kind=5)→p.Re=0)∧(p.Kind≠5→p.Im=0)∧(p.Kind≠4→bareB p.Hist=true)∧0≤p.Flags∧p.Flags≤31)
theorem own_eq (p:Pt) (h1:p.Hist.Pos.Counts.length≤1000000) (h2:p.Hist.Neg.Counts.length≤1000000):m_point_own p=some (ownB p):=by
 unfold m_point_own ownB;rw [jn_eq,bare_eq _ h1 h2,jn_eq];simp only [u64z,ne_eq]
 by_cases a1:¬p.Kind=1∧¬p.Int_=0
 ·rw [if_pos a1,decide_eq_true a1,if_pos rfl];congr 1;symm;rw [decide_eq_false_iff_not];intro hc;exact a1.2 (hc.1 a1.1)
 ·rw [if_neg a1]
  by_cases a2:(¬((p.Kind=2∨p.Kind=3)∨p.Kind=5))∧¬p.Re=0
  ·rw [if_pos a2,decide_eq_true a2,if_pos rfl];congr 1;symm;rw [decide_eq_false_iff_not];intro hc;exact a2.2 (hc.2.1 (by intro h;exact a2.1 (by omega)))
  ·rw [if_neg a2]
   by_cases a3:¬p.Kind=5∧¬p.Im=0
   ·rw [if_pos a3,decide_eq_true a3,if_pos rfl];congr 1;symm;rw [decide_eq_false_iff_not];intro hc;exact a3.2 (hc.2.2.1 a3.1)
   ·rw [if_neg a3]
    have b1:¬p.Kind=1→p.Int_=0:=λh=>Classical.byContradiction λh'=>a1 ⟨h,h'⟩
    have b2:¬(p.Kind=2∨p.Kind=3∨p.Kind=5)→p.Re=0:=λh=>Classical.byContradiction λh'=>a2 ⟨by omega,h'⟩
    have b3:¬p.Kind=5→p.Im=0:=λh=>Classical.byContradiction λh'=>a3 ⟨h,h'⟩
    by_cases a4:p.Kind=4
    ·rw [if_neg (by simpa using a4)]
     simp only [Bool.false_eq_true,if_false]
     by_cases a5:p.Flags<0∨p.Flags>31
     ·rw [decide_eq_true a5,if_pos rfl];congr 1;symm;rw [decide_eq_false_iff_not];omega
     ·rw [decide_eq_false a5];simp only [Bool.false_eq_true,if_false];congr 1;symm;rw [decide_eq_true_iff];exact ⟨b1,b2,b3,λh=>(h a4).elim,by omega,by omega⟩
    ·rw [if_pos a4,bndS]
     cases hb:bareB p.Hist with
     | false=>simp only [Bool.not_false,if_true];congr 1;symm;rw [decide_eq_false_iff_not];intro hc;have:=hc.2.2.2.1 a4;cases this
     | true=>
      simp only [Bool.not_true,Bool.false_eq_true,if_false]
      by_cases a5:p.Flags<0∨p.Flags>31
      ·rw [decide_eq_true a5,if_pos rfl];congr 1;symm;rw [decide_eq_false_iff_not];omega
      ·rw [decide_eq_false a5];simp only [Bool.false_eq_true,if_false];congr 1;symm;rw [decide_eq_true_iff];exact ⟨b1,b2,b3,λ_=>by first | rfl | trivial,by omega,by omega⟩
def pcE (p:Pt):Int:=
 if check p.Name p.Attrs≠0 then check p.Name p.Attrs
 else if kindsB p=false then 14
 else if p.Mono=true∧p.Kind≠1∧p.Kind≠2 then 1
 else if timesB p=false then 1
 else if ownB p=false then 3
 else if (p.Mono=true∧p.Kind=2)∧finB p.Re=false then 11
 else if p.Mono=true∧(p.Int_<0∨ltZ p.Re=true) then 1
 else if p.Kind=4 then hcE p.Hist else 0
theorem PCheck_eq (p:Pt) (h1:p.Hist.Pos.Counts.length≤1000000) (h2:p.Hist.Neg.Counts.length≤1000000):m_point_Check p=some (pcE p):=by
 unfold m_point_Check pcE m_point_sum;rw [check_eq,bndS]
 by_cases c:check p.Name p.Attrs≠0
 ·rw [if_pos c,if_pos c]
 rw [if_neg c,if_neg c,kinds_eq,bndS]
 cases hk:kindsB p with
 | false=>rw [if_pos (by rfl),if_pos rfl]
 | true=>
  rw [if_neg (by decide),if_neg (show ¬(true=false) by decide)];simp only [jn_eq,bndS,times_eq,own_eq p h1 h2,fin_eq,less_eq,HCheck_eq p.Hist h1 h2]
  have e1:(p.Mono=true∧p.Kind≠1∧p.Kind≠2)↔(if p.Mono=true then (!decide ((p.Kind=1)∨(p.Kind=2))) else false)=true:=by
   cases p.Mono<;>simp
  cases hm:p.Mono with
  | false=>
   simp only [Bool.false_eq_true,if_false,false_and]
   cases timesB p<;>simp
   cases ownB p<;>simp
   split<;>rfl
  | true=>
   simp only [if_true,true_and]
   by_cases hs:p.Kind=1∨p.Kind=2
   ·rw [decide_eq_true hs]
    simp only [Bool.not_true,Bool.false_eq_true,if_false];rw [if_neg (show ¬(p.Kind≠1∧p.Kind≠2) by omega)]
    cases timesB p<;>simp
    cases ownB p<;>simp
    have h4:¬p.Kind=4:=by omega
    by_cases h2:p.Kind=2
    ·simp only [h2,if_true,true_and]
     cases finB p.Re<;>simp
     by_cases hi:p.Int_<0
     ·simp [hi]
     ·simp [hi];split<;>rfl
    ·simp only [h2,if_false,false_and]
     by_cases hi:p.Int_<0
     ·simp [hi]
     ·simp [hi,h4];split<;>rfl
   ·rw [decide_eq_false hs,if_pos (show p.Kind≠1∧p.Kind≠2 by omega)]
    simp
theorem u64ne (x y:UInt64):(((x.toNat:Nat):Int)≠((y.toNat:Nat):Int))↔x≠y:=by
 constructor
 ·rintro h rfl;exact h rfl
 ·intro h hh;exact h (UInt64.toNat_inj.1 (by omega))
theorem u64eq (x y:UInt64):(((x.toNat:Nat):Int)=((y.toNat:Nat):Int))↔x=y:=by
 constructor
 ·intro hh;exact UInt64.toNat_inj.1 (by omega)
 ·rintro rfl;rfl
theorem scan_same {α:Type} [DecidableEq α] (a b:List α) (hl:a.length=b.length) (B:Nat→α→Unit→(Unit→Option Bool)→Option Bool) (J:Unit→Option Bool) (hJ:J ()=some true)
 (hB:∀ i x k,B i x () k=(idx b (i:Int)).bind λy=>if x≠y then some false else k ()):scanL a () B J=some (decide (a=b)):=by
 rw [scanL_pre (λp q _=>some (decide (q=b.drop p.length))) ?_ ?_]
 ·simp
 ·intro s;rw [hJ];simp [hl]
 ·intro p x q _ k hp hk
  rw [hB,hk]
  have:p.length<b.length:=by rw [← hl,← hp];simp
  rw [idx_at this,bndS,List.drop_eq_getElem_cons this,List.length_append,List.length_singleton]
  by_cases hx:x=b[p.length]
  ·rw [if_neg (λh=>h hx)];congr 1;apply decide_eq_decide.2;rw [List.cons.injEq];exact ⟨λh=>⟨hx,h⟩,λh=>h.2⟩
  ·rw [if_pos hx,decide_eq_false];rw [List.cons.injEq];exact λh=>hx h.1
theorem side_ext (a b:T_api_Side):a=b↔a.Offset=b.Offset∧a.Counts=b.Counts:=by cases a;cases b;simp
theorem rsame_eq (a b:T_api_Side) (h:a.Counts.length≤1000000):m_limnographref08_SameSide a b=some (decide (a=b)):=by
 unfold m_limnographref08_SameSide
 by_cases hc:a.Offset≠b.Offset∨(a.Counts.length:Int)≠(b.Counts.length:Int)
 ·rw [if_pos hc];congr 1;symm;rw [decide_eq_false_iff_not,side_ext];rintro ⟨h1,h2⟩;rw [h1,h2] at hc;simp at hc
 ·rw [if_neg hc,jn_eq,m_limnographref08_SameSide_L1_scan _ _ _ (by omega)]
  have:=scan_same a.Counts b.Counts (by omega) (λii xx ss kk=>(some xx).bind λz21=>(idx b.Counts (ii:Int)).bind λz24=>if ((z21).toNat:Int)≠((z24).toNat:Int) then (some false) else (kk ())) (λ_=>some true) rfl λi x k=>by rw [bndS];simp only [u64ne]
  refine this.trans ?_
  congr 1;apply decide_eq_decide.2;rw [side_ext];constructor
  ·intro h;exact ⟨by omega,h⟩
  ·exact λh=>h.2
theorem hist_ext (a b:T_api_Hist):a=b↔(a.Scale=b.Scale∧a.Zero=b.Zero)∧a.Pos=b.Pos∧a.Neg=b.Neg:=by cases a;cases b;simp [and_assoc]
theorem rHist_eq (a b:T_api_Hist) (h1:a.Pos.Counts.length≤1000000) (h2:a.Neg.Counts.length≤1000000):m_limnographref08_Same a b=some (decide (a=b)):=by
 unfold m_limnographref08_Same;rw [rsame_eq _ _ h1,rsame_eq _ _ h2];simp only [u64eq,bndS,jn_eq]
 by_cases hc:a.Scale=b.Scale∧a.Zero=b.Zero
 ·rw [if_pos hc]
  by_cases hp:a.Pos=b.Pos
  ·rw [decide_eq_true hp,if_pos rfl];congr 1;apply decide_eq_decide.2;rw [hist_ext];simp [hc,hp]
  ·rw [decide_eq_false hp];simp only [Bool.false_eq_true,if_false];congr 1;symm;rw [decide_eq_false_iff_not,hist_ext];exact λh=>hp h.2.1
 ·rw [if_neg hc];simp only [Bool.false_eq_true,if_false];congr 1;symm;rw [decide_eq_false_iff_not,hist_ext];exact λh=>hc h.1
def sameP (a b:Pt):Prop:=a.Name=b.Name∧srt a.Attrs=srt b.Attrs∧a.Hist=b.Hist∧a.Kind=b.Kind∧a.Temp=b.Temp∧a.Mono=b.Mono∧a.Start=b.Start∧a.Time=b.Time∧a.Int_=b.Int_∧a.Re=b.Re∧a.Im=b.Im∧a.Flags=b.Flags
instance (a b:Pt):Decidable (sameP a b):=by unfold sameP;infer_instance
structure Few (x:Pt):Prop where
 a:x.Attrs.length≤20
 p:x.Hist.Pos.Counts.length≤1000000
 n:x.Hist.Neg.Counts.length≤1000000
theorem rSame_eq {a b:Pt} (ha:Few a) (hb:Few b):m_limnographref12_Same a b=some (decide (sameP a b)):=by
 unfold m_limnographref12_Same
 have e:∀ l:List Pr,l.length≤20→(srt l).length<4611686018427387904:=λl hl=>by rw [srt_len];omega
 have ea:=ha.a;have eb:=hb.a;rw [jn_eq,refSorted_eq _ (by omega),refSorted_eq _ (by omega),bndS,bndS,same_eq _ _ (e _ ha.a),bndS,rHist_eq _ _ ha.p ha.n];simp only [bndS,jn_eq,u64eq]
 by_cases h1:a.Name=b.Name
 ·rw [if_neg (λh=>h h1)]
  by_cases h2:srt a.Attrs=srt b.Attrs
  ·rw [decide_eq_true h2]
   simp only [Bool.not_true,Bool.false_eq_true,if_false]
   by_cases h3:(((a.Kind≠b.Kind∨a.Temp≠b.Temp)∨a.Mono≠b.Mono)∨a.Start≠b.Start)∨a.Time≠b.Time
   ·rw [if_pos h3];congr 1;symm;rw [decide_eq_false_iff_not];rintro ⟨_,_,_,q1,q2,q3,q4,q5,_⟩;rcases h3 with (((h | h) | h) | h) | h
    ·exact h q1
    ·exact h q2
    ·exact h q3
    ·exact h q4
    ·exact h q5
   ·rw [if_neg h3]
    simp only [not_or,ne_eq,Decidable.not_not] at h3;obtain ⟨⟨⟨⟨q1,q2⟩,q3⟩,q4⟩,q5⟩:=h3
    by_cases h4:((a.Int_=b.Int_∧a.Re=b.Re)∧a.Im=b.Im)∧a.Flags=b.Flags
    ·rw [if_pos h4]
     obtain ⟨⟨⟨r1,r2⟩,r3⟩,r4⟩:=h4
     congr 1;apply decide_eq_decide.2;simp [sameP,h1,h2,q1,q2,q3,q4,q5,r1,r2,r3,r4]
    ·rw [if_neg h4];congr 1;symm;rw [decide_eq_false_iff_not];rintro ⟨_,_,_,_,_,_,_,_,r1,r2,r3,r4⟩;exact h4 ⟨⟨⟨r1,r2⟩,r3⟩,r4⟩
  ·rw [decide_eq_false h2];simp only [Bool.not_false,if_true];congr 1;symm;rw [decide_eq_false_iff_not];exact λh=>h2 h.2.1
 ·rw [if_pos h1,if_pos trivial];congr 1;symm;rw [decide_eq_false_iff_not];exact λh=>h1 h.1
structure PtR (p:Pt):Prop where
 c:check p.Name p.Attrs=0
 k:kindsB p=true
 t:timesB p=true
 o:ownB p=true
 h:p.Kind=4→hcE p.Hist=0
theorem pcE_ok {p:Pt} (h:pcE p=0):PtR p:=by
 unfold pcE at h
 by_cases c:check p.Name p.Attrs≠0
 ·rw [if_pos c] at h;exact (c h).elim
 rw [if_neg c] at h
 by_cases k:kindsB p=false
 ·rw [if_pos k] at h;exact absurd h (by decide)
 rw [if_neg k] at h
 by_cases s:p.Mono=true∧p.Kind≠1∧p.Kind≠2
 ·rw [if_pos s] at h;exact absurd h (by decide)
 rw [if_neg s] at h
 by_cases t:timesB p=false
 ·rw [if_pos t] at h;exact absurd h (by decide)
 rw [if_neg t] at h
 by_cases o:ownB p=false
 ·rw [if_pos o] at h;exact absurd h (by decide)
 rw [if_neg o] at h
 by_cases f:(p.Mono=true∧p.Kind=2)∧finB p.Re=false
 ·rw [if_pos f] at h;exact absurd h (by decide)
 rw [if_neg f] at h
 by_cases l:p.Mono=true∧(p.Int_<0∨ltZ p.Re=true)
 ·rw [if_pos l] at h;exact absurd h (by decide)
 rw [if_neg l] at h;refine ⟨Classical.not_not.1 c,by simpa using k,by simpa using t,by simpa using o,λh4=>?_⟩;rw [if_pos h4] at h;exact h
theorem light12 (p:Pt):m_limnographref12_Light p=some (decide (p.Name.length≤100)&&light p.Attrs&&decide (p.Hist.Pos.Counts.length≤300∧p.Hist.Neg.Counts.length≤300)):=by
 unfold m_limnographref12_Light m_limnographref08_Light;rw [jn_eq,light_eq]
 have e1:((p.Hist.Pos.Counts.length:Int)≤300)↔p.Hist.Pos.Counts.length≤300:=by omega
 have e2:((p.Hist.Neg.Counts.length:Int)≤300)↔p.Hist.Neg.Counts.length≤300:=by omega
 simp only [jn_eq,bndS,e1,e2]
 by_cases h1:(p.Name.length:Int)≤100
 ·rw [if_pos h1,decide_eq_true (by omega:p.Name.length≤100)]
  cases light p.Attrs with
  | false=>simp
  | true=>simp
 ·rw [if_neg h1,decide_eq_false (by omega:¬p.Name.length≤100)];simp
theorem light_few {p:Pt} (h:(decide (p.Name.length≤100)&&light p.Attrs&&decide (p.Hist.Pos.Counts.length≤300∧p.Hist.Neg.Counts.length≤300))=true):Few p∧p.Hist.Pos.Counts.length≤300∧p.Hist.Neg.Counts.length≤300:=by
 simp only [Bool.and_eq_true,decide_eq_true_iff] at h;obtain ⟨⟨_,h2⟩,h3,h4⟩:=h;exact ⟨⟨light_len h2,by omega,by omega⟩,h3,h4⟩
theorem clone_pt (p:Pt) (h:Few p):m_point_Clone p=some p:=by
 have:=h.a;have:=h.p;have:=h.n;unfold m_point_Clone m_slices_Clone_api_Pair_api_Pair m_hist_Clone m_slices_Clone_uint64_uint64;rw [app_some (by simp;omega),bndS,app_some (by simp;omega),bndS,app_some (by simp;omega),bndS,bndS]
 rfl
def mono (b:Bool):Nat:=if b=true then 1 else 0
theorem pt_nums {p:Pt} (h:PtR p):1≤p.Kind∧p.Kind≤5∧0≤p.Temp∧p.Temp≤2∧0≤p.Flags∧p.Flags≤31∧0≤p.Start∧p.Start≤p.Time∧p.Time≤4503599627370496:=by
 obtain ⟨_,hk,ht,ho,_⟩:=h;unfold kindsB at hk;unfold timesB at ht;unfold ownB at ho;rw [decide_eq_true_iff] at ht ho;obtain ⟨t1,t2,t3⟩:=ht;obtain ⟨_,_,_,_,o1,o2⟩:=ho
 by_cases h3:p.Kind=3
 ·rw [if_pos h3] at hk t3
  rw [decide_eq_true_iff] at hk
  omega
 ·rw [if_neg h3] at hk t3
  simp only [Bool.and_eq_true,decide_eq_true_iff] at hk
  omega
def keyE (p:Pt):List UInt8:=(p.Name++texts (srt p.Attrs))++([32]++[UInt8.ofNat (48+p.Kind.toNat),UInt8.ofNat (48+p.Temp.toNat),UInt8.ofNat (48+mono p.Mono)])
theorem toU8_dig {x:Int} (h0:0≤x) (h1:x≤100):toU8 (W64 (48+x))=UInt8.ofNat (48+x.toNat):=by
 rw [W64_id (by omega) (by omega),show 48+x=((48+x.toNat:Nat):Int) by omega,toU8_nat,Nat.mod_eq_of_lt (by omega)]
def keyR (p:Pt):List UInt8×Int:=if pcE p=0 then (keyE p,0) else ([],pcE p)
theorem key_eq (p:Pt) (h1:p.Hist.Pos.Counts.length≤1000000) (h2:p.Hist.Neg.Counts.length≤1000000):m_point_Key p=some (keyR p):=by
 unfold m_point_Key keyR;rw [PCheck_eq p h1 h2,bndS]
 by_cases h0:pcE p=0
 ·rw [if_neg (by simpa using h0),if_pos h0]
  have hp:=pcE_ok h0;obtain ⟨k1,k2,t1,t2,f1,f2,s1,s2,s3⟩:=pt_nums hp;have htl:=text_len hp.c
  have hT:m_label_Text p.Name p.Attrs=some (p.Name++texts (srt p.Attrs),0):=by rw [text_eq,text,if_pos hp.c]
  have hbit:m_point_bit p.Mono=some (mono p.Mono:Int):=by unfold m_point_bit mono;cases p.Mono<;>rfl
  have hm1:mono p.Mono≤1:=by unfold mono;split<;>omega
  rw [hT,bndS];dsimp only;rw [cat_some (by simp only [List.length_append,List.length_cons,List.length_nil] at htl ⊢;omega),bndS,hbit,bndS,cat_some (by simp only [List.length_append,List.length_cons,List.length_nil] at htl ⊢;omega),bndS];rw [toU8_dig (by omega) (by omega),toU8_dig (by omega) (by omega),toU8_dig (by omega) (by omega),Int.toNat_natCast];unfold keyE;simp only [List.append_assoc]
 ·rw [if_pos h0,if_neg h0]
end Go.Proofs.YtaikmpmokihciaaGreat
set_option maxRecDepth 20000
set_option linter.unusedVariables false
set_option linter.unusedSimpArgs false
namespace Go.Proofs.YtaikmpmokihciaaGreat
open Go Go.RowKit Go.Wk
def Tot {α:Type} (P:α→Prop) (o:Option α):Prop:=∃ r,o=some r∧P r
theorem Tot.some {α:Type} {P:α→Prop} {r:α} (h:P r):Tot P (some r):=⟨r,rfl,h⟩
theorem Tot.bind {α β:Type} {P:α→Prop} {Q:β→Prop} {o:Option α} {f:α→Option β} (h:Tot P o) (hf:∀ r,P r→Tot Q (f r)):Tot Q (o.bind f):=by
 obtain ⟨r,rfl,hr⟩:=h;exact hf r hr
theorem Tot.jn {α β:Type} {R:α→Prop} {Q:β→Prop} {F:α→Option β} {B:(α→Option β)→Option β} (hF:∀ y,R y→Tot Q (F y)) (hB:∀ j:α→Option β,(∀ y,R y→Tot Q (j y))→Tot Q (B j)):Tot Q (jn F B):=by
 rw [jn_eq];exact hB F hF
theorem Tot.jn2 {α γ β:Type} {R:α→γ→Prop} {Q:β→Prop} {F:α→γ→Option β} {B:(α→γ→Option β)→Option β} (hF:∀ y z,R y z→Tot Q (F y z)) (hB:∀ j:α→γ→Option β,(∀ y z,R y z→Tot Q (j y z))→Tot Q (B j)):Tot Q (Go.Wk.jn F B):=by
 rw [jn_eq];exact hB F hF
theorem Tot.ite {α:Type} {c:Prop} [Decidable c] {P:α→Prop} {a b:Option α} (h1:c→Tot P a) (h2:¬c→Tot P b):Tot P (if c then a else b):=by
 split
 ·rename_i h;exact h1 h
 ·rename_i h;exact h2 h
theorem Tot.mono {α:Type} {P Q:α→Prop} {o:Option α} (h:Tot P o) (hpq:∀ r,P r→Q r):Tot Q o:=by
 obtain ⟨r,e,hr⟩:=h;exact ⟨r,e,hpq r hr⟩
structure LH (h:T_api_Hist):Prop where
 p:h.Pos.Counts.length≤1000000
 n:h.Neg.Counts.length≤1000000
abbrev hZ:T_api_Hist:=⟨0,0,⟨0,[]⟩,⟨0,[]⟩⟩
theorem LH.z:LH hZ:=⟨Nat.zero_le _,Nat.zero_le _⟩
structure BS (s:T_api_Side):Prop where
 l:s.Counts.length≤160
 a:-1073741824≤s.Offset
 b:s.Offset≤1073741824
theorem BS.z:BS ⟨0,[]⟩:=⟨Nat.zero_le _,by show -1073741824≤(0:Int);omega,by show (0:Int)≤1073741824;omega⟩
theorem sd_ok {s:T_api_Side} (h:sdE s=0):BS s∧(s.Counts≠[]→s.Offset+s.Counts.length-1≤1073741824):=by
 unfold sdE at h
 split at h
 ·simp at h
 ·rename_i h1
  split at h
  ·rename_i h2
   split at h
   ·simp at h
   ·rename_i h3
    have h3':s.Offset=0:=by
     rcases Decidable.em (s.Offset=0) with e|e
     ·exact e
     ·exact absurd e h3
    exact ⟨⟨by omega,by omega,by omega⟩,λhn=>absurd h2 hn⟩
  ·split at h
   ·simp at h
   ·rename_i h2 _
    split at h
    ·simp at h
    ·rename_i h4
     have h0:0<s.Counts.length:=List.length_pos_iff.2 h2;exact ⟨⟨by omega,by omega,by omega⟩,λ_=>by omega⟩
theorem shr_div (x:Int) {k:Nat} (hk:k≤30):shrZ x (toU64 (k:Int)).toNat=x/(2^k:Nat):=by
 have e:(toU64 (k:Int)).toNat=k:=by
  unfold toU64;rw [UInt64.toNat_ofNat']
  omega
 rw [e];unfold shrZ;rw [Nat.min_eq_left (by omega),Int.fdiv_eq_ediv_of_nonneg _ (by exact Int.le_of_lt (Int.pow_pos (by omega)))]
 congr 1
theorem div_add {o:Int} {P:Nat} (hP:0<P) (m:Nat):o/(P:Int)≤(o+m)/(P:Int)∧(o+m)/(P:Int)≤o/(P:Int)+m:=by
 have hp:(0:Int)<(P:Int):=by omega
 refine ⟨Int.ediv_le_ediv hp (by omega),?_⟩
 have h1:(o+m)/(P:Int)≤(o+(m:Int)*(P:Int))/(P:Int):=by
  apply Int.ediv_le_ediv hp
  have:(m:Int)*1≤(m:Int)*(P:Int):=Int.mul_le_mul_of_nonneg_left (by omega) (by omega)
  omega
 rw [Int.add_mul_ediv_right _ _ (by omega)] at h1;exact h1
theorem div_small {o:Int} {P:Nat} (hP:0<P) (h1:-1073741824≤o) (h2:o≤1073741824):-1073741824≤o/(P:Int)∧o/(P:Int)≤1073741824:=by
 have hp:(0:Int)<(P:Int):=by omega
 constructor
 ·rw [Int.le_ediv_iff_mul_le hp]
  have:(-1073741824:Int)*(P:Int)≤-1073741824*1:=by
   have:(1073741824:Int)*1≤1073741824*(P:Int):=Int.mul_le_mul_of_nonneg_left (by omega) (by omega)
   omega
  omega
 ·rcases Int.le_total 0 o with h | h
  ·exact Int.le_trans (Int.ediv_le_self _ h) h2
  ·have h3:o/(P:Int)≤0:=by
    have:=Int.ediv_le_ediv hp h;rw [Int.zero_ediv] at this;exact this
   omega
theorem span_tot (s:T_api_Side) (x:UInt64):∃ v,m_hist_span s x=some v:=by
 unfold m_hist_span
 split
 ·exact ⟨_,rfl⟩
 ·exact ⟨_,rfl⟩
theorem span_eq {s:T_api_Side} (hs:sdE s=0) (hn:s.Counts≠[]) {k:Nat} (hk:k≤30) :
 m_hist_span s (toU64 (k:Int))=some ((s.Offset+(s.Counts.length-1:Nat))/(2^k:Nat)-s.Offset/(2^k:Nat)+1):=by
 obtain ⟨⟨h1,h2,h3⟩,h4⟩:=sd_ok hs;have h4':=h4 hn;have h0:0<s.Counts.length:=List.length_pos_iff.2 hn;have hP:0<2^k:=Nat.pow_pos (by omega);obtain ⟨d1,d2⟩:=div_add (o:=s.Offset) hP (s.Counts.length-1);obtain ⟨d3,d4⟩:=div_small (o:=s.Offset) hP h2 h3;unfold m_hist_span;rw [if_neg (by omega),W64_id (z:=s.Offset+(s.Counts.length:Int)) (by omega) (by omega),W64_id (z:=s.Offset+(s.Counts.length:Int)-1) (by omega) (by omega),shr_div _ hk,shr_div _ hk,show s.Offset+(s.Counts.length:Int)-1=s.Offset+((s.Counts.length-1:Nat):Int) by omega];rw [W64_id (z:=_-_) (by omega) (by omega),W64_id (by omega) (by omega)]
theorem idx_some {α:Type} {l:List α} {i:Int} (h0:0≤i) (h1:i<l.length):Tot (λ_=>True) (idx l i):=by
 obtain ⟨x,hx⟩:=idx_lt h0 h1;exact ⟨x,hx,trivial⟩
theorem setI_len {α:Type} (l:List α) (i:Int) (x:α):(setI l i x).length=l.length:=by simp [setI]
theorem down_L1 {s:T_api_Side} (hs:sdE s=0) (hn:s.Counts≠[]) {k:Nat} (hk:k≤30) {β:Type} {Q:T_api_Side→Prop} (j:T_api_Side→Option T_api_Side)
 (hj:∀ y:T_api_Side,y.Offset=s.Offset/(2^k:Nat)→(y.Counts.length:Int)=(s.Offset+(s.Counts.length-1:Nat))/(2^k:Nat)-s.Offset/(2^k:Nat)+1→Tot Q (j y)) :
 ∀ m i n (y:T_api_Side),i+m=s.Counts.length→y.Offset=s.Offset/(2^k:Nat)→(y.Counts.length:Int)=(s.Offset+(s.Counts.length-1:Nat))/(2^k:Nat)-s.Offset/(2^k:Nat)+1 →
 Tot Q (m_hist_down_L1 s (toU64 (k:Int)) j (n+m+1) (i:Int) y):=by
 obtain ⟨⟨h1,h2,h3⟩,h4⟩:=sd_ok hs;have h4':=h4 hn;have hP:0<2^k:=Nat.pow_pos (by omega);obtain ⟨d3,d4⟩:=div_small (o:=s.Offset) hP h2 h3;intro m
 induction m with
 | zero=>
  intro i n y hi ho hl;rw [Nat.add_zero,m_hist_down_L1,if_neg (by omega)];exact hj y ho hl
 | succ m ih=>
  intro i n y hi ho hl;rw [m_hist_down_L1,if_pos (by omega),W64_id (z:=s.Offset+(i:Int)) (by omega) (by omega),shr_div _ hk];obtain ⟨d5,d6⟩:=div_add (o:=s.Offset) hP i;have d7:(s.Offset+(i:Int))/((2^k:Nat):Int)≤(s.Offset+(s.Counts.length-1:Nat))/((2^k:Nat):Int):=Int.ediv_le_ediv (by omega) (by omega);rw [ho,W64_id (z:=(s.Offset+(i:Int))/((2^k:Nat):Int)-_) (by omega) (by omega)]
  refine (idx_some (by omega) (by omega)).bind λz _=>(idx_some (by omega) (by omega)).bind λz1 _=>(idx_some (by omega) (by omega)).bind λz2 _=>?_
  rw [show W64 ((i:Int)+1)=((i+1:Nat):Int) by rw [W64_id (by omega) (by omega)];rfl];exact ih (i+1) n _ (by omega) rfl (by dsimp only;rw [setI_len];exact hl)
theorem down_tot {s:T_api_Side} (hs:sdE s=0) {k:Nat} (hk:k≤30):Tot BS (m_hist_down s (toU64 (k:Int))):=by
 obtain ⟨⟨h1,h2,h3⟩,h4⟩:=sd_ok hs;unfold m_hist_down
 refine Tot.ite (λ_=>.some .z) λhl=>?_
 have hn:s.Counts≠[]:=λh=>hl (by rw [h];rfl)
 have hP:0<2^k:=Nat.pow_pos (by omega);have h0:0<s.Counts.length:=List.length_pos_iff.2 hn;obtain ⟨d1,d2⟩:=div_add (o:=s.Offset) hP (s.Counts.length-1);obtain ⟨d3,d4⟩:=div_small (o:=s.Offset) hP h2 h3;rw [jn_eq,span_eq hs hn hk,bndS];unfold mkL;rw [if_pos (by omega),bndS,shr_div _ hk];dsimp only;rw [jn_eq];obtain ⟨f,hf⟩:=fuelS (s.Counts.length+1) (by omega);rw [hf];refine down_L1 (β:=Unit) hs hn hk (Q:=BS) _ (λy ho hy=>.some ⟨by omega,by omega,by omega⟩) s.Counts.length 0 f _ (by omega) rfl ?_;dsimp only;rw [List.length_replicate]
 omega
theorem hc_ok {h:T_api_Hist} (hh:hcE h=0):-10≤h.Scale∧h.Scale≤20∧sdE h.Pos=0∧sdE h.Neg=0:=by
 unfold hcE at hh
 by_cases h1:h.Scale < -10∨h.Scale>20
 ·rw [if_pos h1] at hh;simp at hh
 rw [if_neg h1] at hh
 by_cases c1:sdE h.Pos≠0
 ·rw [if_pos c1] at hh;exact absurd hh c1
 rw [if_neg c1] at hh
 by_cases c2:sdE h.Neg≠0
 ·rw [if_pos c2] at hh;exact absurd hh c2
 exact ⟨by omega,by omega,Decidable.not_not.1 c1,Decidable.not_not.1 c2⟩
structure DownR (h:T_api_Hist) (b:Int) (r:T_api_Hist×Int):Prop where
 l:LH r.1
 p:BS r.1.Pos
 n:BS r.1.Neg
 bad:hcE h≠0→r.1=hZ
 good:hcE h=0→0≤b→b≤h.Scale+10→r.1.Scale=h.Scale-b
theorem Down_tot {h:T_api_Hist} (hl:LH h) (b:Int):Tot (DownR h b) (m_hist_Down h b):=by
 unfold m_hist_Down;rw [HCheck_eq h hl.p hl.n,bndS]
 refine Tot.ite (λh1=>.some ⟨.z,.z,.z,λ_=>rfl,λh2=>absurd h2 h1⟩) λh1=>?_
 have hh:hcE h=0:=Decidable.not_not.1 h1;obtain ⟨s1,s2,c1,c2⟩:=hc_ok hh
 have e1:W64 (h.Scale - -10)=h.Scale+10:=by rw [W64_id (by omega) (by omega)];omega
 rw [jn_eq,e1]
 refine Tot.ite (λh2=>?_) λh2=>?_
 ·exact .some ⟨.z,.z,.z,λ_=>rfl,λ_ h3=>by omega⟩
 ·dsimp only
  refine Tot.ite (λh3=>.some ⟨.z,.z,.z,λ_=>rfl,λ_ _ h4=>?_⟩) λh3=>?_
  ·simp only [decide_eq_true_iff] at h3
   omega
  ·simp only [decide_eq_true_iff] at h3
   obtain ⟨k,rfl⟩:∃ k:Nat,b=(k:Int):=⟨b.toNat,by omega⟩
   refine (down_tot c1 (k:=k) (by omega)).bind λp hp=>(down_tot c2 (k:=k) (by omega)).bind λq hq=>.some ⟨⟨?_,?_⟩,hp,hq,λh4=>absurd hh h4,λ_ _ _=>?_⟩
   ·have:=hp.l;show p.Counts.length≤_;omega
   ·have:=hq.l;show q.Counts.length≤_;omega
   ·show W64 (h.Scale-(k:Int))=_
    rw [W64_id (by omega) (by omega)]
theorem Fit_tot {h:T_api_Hist} (hl:LH h) (b:Int):Tot (λr=>LH r.1) (m_hist_Fit h b):=by
 unfold m_hist_Fit;rw [HCheck_eq h hl.p hl.n,bndS]
 refine Tot.ite (λh1=>.some .z) λh1=>?_
 have hh:hcE h=0:=Decidable.not_not.1 h1;obtain ⟨s1,s2,c1,c2⟩:=hc_ok hh
 have e1:W64 (h.Scale - -10)=h.Scale+10:=by rw [W64_id (by omega) (by omega)];omega
 rw [jn_eq]
 have key:∀ (j:Unit→Option (T_api_Hist×Int)),Tot (λr=>LH r.1) (j ())→∀ m i n:Nat,(i:Int)+m=h.Scale+11→Tot (λr=>LH r.1) (m_hist_Fit_L1 h b j (n+m+1) (i:Int)):=by
  intro j hj m
  induction m with
  | zero=>
   intro i n hi;rw [Nat.add_zero,m_hist_Fit_L1,e1,if_neg (by omega)];exact hj
  | succ m ih=>
   intro i n hi;rw [m_hist_Fit_L1,e1,if_pos (by omega)];obtain ⟨v,hv⟩:=span_tot h.Pos (toU64 (i:Int));obtain ⟨w,hw⟩:=span_tot h.Neg (toU64 (i:Int));rw [hv,bndS,hw,bndS]
   refine Tot.ite (λ_=>(Down_tot hl _).bind λr hr=>.some hr.l) λ_=>?_
   rw [show W64 ((i:Int)+1)=((i+1:Nat):Int) by rw [W64_id (by omega) (by omega)];rfl];exact ih (i+1) n (by omega)
 obtain ⟨f,hf⟩:=fuelS 50 (by omega);obtain ⟨m,hm⟩:∃ m:Nat,h.Scale+11=m:=⟨(h.Scale+11).toNat,by omega⟩;rw [hf,show f+50=(f+49-m)+m+1 by omega];exact key (λ_=>some (hZ,4)) (Tot.some (r:=(hZ,4)) LH.z) m 0 _ (by omega)
end Go.Proofs.YtaikmpmokihciaaGreat
set_option maxRecDepth 20000
set_option linter.unusedVariables false
set_option linter.unusedSimpArgs false
namespace Go.Proofs.YtaikmpmokihciaaGreat
open Go Go.RowKit Go.Wk
theorem scan_tot {α S R:Type} {l:List α} {s:S} {B:Nat→α→S→(S→Option R)→Option R} {J:S→Option R} {Q:R→Prop} (I:Nat→S→Prop) (h0:I 0 s) (hJ:∀ s,I l.length s→Tot Q (J s))
 (hB:∀ i x s k,i<l.length→I i s→(∀ s',I (i+1) s'→Tot Q (k s'))→Tot Q (B i x s k)):Tot Q (scanL l s B J):=by
 have key:∀ (m:List α) (i:Nat) (s:S),i+m.length=l.length→I i s→Tot Q (scan B J i m s):=by
  intro m
  induction m with
  | nil=>
   intro i s hi hI;exact hJ s (by rw [← hi];exact hI)
  | cons x m ih=>
   intro i s hi hI;rw [List.length_cons] at hi
   exact hB i x s _ (by omega) hI λs' hs=>ih (i+1) s' (by omega) hs
 exact key l 0 s (by omega) h0
theorem toU64_sub (x y:Int):((toU64 x-toU64 y).toNat:Int)=(x-y)%18446744073709551616:=by
 unfold toU64;rw [UInt64.toNat_sub,UInt64.toNat_ofNat',UInt64.toNat_ofNat']
 omega
theorem At_tot {s:T_api_Side} (hs:s.Counts.length≤1000000) (x:Int):Tot (λ_=>True) (m_hist_At s x):=by
 unfold m_hist_At;rw [jn_eq]
 refine Tot.ite (λh=>.some trivial) λh=>?_
 dsimp only
 have hl:((toU64 (s.Counts.length:Int)).toNat:Int)=s.Counts.length:=by
  unfold toU64;rw [UInt64.toNat_ofNat']
  omega
 rw [hl]
 refine Tot.ite (λ_=>.some trivial) λh2=>?_
 simp only [decide_eq_true_iff] at h2;rw [toU64_sub] at h2
 have e:W64 (x-s.Offset)=(x-s.Offset)%18446744073709551616:=by
  unfold W64 IntKind.wrap IntKind.signed IntKind.bits;simp
  omega
 refine (idx_some (by rw [e];omega) (by rw [e];omega)).bind λr _=>.some trivial
structure LevR (r:T_api_Hist×T_api_Hist×Int):Prop where
 a:LH r.1
 b:LH r.2.1
 ap:BS r.1.Pos
 an:BS r.1.Neg
 bp:BS r.2.1.Pos
 bn:BS r.2.1.Neg
theorem Level_tot {x y:T_api_Hist} (hx:LH x) (hy:LH y):Tot LevR (m_fold_Level x y):=by
 unfold m_fold_Level;obtain ⟨f,hf⟩:=fuelS 3 (by omega);rw [jn_eq,hf];have z:LevR (hZ,hZ,0):=⟨.z,.z,.z,.z,.z,.z⟩;rw [m_fold_Level_L1,if_pos (by omega)];rw [show idx ([x,y]:List T_api_Hist) 0=some x from rfl,bndS,HCheck_eq x hx.p hx.n,bndS]
 refine Tot.ite (λ_=>.some ⟨.z,.z,.z,.z,.z,.z⟩) λ_=>?_
 rw [show W64 (0+1)=1 from rfl,m_fold_Level_L1,if_pos (by omega),show idx ([x,y]:List T_api_Hist) 1=some y from rfl,bndS,HCheck_eq y hy.p hy.n,bndS]
 refine Tot.ite (λ_=>.some ⟨.z,.z,.z,.z,.z,.z⟩) λ_=>?_
 rw [show W64 (1+1)=2 from rfl,m_fold_Level_L1,if_neg (by omega)]
 exact (Down_tot hx _).bind λp hp=>(Down_tot hy _).bind λq hq=>.some ⟨hp.l,hq.l,hp.p,hp.n,hq.p,hq.n⟩
theorem cover_tot {a b:T_api_Side} (ha:BS a) (hb:BS b):Tot (λr:Int×Int=>0≤r.2) (m_fold_cover a b):=by
 have:=ha.l;have:=ha.a;have:=ha.b;have:=hb.l;have:=hb.a;have:=hb.b;unfold m_fold_cover
 refine Tot.ite (λ_=>.some (by show (0:Int)≤_;omega)) λh1=>Tot.ite (λ_=>.some (by show (0:Int)≤_;omega)) λh2=>?_
 unfold m_fold_ends;rw [bndS,bndS];refine .some ?_;dsimp only;rw [W64_id (z:=a.Offset+_) (by omega) (by omega),W64_id (z:=b.Offset+_) (by omega) (by omega),W64_id (by omega) (by omega)]
 omega
theorem Merge_tot {x y:T_api_Hist} (hx:LH x) (hy:LH y):Tot (λr=>LH r.1) (m_fold_Merge x y):=by
 unfold m_fold_Merge
 refine (Level_tot hx hy).bind λp hp=>Tot.ite (λ_=>.some .z) λ_=>?_
 rw [Total_eq _ hp.a.p hp.a.n,bndS,Total_eq _ hp.b.p hp.b.n,bndS]
 refine Tot.ite (λ_=>.some .z) λ_=>?_
 refine Tot.jn (R:=LH) (λy hy=>.some hy) λj hj=>?_
 refine Tot.jn (R:=LH) (λy hy=>?_) λj2 hj2=>?_
 ·refine Tot.jn (R:=LH) (λz hz=>hj z hz) λj3 hj3=>?_
  refine (cover_tot hp.an hp.bn).bind λc hc=>Tot.ite (λ_=>.some .z) λh1=>Tot.ite (λ_=>hj3 _ hy) λ_=>?_
  refine Tot.jn (R:=λz=>z.Pos=y.Pos∧z.Neg.Counts.length≤160) (λz hz=>?_) λj4 hj4=>?_
  ·refine Tot.jn (R:=LH) (λv hv=>hj3 _ hv) λj5 hj5=>?_
   rw [m_fold_Merge_L1_scan _ _ _ _ _ (by have:=hz.2;omega)]
   refine scan_tot (λ_ s=>s.Pos=y.Pos∧s.Neg.Counts.length=z.Neg.Counts.length) ⟨hz.1,rfl⟩ (λs hs=>hj5 _ ⟨by rw [hs.1];exact hy.p,by have:=hz.2;omega⟩) λi x s k hi hs hk=>?_
   refine (At_tot hp.a.n _).bind λ_ _=>(At_tot hp.b.n _).bind λ_ _=>(idx_some (by omega) (by rw [hs.2];omega)).bind λ_ _=>hk _ ⟨hs.1,?_⟩
   dsimp only;rw [setI_len];exact hs.2
  ·unfold mkL
   rw [if_pos (by omega),bndS];refine hj4 _ ⟨rfl,?_⟩;dsimp only;rw [List.length_replicate];omega
 ·refine (cover_tot hp.ap hp.bp).bind λc hc=>Tot.ite (λ_=>.some .z) λh1=>Tot.ite (λ_=>hj2 _ ⟨Nat.zero_le _,Nat.zero_le _⟩) λ_=>?_
  refine Tot.jn (R:=λz=>z.Neg.Counts.length≤160∧z.Pos.Counts.length≤160) (λz hz=>?_) λj4 hj4=>?_
  ·refine Tot.jn (R:=LH) (λv hv=>hj2 _ hv) λj5 hj5=>?_
   rw [m_fold_Merge_L2_scan _ _ _ _ _ (by have:=hz.2;omega)]
   refine scan_tot (λ_ s=>s.Neg=z.Neg∧s.Pos.Counts.length=z.Pos.Counts.length) ⟨rfl,rfl⟩ (λs hs=>hj5 _ ⟨by have:=hz.2;omega,by rw [hs.1];have:=hz.1;omega⟩) λi x s k hi hs hk=>?_
   refine (At_tot hp.a.p _).bind λ_ _=>(At_tot hp.b.p _).bind λ_ _=>(idx_some (by omega) (by rw [hs.2];omega)).bind λ_ _=>hk _ ⟨hs.1,?_⟩
   dsimp only;rw [setI_len];exact hs.2
  ·unfold mkL
   rw [if_pos (by omega),bndS];refine hj4 _ ⟨Nat.zero_le _,?_⟩;dsimp only;rw [List.length_replicate];omega
theorem Trim_tot {s:T_api_Side} (hs:s.Counts.length≤1000):Tot (λr=>r.Counts.length≤1000000) (m_hist_Trim s):=by
 unfold m_hist_Trim;have u1:∀ (a:Nat) (j:Int→Option T_api_Side),(∀ b:Nat,a≤b→b≤s.Counts.length→Tot (λr:T_api_Side=>r.Counts.length≤1000000) (j (b:Int)))→∀ m b n,a+m=b→b≤s.Counts.length →
  Tot (λr:T_api_Side=>r.Counts.length≤1000000) (m_hist_Trim_L1 s (a:Int) j (n+m+1) (b:Int)):=by
  intro a j hj m
  induction m with
  | zero=>
   intro b n hb hl;rw [Nat.add_zero,m_hist_Trim_L1,jn_eq,if_neg (by omega)];dsimp only;rw [if_neg (by decide)];exact hj b (by omega) hl
  | succ m ih=>
   intro b n hb hl;rw [m_hist_Trim_L1,jn_eq,if_pos (by omega),show W64 ((b:Int)-1)=((b-1:Nat):Int) by rw [W64_id (by omega) (by omega)];omega]
   refine (idx_some (by omega) (by omega)).bind λz _=>?_
   dsimp only
   exact Tot.ite (λ_=>ih (b-1) n (by omega) (by omega)) λ_=>hj b (by omega) hl
 have u2:∀ (j:Int→Option T_api_Side),(∀ b:Nat,b≤s.Counts.length→Tot (λr:T_api_Side=>r.Counts.length≤1000000) (j (b:Int)))→∀ m b n,b+m=s.Counts.length →
  Tot (λr:T_api_Side=>r.Counts.length≤1000000) (m_hist_Trim_L2 s j (n+m+1) (b:Int)):=by
  intro j hj m
  induction m with
  | zero=>
   intro b n hb;rw [Nat.add_zero,m_hist_Trim_L2,jn_eq,if_neg (by omega)];dsimp only;rw [if_neg (by decide)];exact hj b (by omega)
  | succ m ih=>
   intro b n hb;rw [m_hist_Trim_L2,jn_eq,if_pos (by omega)]
   refine (idx_some (by omega) (by omega)).bind λz _=>?_
   dsimp only;rw [show W64 ((b:Int)+1)=((b+1:Nat):Int) by rw [W64_id (by omega) (by omega)];rfl]
   exact Tot.ite (λ_=>ih (b+1) n (by omega)) λ_=>hj b (by omega)
 rw [jn_eq];obtain ⟨f,hf⟩:=fuelS (s.Counts.length+1) (by omega);rw [hf];refine u2 _ (λa ha=>?_) s.Counts.length 0 f (by omega);rw [jn_eq];rw [show f+(s.Counts.length+1)=(f+a)+(s.Counts.length-a)+1 by omega];refine u1 a _ (λb hb hl=>?_) (s.Counts.length-a) s.Counts.length _ (by omega) (by omega)
 refine Tot.ite (λ_=>.some (Nat.zero_le _)) λ_=>?_
 unfold cutL m_slices_Clone_uint64_uint64;rw [if_pos (by omega),bndS]
 have hlen:((s.Counts.take (b:Int).toNat).drop (a:Int).toNat).length≤1000000:=by
  rw [List.length_drop,List.length_take];omega
 rw [app_some (by simpa using Nat.le_trans hlen (by omega)),bndS];exact .some hlen
theorem left_tot {a b:T_api_Side} (ha:a.Counts.length≤160) (hb:b.Counts.length≤160):Tot (λr=>r.1.Counts.length≤1000000) (m_fold_left a b):=by
 unfold m_fold_left
 refine Tot.jn (R:=λ_=>True) (λ_ _=>?_) λj hj=>?_
 ·refine Tot.jn (R:=λy=>y.Counts.length≤1000) (λy hy=>(Trim_tot hy).bind λr hr=>.some hr) λj hj=>?_
  rw [m_fold_left_L1_scan _ _ _ _ (by omega)]
  refine scan_tot (λi s=>s.Counts.length=i) rfl (λs hs=>hj _ (by have h9:s.Counts.length=a.Counts.length:=hs;omega)) λi x s k hi hs hk=>?_
  rw [bndS]
  refine (At_tot (by omega) _).bind λ_ _=>?_
  rw [app_some (by simp;omega),bndS];exact hk _ (by simp;omega)
 ·rw [m_fold_left_L2_scan _ _ _ (by omega)]
  refine scan_tot (λ_ _=>True) trivial (λ_ _=>hj _ trivial) λi x s k hi hs hk=>?_
  rw [bndS]
  exact (At_tot (by omega) _).bind λ_ _=>Tot.ite (λ_=>.some (Nat.zero_le _)) λ_=>hk _ trivial
theorem Sub_tot {x y:T_api_Hist} (hx:LH x) (hy:LH y):Tot (λr=>LH r.1) (m_fold_Sub x y):=by
 unfold m_fold_Sub
 refine (Level_tot hx hy).bind λp hp=>Tot.ite (λ_=>.some .z) λ_=>?_
 exact (left_tot hp.ap.l hp.bp.l).bind λu hu=>(left_tot hp.an.l hp.bn.l).bind λv hv=>Tot.ite (λ_=>.some .z) λ_=>.some ⟨hu,hv⟩
abbrev hE (k:Nat):T_api_Hist:=⟨-(k:Int),0,⟨0,[]⟩,⟨0,[]⟩⟩
theorem hE_ok {k:Nat} (hk:k≤10):hcE (hE k)=0:=by
 unfold hcE sdE
 have:¬(-(k:Int) < -10∨-(k:Int)>20):=by omega
 rw [if_neg this];simp [totN,sumN]
theorem hE_down {k:Nat} (hk:k<10):∃ r,m_hist_Down (hE k) 1=some (hE (k+1),r):=by
 unfold m_hist_Down;rw [HCheck_eq _ (Nat.zero_le _) (Nat.zero_le _),bndS,hE_ok (by omega),if_neg (by simp),jn_eq,if_neg (by omega)];dsimp only;rw [W64_id (z:=-(k:Int) - -10) (by omega) (by omega),if_neg (by simp;omega)];rw [show m_hist_down (hE k).Pos (toU64 1)=some ⟨0,[]⟩ from rfl,bndS,bndS,W64_id (by omega) (by omega)];exact ⟨0,by rw [show -(k:Int)-1=-((k+1:Nat):Int) by omega]⟩
def stepsH (h:T_api_Hist) (m:Nat):Prop:=(∃ k:Nat,k≤10∧h=hE k∧10≤k+m)∨(hcE h≠0∧11≤m)∨(hcE h=0∧h.Scale+22≤m)
theorem Together_tot (b:Int):∀ m n x y,LH x→LH y→stepsH x m→Tot (λr=>LH r.1) (m_tocum_Together_L1 b (n+m+1) x y):=by
 intro m
 induction m with
 | zero=>
  intro n x y hx hy hs;rw [Nat.add_zero,m_tocum_Together_L1]
  refine (Merge_tot hx hy).bind λp hp=>Tot.ite (λ_=>.some .z) λ_=>Tot.jn (R:=λ_=>True) (λv _=>Tot.ite (λ_=>.some hp) λ_=>?_) λj hj=>Tot.ite (λ_=>hj _ trivial) λ_=>hj _ trivial
  have e:x.Scale=-10:=by
   rcases hs with ⟨k,h1,rfl,h2⟩|⟨_,h⟩|⟨h,h2⟩
   ·show -(k:Int)=-10;omega
   ·omega
   ·have:=(hc_ok h).1;omega
  rw [if_pos e];exact .some .z
 | succ m ih=>
  intro n x y hx hy hs;rw [m_tocum_Together_L1]
  refine (Merge_tot hx hy).bind λp hp=>Tot.ite (λ_=>.some .z) λ_=>Tot.jn (R:=λ_=>True) (λv _=>Tot.ite (λ_=>.some hp) λ_=>Tot.ite (λ_=>.some .z) λe=>?_) λj hj=>Tot.ite (λ_=>hj _ trivial) λ_=>hj _ trivial
  rcases hs with ⟨k,h1,rfl,h2⟩|⟨h,h2⟩|⟨h,h2⟩
  ·have hk:k<10:=by
    have:¬(-(k:Int)=-10):=e
    omega
   obtain ⟨r,hr⟩:=hE_down hk;rw [hr,bndS]
   refine (Down_tot hy _).bind λq hq=>ih n _ _ ⟨Nat.zero_le _,Nat.zero_le _⟩ hq.l (.inl ⟨k+1,by omega,rfl,by omega⟩)
  ·refine (Down_tot hx _).bind λp hp=>(Down_tot hy _).bind λq hq=>ih n _ _ hp.l hq.l (.inl ⟨0,by omega,?_,by omega⟩)
   rw [hp.bad h];rfl
  ·have hb:=(hc_ok h).1
   refine (Down_tot hx _).bind λp hp=>(Down_tot hy _).bind λq hq=>ih n _ _ hp.l hq.l ?_
   have hsc:=hp.good h (by omega) (by omega)
   by_cases h3:hcE p.1=0
   ·exact .inr (.inr ⟨h3,by omega⟩)
   ·exact .inr (.inl ⟨h3,by omega⟩)
theorem Tog_tot {x y:T_api_Hist} (hx:LH x) (hy:LH y) (b:Int):Tot (λr=>LH r.1) (m_tocum_Together x y b):=by
 unfold m_tocum_Together
 refine (Level_tot hx hy).bind λp hp=>Tot.ite (λ_=>.some .z) λ_=>?_
 obtain ⟨f,hf⟩:=fuelS 50 (by omega);rw [hf];refine Together_tot b 49 f _ _ hp.a hp.b ?_
 by_cases h:hcE p.1=0
 ·exact .inr (.inr ⟨h,by have:=(hc_ok h).2.1;omega⟩)
 ·exact .inr (.inl ⟨h,by omega⟩)
end Go.Proofs.YtaikmpmokihciaaGreat
set_option maxRecDepth 20000
set_option linter.unusedVariables false
set_option linter.unusedSimpArgs false
namespace Go.Proofs.YtaikmpmokihciaaGreat
open Go Go.RowKit Go.Wk
theorem bits_tot (x:UInt64):Tot (λ_=>True) (m_num_bits x):=by
 unfold m_num_bits m_num_Canon m_num_Odd;rw [bndS]
 split
 ·exact .some trivial
 ·exact .some trivial
theorem nless_tot (x y:UInt64):Tot (λ_=>True) (m_num_Less x y):=by
 unfold m_num_Less m_num_of;rw [bndS,bndS];exact .some trivial
theorem nsub_tot (x y:UInt64):Tot (λ_=>True) (m_num_Sub x y):=by
 unfold m_num_Sub m_num_of;rw [bndS,bndS]
 exact (bits_tot _).bind λ_ _=>.some trivial
theorem nparts_tot (x:UInt64×UInt64):Tot (λ_=>True) (m_num_parts x):=by
 unfold m_num_parts
 exact (bits_tot _).bind λ_ _=>(bits_tot _).bind λ_ _=>.some trivial
theorem nsubp_tot (a b c d:UInt64):Tot (λ_=>True) (m_num_SubPhasor a b c d):=by
 unfold m_num_SubPhasor m_num_phasor m_num_of;simp only [bndS]
 exact (nparts_tot _).bind λ_ _=>.some trivial
theorem naddp_tot (a b c d:UInt64):Tot (λ_=>True) (m_num_AddPhasor a b c d):=by
 unfold m_num_AddPhasor m_num_phasor m_num_of;simp only [bndS]
 exact (nparts_tot _).bind λ_ _=>.some trivial
theorem dfin_tot {l:List UInt64} (hl:l.length≤10):Tot (λ_=>True) (m_todelta_finite l):=by
 unfold m_todelta_finite;rw [jn_eq,m_todelta_finite_L1_scan _ _ (by omega)]
 refine scan_tot (λ_ _=>True) trivial (λ_ _=>.some trivial) λi x s k _ _ hk=>?_
 rw [bndS,fin_eq,bndS]
 exact Tot.ite (λ_=>.some trivial) λ_=>hk _ trivial
theorem cfin_tot {l:List UInt64} (hl:l.length≤10):Tot (λ_=>True) (m_tocum_finite l):=by
 unfold m_tocum_finite;rw [jn_eq,m_tocum_finite_L1_scan _ _ (by omega)]
 refine scan_tot (λ_ _=>True) trivial (λ_ _=>.some trivial) λi x s k _ _ hk=>?_
 rw [bndS,fin_eq,bndS]
 exact Tot.ite (λ_=>.some trivial) λ_=>hk _ trivial
theorem less_tot {p:Pt} {v:T_todelta_value} (hp:LH p.Hist) (hv:LH v.h):Tot (λr=>LH r.1.h) (m_todelta_less p v):=by
 unfold m_todelta_less
 refine Tot.ite (λ_=>Tot.ite (λ_=>.some .z) λ_=>Tot.ite (λ_=>.some .z) λ_=>.some .z) λ_=>Tot.ite (λ_=>?_) λ_=>Tot.ite (λ_=>?_) λ_=>?_
 ·refine (nsub_tot _ _).bind λz _=>Tot.jn (R:=λ_=>True) (λy _=>Tot.ite (λ_=>.some .z) λ_=>(dfin_tot (by simp)).bind λ_ _=>?_) λj hj=>?_
  ·exact Tot.jn (R:=λ_=>True) (λy _=>Tot.ite (λ_=>.some .z) λ_=>.some .z) λj hj=>Tot.ite (λ_=>(dfin_tot (by simp)).bind λ_ _=>hj _ trivial) λ_=>hj _ trivial
  ·exact Tot.ite (λ_=>(nless_tot _ _).bind λ_ _=>hj _ trivial) λ_=>hj _ trivial
 ·refine (nsubp_tot _ _ _ _).bind λz _=>(dfin_tot (by simp)).bind λ_ _=>?_
  exact Tot.jn (R:=λ_=>True) (λy _=>Tot.ite (λ_=>.some .z) λ_=>.some .z) λj hj=>Tot.ite (λ_=>(dfin_tot (by simp)).bind λ_ _=>hj _ trivial) λ_=>hj _ trivial
 ·exact (Sub_tot hp hv).bind λr hr=>Tot.ite (λ_=>.some .z) λ_=>.some hr
theorem dcheck_tot (s:T_api_State) (p:Pt):Tot (λ_=>True) (m_todelta_check s p):=by
 unfold m_todelta_check
 exact Tot.ite (λ_=>.some trivial) λ_=>Tot.ite (λ_=>.some trivial) λ_=>Tot.jn (R:=λ_=>True) (λy _=>Tot.ite (λ_=>.some trivial) λ_=>.some trivial) λj hj=>Tot.ite (λ_=>hj _ trivial) λ_=>hj _ trivial
theorem begins_tot (s:T_api_State) (p:Pt):Tot (λ_=>True) (m_todelta_begins s p):=by
 unfold m_todelta_begins
 exact Tot.ite (λ_=>.some trivial) λ_=>Tot.ite (λ_=>.some trivial) λ_=>Tot.ite (λ_=>.some trivial) λ_=>.some trivial
theorem ccheck_tot (s:T_api_State) (p:Pt):Tot (λ_=>True) (m_tocum_check s p):=by
 unfold m_tocum_check
 exact Tot.jn (R:=λ_=>True) (λ_ _=>.some trivial) λj hj=>Tot.ite (λ_=>hj _ trivial) λ_=>Tot.ite (λ_=>.some trivial) λ_=>Tot.ite (λ_=>.some trivial) λ_=>hj _ trivial
theorem Few.h {p:Pt} (hp:Few p):LH p.Hist:=⟨hp.p,hp.n⟩
abbrev ptZ:Pt:=⟨[],[],0,0,false,0,0,0,0,0,hZ,0⟩
theorem few0:Few ptZ:=⟨Nat.zero_le _,Nat.zero_le _,Nat.zero_le _⟩
theorem dNext_tot {s:T_api_State} {p:Pt} (hs:LH s.Hist) (hp:Few p) (b:Int):Tot (λr=>LH r.1.Hist∧Few r.2.1) (m_todelta_Next s p b):=by
 unfold m_todelta_Next;rw [PCheck_eq p hp.p hp.n,bndS]
 refine Tot.jn2 (R:=λ_ q=>Few q) (λe q hq=>?_) λj hj=>?_
 ·refine Tot.jn (R:=λ_=>True) (λe2 _=>?_) λj hj=>?_
  ·refine Tot.ite (λ_=>.some ⟨.z,few0⟩) λ_=>?_
   rw [clone_pt q hq,bndS]
   refine Tot.jn (R:=λy=>LH y.Hist) (λy hy=>?_) λj hj=>?_
   ·refine (begins_tot s q).bind λf _=>Tot.ite (λ_=>.some ⟨hy,⟨hq.a,hq.p,hq.n⟩⟩) λ_=>?_
    refine (less_tot hq.h hs).bind λd hd=>?_
    refine Tot.jn2 (R:=λy q=>LH y.Hist∧Few q) (λy q h=>.some h) λj hj=>?_
    exact Tot.ite (λ_=>Tot.ite (λ_=>(Level_tot hq.h hs).bind λl hl=>hj _ _ ⟨hl.a,⟨hq.a,hd.p,hd.n⟩⟩) λ_=>hj _ _ ⟨hy,⟨hq.a,hd.p,hd.n⟩⟩) λ_=>hj _ _ ⟨hy,⟨hq.a,hq.p,hq.n⟩⟩
   ·rw [hclone_eq q.Hist hq.p hq.n,bndS]
    exact hj _ ⟨hq.p,hq.n⟩
  ·exact Tot.ite (λ_=>(dcheck_tot s q).bind λ_ _=>hj _ trivial) λ_=>hj _ trivial
 ·exact Tot.ite (λ_=>hj _ _ hp) λ_=>Tot.ite (λ_=>hj _ _ hp) λ_=>Tot.ite (λ_=>hj _ _ hp) λ_=>Tot.ite (λ_=>(Fit_tot hp.h b).bind λr hr=>hj _ _ ⟨hp.a,hr.p,hr.n⟩) λ_=>hj _ _ hp
theorem answer_tot {s:T_api_State} {p:Pt} (hs:LH s.Hist) (hp:Few p) (f:Int):Tot Few (m_tocum_answer s p f):=by
 unfold m_tocum_answer;rw [clone_pt p hp,bndS]
 have z:∀ (a b c d e f g h i j k),Few (⟨a,p.Attrs,b,c,d,e,f,g,h,i,hZ,j⟩:Pt)∧k=k:=λ_ _ _ _ _ _ _ _ _ _ _=>⟨⟨hp.a,Nat.zero_le _,Nat.zero_le _⟩,(rfl:_=(_:Unit))⟩
 refine Tot.jn (R:=Few) (λy hy=>.some hy) λj hj=>Tot.ite (λ_=>hj _ ⟨hp.a,Nat.zero_le _,Nat.zero_le _⟩) λ_=>Tot.ite (λ_=>hj _ ⟨hp.a,Nat.zero_le _,Nat.zero_le _⟩) λ_=>Tot.ite (λ_=>hj _ ⟨hp.a,Nat.zero_le _,Nat.zero_le _⟩) λ_=>?_
 rw [hclone_eq s.Hist hs.p hs.n,bndS];exact hj _ ⟨hp.a,hs.p,hs.n⟩
theorem cNext_tot {s:T_api_State} {p:Pt} (hs:LH s.Hist) (hp:Few p) (b:Int):Tot (λr=>LH r.1.Hist∧Few r.2.1) (m_tocum_Next s p b):=by
 unfold m_tocum_Next;rw [PCheck_eq p hp.p hp.n,bndS]
 refine Tot.jn2 (R:=λ_ q=>Few q) (λe q hq=>?_) λj hj=>?_
 ·refine Tot.jn (R:=λ_=>True) (λe2 _=>?_) λj hj=>?_
  ·refine Tot.ite (λ_=>.some ⟨.z,few0⟩) λ_=>?_
   refine Tot.jn2 (R:=λ_ y=>LH y.Hist) (λf y hy=>?_) λj3 hj3=>?_
   ·refine Tot.jn (R:=λy=>LH y.Hist) (λy hy=>?_) λj hj=>?_
    ·rw [hclone_eq y.Hist hy.p hy.n,bndS]
     exact (answer_tot (s:=⟨y.Some,y.Start,y.Time,y.Int_,y.Re,y.Im,y.Hist⟩) hy hq f).bind λr hr=>.some ⟨hy,hr⟩
    ·exact Tot.ite (λ_=>hj _ hq.h) λ_=>hj _ hy
   ·refine Tot.ite (λ_=>hj3 _ _ hs) λ_=>Tot.ite (λ_=>hj3 _ _ hs) λ_=>?_
    refine Tot.jn2 (R:=λ_ y=>LH y.Hist) (λf y hy=>Tot.ite (λ_=>hj3 _ _ hy) λ_=>hj3 _ _ hy) λj5 hj5=>?_
    refine Tot.jn (R:=λy=>LH y.Hist) (λy hy=>hj5 _ _ hy) λj6 hj6=>?_
    refine Tot.ite (λ_=>?_) λ_=>Tot.ite (λ_=>?_) λ_=>?_
    ·exact Tot.jn (R:=λ_=>True) (λy _=>Tot.ite (λ_=>hj5 _ _ hs) λ_=>hj6 _ hs) λj hj=>Tot.ite (λ_=>hj _ trivial) λ_=>hj _ trivial
    ·exact Tot.jn2 (R:=λy _=>LH y) (λy v hy=>Tot.ite (λ_=>hj5 _ _ hs) λ_=>hj6 _ hy) λj hj=>(Tog_tot hs hq.h b).bind λr hr=>hj _ _ hr
    ·refine (naddp_tot _ _ _ _).bind λz _=>Tot.jn (R:=λ_=>True) (λy _=>Tot.ite (λ_=>hj5 _ _ hs) λ_=>hj6 _ hs) λj hj=>(cfin_tot (by simp)).bind λ_ _=>?_
     exact Tot.ite (λ_=>(cfin_tot (by simp)).bind λ_ _=>hj _ trivial) λ_=>hj _ trivial
  ·exact Tot.ite (λ_=>(ccheck_tot s q).bind λ_ _=>hj _ trivial) λ_=>hj _ trivial
 ·exact Tot.ite (λ_=>hj _ _ hp) λ_=>Tot.ite (λ_=>hj _ _ hp) λ_=>Tot.ite (λ_=>hj _ _ hp) λ_=>Tot.ite (λ_=>(Fit_tot hp.h b).bind λr hr=>hj _ _ ⟨hp.a,hr.p,hr.n⟩) λ_=>hj _ _ hp
theorem pass_tot {s:T_api_State} {p:Pt} (hp:Few p) (b:Int):Tot (λr=>LH r.1.Hist∧Few r.2.1) (m_convert_pass s p b):=by
 unfold m_convert_pass;rw [clone_pt p hp,bndS]
 refine Tot.jn (R:=Few) (λy hy=>.some ⟨.z,hy⟩) λj hj=>Tot.ite (λ_=>hj _ ⟨hp.a,hp.p,hp.n⟩) λ_=>Tot.ite (λ_=>.some ⟨.z,few0⟩) λ_=>Tot.ite (λ_=>.some ⟨.z,few0⟩) λ_=>Tot.ite (λ_=>hj _ ⟨hp.a,hp.p,hp.n⟩) λ_=>hj _ hp
end Go.Proofs.YtaikmpmokihciaaGreat
set_option maxRecDepth 20000
set_option linter.unusedVariables false
set_option linter.unusedSimpArgs false
namespace Go.Proofs.YtaikmpmokihciaaGreat
open Go Go.RowKit Go.Wk
abbrev Cv:=T_convert_Converter
abbrev St:=T_api_State
def rdN (out t:Int):Nat:=if t=1∧out=2 then 79 else if t=2∧out=1 then 80 else 81
theorem road_eq (a b c d e f g:Int) (p:Pt):m_convert_Converter_road_s2 a b c d e f g p=some (rdN a p.Temp):=by
 unfold m_convert_Converter_road_s2 rdN
 split
 ·rfl
 ·split<;>rfl
theorem fc_tot {out t:Int} {s:St} {p:Pt} (hs:LH s.Hist) (hp:Few p) (b:Int):Tot (λr=>LH r.1.Hist∧Few r.2.1) (m_fc_1 (rdN out t) s p b):=by
 unfold rdN m_fc_1
 split
 ·rw [if_pos rfl]
  exact dNext_tot hs hp b
 ·split
  ·rw [if_neg (by omega),if_pos rfl]
   exact cNext_tot hs hp b
  ·rw [if_neg (by omega),if_neg (by omega),if_pos rfl]
   exact pass_tot hp b
def fitT (p:Pt) (bk:Int):Option (Int×Pt):=
 if (if (keyR p).2=0∧p.Flags≠0 then (3:Int) else (keyR p).2)=0∧p.Kind=4 then (m_hist_Fit p.Hist bk).bind λr=>some (r.2,{ p with Hist:=r.1 })
 else some (if (keyR p).2=0∧p.Flags≠0 then (3:Int) else (keyR p).2,p)
def tailT (c:Cv) (K:List UInt8) (e:Int) (p:Pt):Option (Pt×Int×Cv):=
 if e≠0 then some (ptZ,e,c)
 else (m_table_Table_convert_kept_Get c.states K).bind λp52=>
  jn (λ(y67:Bool)=>if y67=true then some (ptZ,6,c) else
   jn (λ(y85:Int) (y86:St) (y88:Pt)=>if y85≠0 then some (ptZ,y85,c) else (m_convert_bare p).bind λp124=>(m_table_Table_convert_kept_Put c.states K { State:=y86,series:=p124 }).bind λp129=>some (y88,0,{ cfg:=c.cfg,states:=p129.2 })) λj4=>
    (m_convert_Converter_road_s2 c.cfg.Out c.cfg.Series c.cfg.Buckets c.cfg.Points c.cfg.Bytes c.cfg.Disk c.cfg.Window p).bind λf=>(m_fc_1 f p52.1.State p c.cfg.Buckets).bind λr=>j4 r.2.2 r.1 r.2.1) λj3=>
  if (!p52.2)=true then (m_table_Table_convert_kept_Room c.states).bind λp581=>j3 (decide (p581=0)) else j3 false
theorem Take_eq (c:Cv) {p:Pt} (hp:Few p):m_convert_Converter_Take c p=(fitT p c.cfg.Buckets).bind λx=>tailT c (keyR p).1 x.1 x.2:=by
 unfold m_convert_Converter_Take fitT;rw [key_eq p hp.p hp.n,bndS,jn_eq];have main:∀ E:Int,(jn (λ(y26:Int) (y27:Pt)=>tailT c (keyR p).1 y26 y27) λj2=>if E=0∧p.Kind=4 then (m_hist_Fit p.Hist c.cfg.Buckets).bind λr=>j2 r.2 { p with Hist:=r.1 } else j2 E p) =
  (if E=0∧p.Kind=4 then (m_hist_Fit p.Hist c.cfg.Buckets).bind λr=>some (r.2,{ p with Hist:=r.1 }) else some (E,p)).bind λx=>tailT c (keyR p).1 x.1 x.2:=by
  intro E;rw [jn_eq]
  split
  ·cases m_hist_Fit p.Hist c.cfg.Buckets<;>rfl
  ·rfl
 by_cases h1:(keyR p).2=0∧p.Flags≠0
 ·rw [if_pos h1,if_pos h1]
  exact main 3
 ·rw [if_neg h1,if_neg h1]
  exact main _
def st0:St:=⟨false,0,0,0,0,0,hZ⟩
def stO (c:Cv) (K:List UInt8):Option St:=(lookP K c.states.m).map λx=>x.v.State
theorem get_eq (c:Cv) (K:List UInt8):∃ r,m_table_Table_convert_kept_Get c.states K=some r∧r.1.State=(stO c K).getD st0∧r.2=(stO c K).isSome:=by
 unfold m_table_Table_convert_kept_Get stO;refine ⟨_,rfl,?_⟩
 cases lookP K c.states.m with
 | none=>exact ⟨rfl,rfl⟩
 | some x=>exact ⟨rfl,rfl⟩
theorem putP_len {α:Type} (k:List UInt8) (x:α):∀ l:Kv α,(putP k x l).length≤l.length+1
 | []=>by simp [putP]
 | p::r=>by
  unfold putP
  split
  ·simp
  ·have:=putP_len k x r
   simp only [List.length_cons]
   omega
theorem lookP_put {α:Type} (k k':List UInt8) (x:α):∀ l:Kv α,lookP k' (putP k x l)=if k=k' then some x else lookP k' l
 | []=>by
  unfold putP lookP
  by_cases h:k=k'
  ·rw [if_pos h];simp [h]
  ·rw [if_neg h];simp [h]
 | p::r=>by
  have ih:=lookP_put k k' x r;unfold putP
  by_cases h1:p.1=k
  ·rw [if_pos h1]
   unfold lookP
   by_cases h:k=k'
   ·rw [if_pos h];simp [h]
   ·have h2:¬p.1=k':=λhh=>h (h1.symm.trans hh)
    rw [if_neg h];simp [h,h2]
  ·rw [if_neg h1]
   unfold lookP at ih ⊢
   by_cases h2:p.1=k'
   ·have h:¬k=k':=λhh=>h1 (h2.trans hh.symm)
    rw [if_neg h];simp [h2]
   ·simp only [List.find?_cons,h2,decide_false]
    exact ih
structure InvC (cfg:T_api_Config) (k:Nat) (c:Cv):Prop where
 cf:c.cfg=cfg
 mo:c.states.most=16
 le:c.states.m.length≤k
 st:∀ K s,stO c K=some s→LH s.Hist
theorem bare_tot {p:Pt} (hp:Few p):∃ r,m_convert_bare p=some r:=by
 unfold m_convert_bare;rw [clone_pt p hp,bndS];exact ⟨_,rfl⟩
theorem tail_rel (cfg:T_api_Config) (k:Nat) (hk:k<16) (K:List UInt8) (e:Int) {p:Pt} (hp:Few p) (so:Option St) (hso:∀ s,so=some s→LH s.Hist) :
 ∃ q e' so',Few q∧∀ c,InvC cfg k c→stO c K=so→∃ c',tailT c K e p=some (q,e',c')∧InvC cfg (k+1) c'∧stO c' K=so'∧∀ K',K'≠K→stO c' K'=stO c K':=by
 have same:∀ c,InvC cfg k c→InvC cfg (k+1) c:=λc h=>⟨h.cf,h.mo,by have:=h.le;omega,h.st⟩
 by_cases he:e=0
 ·have h0:LH (so.getD st0).Hist:=by
   cases so with
   | none=>exact .z
   | some s=>exact hso s rfl
  obtain ⟨⟨s2,q2,e2⟩,h1,h2,h3⟩:=fc_tot (out:=cfg.Out) (t:=p.Temp) h0 hp cfg.Buckets;obtain ⟨b,hb⟩:=bare_tot hp
  have body:∀ c,InvC cfg k c→stO c K=so→tailT c K e p=(if e2≠0 then some (ptZ,e2,c) else (m_convert_bare p).bind λp124=>(m_table_Table_convert_kept_Put c.states K { State:=s2,series:=p124 }).bind λp129=>some (q2,0,{ cfg:=c.cfg,states:=p129.2 })):=by
   intro c hc hs;obtain ⟨r,hr,r1,r2⟩:=get_eq c K;unfold tailT;rw [if_neg (by simp [he]),hr,bndS,jn_eq]
   have room:m_table_Table_convert_kept_Room c.states=some (16-(c.states.m.length:Int)):=by
    have:=hc.le;unfold m_table_Table_convert_kept_Room;rw [hc.mo,W64_id (by omega) (by omega)]
   have hn:decide ((16-(c.states.m.length:Int))=0)=false:=by
    have:=hc.le;simp only [decide_eq_false_iff_not]
    omega
   rw [room,bndS,hn];rw [ite_self];dsimp only;rw [if_neg (by decide),jn_eq,road_eq,bndS,r1,hs,hc.cf,h1,bndS]
  by_cases h4:e2=0
  ·refine ⟨q2,0,some s2,h3,λc hc hs=>?_⟩
   rw [body c hc hs,if_neg (by simp [h4]),hb,bndS]
   have hput:m_table_Table_convert_kept_Put c.states K { State:=s2,series:=b }=some (true,⟨c.states.most,W64 (c.states.clock+1),putP K ⟨⟨s2,b⟩,W64 (c.states.clock+1)⟩ c.states.m⟩):=by
    have:=hc.le;unfold m_table_Table_convert_kept_Put m_table_Table_convert_kept_Room;rw [jn_eq,bndS,hc.mo,W64_id (z:=16-(c.states.m.length:Int)) (by omega) (by omega)]
    have hn:decide ((16-(c.states.m.length:Int))=0)=false:=by
     simp only [decide_eq_false_iff_not]
     omega
    rw [hn]
    split<;>rfl
   rw [hput,bndS]
   have lk:∀ K',stO ⟨c.cfg,⟨c.states.most,W64 (c.states.clock+1),putP K ⟨⟨s2,b⟩,W64 (c.states.clock+1)⟩ c.states.m⟩⟩ K'=if K=K' then some s2 else stO c K':=by
    intro K';unfold stO;dsimp only;rw [lookP_put]
    split<;>rfl
   refine ⟨_,rfl,⟨hc.cf,hc.mo,?_,?_⟩,?_,?_⟩
   ·have h5:=putP_len K (⟨⟨s2,b⟩,W64 (c.states.clock+1)⟩:T_table_slot_convert_kept_) c.states.m
    have h6:=hc.le;show (putP K _ c.states.m).length≤k+1
    omega
   ·intro K' s h
    rw [lk] at h
    split at h
    ·cases h;exact h2
    ·exact hc.st K' s h
   ·rw [lk,if_pos rfl]
   ·intro K' h
    rw [lk,if_neg (λhh=>h hh.symm)]
  ·refine ⟨ptZ,e2,so,few0,λc hc hs=>?_⟩
   rw [body c hc hs,if_pos h4];exact ⟨c,rfl,same c hc,hs,λ_ _=>rfl⟩
 ·refine ⟨ptZ,e,so,few0,λc hc hs=>⟨c,?_,same c hc,hs,λ_ _=>rfl⟩⟩
  unfold tailT;rw [if_pos he]
theorem Take_rel (cfg:T_api_Config) (k:Nat) (hk:k<16) {p:Pt} (hp:Few p) (so:Option St) (hso:∀ s,so=some s→LH s.Hist) :
 ∃ q e' so',Few q∧∀ c,InvC cfg k c→stO c (keyR p).1=so→∃ c',m_convert_Converter_Take c p=some (q,e',c')∧InvC cfg (k+1) c'∧stO c' (keyR p).1=so'∧∀ K',K'≠(keyR p).1→stO c' K'=stO c K':=by
 have hf:∃ x,fitT p cfg.Buckets=some x∧Few x.2:=by
  unfold fitT;generalize (if (keyR p).2=0∧p.Flags≠0 then (3:Int) else (keyR p).2)=E
  by_cases hE:E=0∧p.Kind=4
  ·obtain ⟨r,h1,h2⟩:=Fit_tot hp.h cfg.Buckets
   rw [if_pos hE,h1,bndS];exact ⟨(r.2,{ p with Hist:=r.1 }),rfl,⟨hp.a,h2.p,h2.n⟩⟩
  ·rw [if_neg hE]
   exact ⟨(_,p),rfl,hp⟩
 obtain ⟨x,h1,h2⟩:=hf;obtain ⟨q,e',so',h3,h4⟩:=tail_rel cfg k hk (keyR p).1 x.1 h2 so hso;refine ⟨q,e',so',h3,λc hc hs=>?_⟩;obtain ⟨c',h5,h6⟩:=h4 c hc hs;refine ⟨c',?_,h6⟩;rw [Take_eq c hp,hc.cf,h1,bndS];exact h5
theorem scan_totM {α S R:Type} {l:List α} {s:S} {B:Nat→α→S→(S→Option R)→Option R} {J:S→Option R} {Q:R→Prop} (I:Nat→S→Prop) (h0:I 0 s) (hJ:∀ s,I l.length s→Tot Q (J s))
 (hB:∀ i x s k,i<l.length→x∈l→I i s→(∀ s',I (i+1) s'→Tot Q (k s'))→Tot Q (B i x s k)):Tot Q (scanL l s B J):=by
 have key:∀ (m:List α) (i:Nat) (s:S),(∀ x∈m,x∈l)→i+m.length=l.length→I i s→Tot Q (scan B J i m s):=by
  intro m
  induction m with
  | nil=>
   intro i s _ hi hI;exact hJ s (by rw [← hi];exact hI)
  | cons x m ih=>
   intro i s hm hi hI;rw [List.length_cons] at hi
   exact hB i x s _ (by omega) (hm x (by simp)) hI λs' hs=>ih (i+1) s' (λy hy=>hm y (by simp [hy])) (by omega) hs
 exact key l 0 s (λ_ h=>h) (by omega) h0
theorem some_tot (l:List Pt):Tot (λb=>b=true→l.length≤16∧∀ p∈l,Few p) (m_limnographref12_Some l 16):=by
 unfold m_limnographref12_Some
 refine Tot.ite (λ_=>.some λh=>by simp at h) λh=>?_
 rw [jn_eq,m_limnographref12_Some_L1_scan _ _ (by omega)];have e:(λ(_:Nat) (xx:Pt) (_:Unit) (kk:Unit→Option Bool)=>(some xx).bind λz8=>(m_limnographref12_Light z8).bind λp17=>if (!p17)=true then some false else kk ()) =
  λ_ xx _ kk=>if (decide (xx.Name.length≤100)&&light xx.Attrs&&decide (xx.Hist.Pos.Counts.length≤300∧xx.Hist.Neg.Counts.length≤300))=true then kk () else some false:=by
  funext _ xx _ kk
  rw [bndS,light12,bndS]
  cases (decide (xx.Name.length≤100)&&light xx.Attrs&&decide (xx.Hist.Pos.Counts.length≤300∧xx.Hist.Neg.Counts.length≤300))<;>rfl
 rw [e,scanL_all (λxx:Pt=>decide (xx.Name.length≤100)&&light xx.Attrs&&decide (xx.Hist.Pos.Counts.length≤300∧xx.Hist.Neg.Counts.length≤300)) (some false) (λ_ _ _ _=>rfl)]
 split
 ·rename_i h1
  refine .some λ_=>⟨by omega,λp hp=>?_⟩
  exact (light_few (List.all_eq_true.1 h1 p hp)).1
 ·exact .some λh=>by simp at h
theorem awake_eq:m_limnographlaw17_awake=some true:=by decide +kernel
theorem new_eq (cfg:T_api_Config):m_convert_New cfg=some (if decide ((((((cfg.Out≥0)∧(cfg.Out≤2))∧(cfg.Series≥1))∧(cfg.Series≤16))∧(cfg.Buckets≥1))∧(cfg.Buckets≤160))=true then some ⟨cfg,⟨max cfg.Series 0,0,[]⟩⟩ else none):=by
 unfold m_convert_New m_convert_Good m_table_New_convert_kept;rw [bndS];generalize decide ((((((cfg.Out≥0)∧(cfg.Out≤2))∧(cfg.Series≥1))∧(cfg.Series≤16))∧(cfg.Buckets≥1))∧(cfg.Buckets≤160))=d
 cases d<;>rfl
theorem apart_law (x0:T_api_Config) (x1:List Pt) (x2:List UInt8):m_limnographlaw17_ConvertApart x0 x1 x2=some true:=by
 have main:Tot (λb=>b=true) (m_limnographlaw17_ConvertApart x0 x1 x2):=by
  unfold m_limnographlaw17_ConvertApart;rw [awake_eq,bndS,if_neg (by decide)]
  refine (some_tot x1).bind λb hb=>Tot.ite (λ_=>.some rfl) λh=>?_
  obtain ⟨hl,hf⟩:=hb (by cases b with|true=>rfl|false=>exact absurd rfl h);rw [new_eq]
  by_cases hg:(((((x0.Out≥0)∧(x0.Out≤2))∧((16:Int)≥1))∧((16:Int)≤16))∧(x0.Buckets≥1))∧(x0.Buckets≤160)
  ·rw [if_pos (decide_eq_true hg),bndS,bndS,jn_eq]
   dsimp only [Option.isNone];rw [if_neg (by decide),if_neg (by decide),jn_eq,m_limnographlaw17_ConvertApart_L1_scan _ _ _ _ _ (by omega)]
   refine scan_totM (λi (s:Option Cv×Option Cv)=>∃ a b,s=(some a,some b)∧InvC { x0 with Series:=16 } i a∧InvC { x0 with Series:=16 } i b∧stO a x2=stO b x2) ⟨_,_,rfl,⟨rfl,rfl,Nat.zero_le _,λ_ _ h=>by cases h⟩,⟨rfl,rfl,Nat.zero_le _,λ_ _ h=>by cases h⟩,rfl⟩ (λ_ _=>.some rfl) λi p s k hi hp hI hk=>?_
   obtain ⟨a,b,rfl,ha,hb,hab⟩:=hI;have hpf:=hf p hp;obtain ⟨q,e,so',h1,h2⟩:=Take_rel { x0 with Series:=16 } i (by omega) hpf (stO a (keyR p).1) (λs h=>ha.st _ s h);obtain ⟨a',a1,a2,a3,a4⟩:=h2 a ha rfl;rw [jn_eq,bndS,bndS,a1,bndS,bndS,key_eq p hpf.p hpf.n,bndS]
   refine Tot.ite (λhn=>?_) λhn=>?_
   ·exact hk _ ⟨a',b,rfl,a2,⟨hb.cf,hb.mo,by have:=hb.le;omega,hb.st⟩,by rw [a4 x2 (λh=>hn h.symm)];exact hab⟩
   ·have hx:(keyR p).1=x2:=Decidable.not_not.1 hn
    obtain ⟨b',b1,b2,b3,b4⟩:=h2 b hb (by rw [hx];exact hab.symm);rw [bndS,bndS,b1,bndS,rSame_eq h1 h1,bndS,if_neg (by simp [sameP])];exact hk _ ⟨a',b',rfl,a2,b2,by rw [← hx,a3,b3]⟩
  ·rw [if_neg (by rw [decide_eq_false hg];decide),bndS,bndS,jn_eq]
   change Tot (λb=>b=true) ((m_limnographref17_Good _).bind λp35=>some (!p35))
   unfold m_limnographref17_Good;rw [bndS];refine .some ?_;rw [show decide ((((((x0.Out≥0)∧(x0.Out≤2))∧((16:Int)≥1))∧((16:Int)≤16))∧(x0.Buckets≥1))∧(x0.Buckets≤160))=false from decide_eq_false hg]
   rfl
 obtain ⟨r,h1,rfl⟩:=main;exact h1
end Go.Proofs.YtaikmpmokihciaaGreat
