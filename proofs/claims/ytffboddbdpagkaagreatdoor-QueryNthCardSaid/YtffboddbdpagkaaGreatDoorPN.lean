import Derived.Test.YtffboddbdpagkaaGreatDoorNN
import Derived.Lib.Mul64
set_option maxRecDepth 20000
set_option linter.unusedVariables false
set_option linter.unusedSimpArgs false
namespace Go.Proofs.YtffboddbdpagkaaGreatDoor
open Go Go.RowKit Go.Wk
theorem pow64:(2:Nat)^64=18446744073709551616:=by decide
theorem pow_le {m:Nat} (h:64≤m):18446744073709551616≤2^m:=by rw [← pow64];exact Nat.pow_le_pow_right (by omega) h
theorem shl64_mod (a:UInt64) (m:Nat):(shl64 a m).toNat=a.toNat*2^m%18446744073709551616:=by
 unfold shl64
 split
 ·rename_i h
  rw [UInt64.toNat_shiftLeft,Nat.shiftLeft_eq,pow64]
  have:(UInt64.ofNat m).toNat%64=m:=by rw [UInt64.toNat_ofNat'];omega
  rw [this]
 ·rename_i h
  obtain ⟨q,rfl⟩:∃ q,m=64+q:=⟨m-64,by omega⟩;rw [Nat.pow_add,pow64,Nat.mul_left_comm,Nat.mul_mod_right];rfl
theorem shr64_nat (a:UInt64) (m:Nat):(shr64 a m).toNat=a.toNat/2^m:=by
 unfold shr64
 split
 ·rename_i h
  rw [UInt64.toNat_shiftRight,Nat.shiftRight_eq_div_pow]
  have:(UInt64.ofNat m).toNat%64=m:=by rw [UInt64.toNat_ofNat'];omega
  rw [this]
 ·rename_i h
  have:=a.toNat_lt;have h2:=pow_le (Nat.le_of_not_lt h);rw [Nat.div_eq_of_lt (by omega)];rfl
theorem jn_post {α β:Type} {F:α} {B:α→β} {r:β} (Q:α→Prop) (hF:Q F) (hB:∀ j,Q j→B j=r):jn F B=r:=hB F hF
def bl (n:Nat):Nat:=if n=0 then 0 else n.log2+1
theorem bl_hi (n:Nat):n<2^bl n:=by
 unfold bl;split
 ·rename_i h;subst h;decide
 ·exact Nat.lt_log2_self
theorem bl_lo {n:Nat} (h:n≠0):2^(bl n-1)≤n:=by
 unfold bl;rw [if_neg h];exact Nat.log2_self_le h
theorem bl_of {n L:Nat} (h1:n<2^L) (h2:L=0∨2^(L-1)≤n):bl n=L:=by
 rcases h2 with rfl|h2
 ·have:n=0:=by simpa using h1
  subst this;rfl
 ·have hn:n≠0:=by have:=Nat.two_pow_pos (L-1);omega
  have hl:=bl_lo hn;have hh:=bl_hi n;have a1:L-1<bl n:=(Nat.pow_lt_pow_iff_right (a:=2) (by omega)).1 (by omega);have a2:bl n-1<L:=(Nat.pow_lt_pow_iff_right (a:=2) (by omega)).1 (by omega)
  have a3:0<bl n:=by omega
  omega
theorem bl_shift {n:Nat} (k:Nat) (h:2^k≤n):bl n=bl (n/2^k)+k:=by
 have hp:=Nat.two_pow_pos k;have hq:n/2^k≠0:=Nat.pos_iff_ne_zero.1 (Nat.div_pos h hp);have h1:=bl_hi (n/2^k);have h2:=bl_lo hq
 have h3:0<bl (n/2^k):=by
  rcases Nat.eq_zero_or_pos (bl (n/2^k)) with h0|h0
  ·rw [h0] at h1;exact absurd (by simpa using h1) hq
  ·exact h0
 refine bl_of ?_ (.inr ?_)
 ·rw [Nat.pow_add];exact (Nat.div_lt_iff_lt_mul hp).1 h1
 ·rw [show bl (n/2^k)+k-1=bl (n/2^k)-1+k by omega,Nat.pow_add];exact (Nat.le_div_iff_mul_le hp).1 h2
theorem bl_le {n k:Nat} (h:n<2^k):bl n≤k:=by
 by_cases h0:n=0
 ·subst h0;exact Nat.zero_le _
 ·have:=bl_lo h0
  have:bl n-1<k:=(Nat.pow_lt_pow_iff_right (a:=2) (by omega)).1 (by omega)
  omega
theorem tabL {T:List UInt8} (hT:∀ n,n<256→T[n]?=some (UInt8.ofNat (bl n))) {n:Nat} (h:n<256):idx T (n:Int)=some (UInt8.ofNat (bl n)):=by rw [idx_nat];exact hT n h
theorem ofNat_bl {n:Nat} (h:n<256):(UInt8.ofNat (bl n)).toNat=bl n:=by
 have:bl n≤8:=bl_le h;simp [UInt8.toNat_ofNat'];omega
theorem len64_eq (x:UInt64):m_math_bits_Len64 x=some ((bl x.toNat:Nat):Int):=by
 unfold m_math_bits_Len64
 have hsh:∀ (y:UInt64) (k:Nat),k<64→(y>>>UInt64.ofNat k).toNat=y.toNat/2^k:=λy k hk=>by
  rw [UInt64.toNat_shiftRight,Nat.shiftRight_eq_div_pow];congr 2;simp [UInt64.toNat_ofNat'];omega
 refine jn_post (λj=>∀ (y:UInt64) (a:Int),y.toNat<4294967296→0≤a→a≤32→j y a=some (a+(bl y.toNat:Nat))) (λy a hy h0 h1=>?_) (λj hj=>?_)
 ·refine jn_post (λj=>∀ (y:UInt64) (a:Int),y.toNat<65536→0≤a→a≤48→j y a=some (a+(bl y.toNat:Nat))) (λy a hy h0 h1=>?_) (λj hj=>?_)
  ·refine jn_post (λj=>∀ (y:UInt64) (a:Int),y.toNat<256→0≤a→a≤56→j y a=some (a+(bl y.toNat:Nat))) (λy a hy h0 h1=>?_) (λj hj=>?_)
   ·have hb:bl y.toNat≤8:=bl_le hy
    have e8:(toU8 (y.toNat:Int)).toNat=y.toNat:=by simp [toU8,UInt8.toNat_ofNat'];omega
    dsimp only;rw [e8,tabL ?_ hy]
    ·rw [bndS,ofNat_bl hy,W64_id (by omega) (by omega)]
    ·decide +kernel
   ·by_cases hc:(y.toNat:Int)≥256
    ·rw [if_pos hc,W64_id (by omega) (by omega),hj _ _ (by rw [hsh _ _ (by omega)];omega) (by omega) (by omega),hsh _ _ (by omega),bl_shift (n:=y.toNat) 8 (by omega)]
     congr 1;omega
    ·rw [if_neg hc,hj _ _ (by omega) h0 (by omega)]
  ·by_cases hc:(y.toNat:Int)≥65536
   ·rw [if_pos hc,W64_id (by omega) (by omega),hj _ _ (by rw [hsh _ _ (by omega)];omega) (by omega) (by omega),hsh _ _ (by omega),bl_shift (n:=y.toNat) 16 (by omega)]
    congr 1;omega
   ·rw [if_neg hc,hj _ _ (by omega) h0 (by omega)]
 ·have hx:=x.toNat_lt
  by_cases hc:(x.toNat:Int)≥4294967296
  ·rw [if_pos hc,hj _ _ (by rw [hsh _ _ (by omega)];omega) (by omega) (by omega),hsh _ _ (by omega),bl_shift (n:=x.toNat) 32 (by omega)]
   congr 1;omega
  ·rw [if_neg hc,hj _ _ (by omega) (by omega) (by omega)];congr 1;omega
theorem ofNat_nat {n:Nat} (h:n<18446744073709551616):(UInt64.ofNat n).toNat=n:=by rw [UInt64.toNat_ofNat'];exact Nat.mod_eq_of_lt h
theorem lz_eq (x:UInt64):m_math_bits_LeadingZeros64 x=some ((64-bl x.toNat:Nat):Int):=by
 unfold m_math_bits_LeadingZeros64;have:=bl_le (n:=x.toNat) (k:=64) (by have:=x.toNat_lt;omega);rw [len64_eq,bndS,W64_id (by omega) (by omega)];congr 1;omega
def sumN (l:List UInt64):Nat:=(l.map UInt64.toNat).sum
theorem sumN_cons (x:UInt64) (l:List UInt64):sumN (x::l)=x.toNat+sumN l:=by simp [sumN]
theorem or_zero (a b:UInt64):a|||b=0↔a=0∧b=0:=by
 constructor
 ·intro h
  have h1:(a|||b).toNat=0:=by rw [h];rfl
  rw [UInt64.toNat_or] at h1;have:=Nat.or_eq_zero_iff.1 h1;exact ⟨UInt64.toNat_inj.1 this.1,UInt64.toNat_inj.1 this.2⟩
 ·rintro ⟨rfl,rfl⟩;rfl
theorem tot_fold (l:List UInt64):∀ (a b:UInt64),((l.foldl (λ(s:UInt64×UInt64) x=>(s.1+x,s.2|||cry s.1 x)) (a,b)).1.toNat=(a.toNat+sumN l)%2^64) ∧
 ((l.foldl (λ(s:UInt64×UInt64) x=>(s.1+x,s.2|||cry s.1 x)) (a,b)).2=0↔b=0∧a.toNat+sumN l<2^64):=by
 induction l with
 | nil=>intro a b;have:=a.toNat_lt;simp [sumN];omega
 | cons x l ih=>
  intro a b;have ha:=a.toNat_lt;have hx:=x.toNat_lt;obtain ⟨h1,h2⟩:=ih (a+x) (b|||cry a x);rw [List.foldl_cons];dsimp only;rw [h1,h2,or_zero,sumN_cons];have e:(a+x).toNat=(a.toNat+x.toNat)%2^64:=UInt64.toNat_add a x
  constructor
  ·rw [e];omega
  ·unfold cry
   by_cases hc:18446744073709551616≤a.toNat+x.toNat
   ·rw [if_pos hc]
    constructor
    ·rintro ⟨⟨_,h⟩,_⟩;exact absurd h (by decide)
    ·rintro ⟨_,h⟩;omega
   ·rw [if_neg hc,e]
    constructor
    ·rintro ⟨⟨h,_⟩,k⟩;exact ⟨h,by omega⟩
    ·rintro ⟨h,k⟩;exact ⟨⟨h,rfl⟩,by omega⟩
def totN (h:T_api_Hist):Nat:=h.Zero.toNat+sumN h.Pos.Counts+sumN h.Neg.Counts
def totE (h:T_api_Hist):UInt64×Bool:=if totN h<2^64 then (UInt64.ofNat (totN h),true) else (0,false)
theorem Total_eq (h:T_api_Hist) (h1:h.Pos.Counts.length≤1000000) (h2:h.Neg.Counts.length≤1000000):m_hist_Total h=some (totE h):=by
 have hL2:∀ (z:T_api_Side) (j:UInt64→UInt64→Option (UInt64×Bool)) (a b:UInt64),z.Counts.length≤1000000→m_hist_Total_L2 z j fuel a b 0=j (z.Counts.foldl (λ(s:UInt64×UInt64) x=>(s.1+x,s.2|||cry s.1 x)) (a,b)).1 (z.Counts.foldl (λ(s:UInt64×UInt64) x=>(s.1+x,s.2|||cry s.1 x)) (a,b)).2:=by
  intro z j a b h;rw [m_hist_Total_L2_scan _ _ _ _ (by omega),scanL_fold (λ(s:UInt64×UInt64) x=>(s.1+x,s.2|||cry s.1 x)) (λi x s k _=>by rw [bndS])]
 unfold m_hist_Total m_hist_sides;rw [bndS,jn_eq];obtain ⟨m,hm⟩:=fuelS 3 (by omega)
 rw [show m_hist_Total_L1 { a0:=h.Pos,a1:=h.Neg } _ fuel _ _ _=m_hist_Total_L1 { a0:=h.Pos,a1:=h.Neg } _ (m+3) _ _ _ by rw [← hm],m_hist_Total_L1,if_pos (by omega),show idx [h.Pos,h.Neg] 0=some h.Pos from rfl,bndS,jn_eq,hL2 _ _ _ _ h1,W64_id (by omega) (by omega),show (0:Int)+1=1 from rfl,
  m_hist_Total_L1,if_pos (by omega),show idx [h.Pos,h.Neg] 1=some h.Neg from rfl,bndS,jn_eq,hL2 _ _ _ _ h2,W64_id (by omega) (by omega),show (1:Int)+1=2 from rfl,m_hist_Total_L1,if_neg (by omega)]
 obtain ⟨p1,p2⟩:=tot_fold h.Pos.Counts h.Zero 0;generalize h.Pos.Counts.foldl (λ(s:UInt64×UInt64) x=>(s.1+x,s.2|||cry s.1 x)) (h.Zero,0)=P at *;obtain ⟨q1,q2⟩:=tot_fold h.Neg.Counts P.1 P.2;generalize h.Neg.Counts.foldl (λ(s:UInt64×UInt64) x=>(s.1+x,s.2|||cry s.1 x)) (P.1,P.2)=Q at *;unfold totE totN
 by_cases hq:Q.2=0
 ·obtain ⟨a1,a2⟩:=q2.1 hq
  obtain ⟨_,a3⟩:=p2.1 a1;rw [if_neg (by rw [hq];decide),if_pos (by omega)]
  have:Q.1=UInt64.ofNat (h.Zero.toNat+sumN h.Pos.Counts+sumN h.Neg.Counts):=by
   apply UInt64.toNat_inj.1
   rw [q1,ofNat_nat (by omega)];omega
  rw [this]
 ·have hq':Q.2.toNat≠0:=λh=>hq (UInt64.toNat_inj.1 h)
  rw [if_pos (by omega),if_neg];intro h
  apply hq
  rw [q2];exact ⟨p2.2 ⟨rfl,by omega⟩,by omega⟩
theorem rsum_eq (y:UInt64) (l:List UInt64) (hl:l.length≤1000000):m_limnographref08_sum y l=some (if y.toNat+sumN l<2^64 then (UInt64.ofNat (y.toNat+sumN l),true) else (0,false)):=by
 unfold m_limnographref08_sum;rw [jn_eq,m_limnographref08_sum_L1_scan _ _ _ (by omega),scanL_pre (λ_ (q:List UInt64) (y:UInt64)=>some (if y.toNat+sumN q<2^64 then (UInt64.ofNat (y.toNat+sumN q),true) else (0,false)))]
 ·intro s
  have:=s.toNat_lt;rw [if_pos (by simp [sumN];omega)];simp [sumN]
 ·intro p x q s k _ hk
  have hs:=s.toNat_lt;have hx:=x.toNat_lt
  have e:((18446744073709551615:UInt64)-s).toNat=18446744073709551615-s.toNat:=by
   rw [UInt64.toNat_sub_of_le _ _ (by rw [UInt64.le_iff_toNat_le];show s.toNat≤18446744073709551615;omega)];rfl
  rw [bndS,bndS,e,sumN_cons]
  by_cases hc:(x.toNat:Int)>((18446744073709551615-s.toNat:Nat):Int)
  ·rw [if_pos hc,if_neg (by omega)]
  ·rw [if_neg hc,hk,show (s+x).toNat=s.toNat+x.toNat by rw [UInt64.toNat_add];omega,Nat.add_assoc]
theorem rTotal_eq (h:T_api_Hist) (h1:h.Pos.Counts.length≤1000000) (h2:h.Neg.Counts.length≤1000000):m_limnographref08_Total h=some (totE h):=by
 unfold m_limnographref08_Total totE totN;rw [rsum_eq _ _ h1,bndS]
 by_cases hp:h.Zero.toNat+sumN h.Pos.Counts<2^64
 ·rw [if_pos hp,if_neg (by simp),rsum_eq _ _ h2,bndS,ofNat_nat hp]
 ·rw [if_neg hp,if_pos (by simp),if_neg (by omega)]
def sdE (s:T_api_Side):Int:=
 if s.Counts.length>160 then 4
 else if s.Counts=[] then (if s.Offset≠0 then 3 else 0)
 else if s.Counts.headD 0=0∨s.Counts.getLastD 0=0 then 3
 else if s.Offset < -1073741824∨s.Offset+s.Counts.length-1>1073741824 then 1 else 0
theorem u64z' (x:UInt64):((x.toNat:Nat):Int)=0↔x=0:=by
 constructor
 ·intro h;apply UInt64.toNat_inj.1;show x.toNat=0;omega
 ·rintro rfl;rfl
theorem ends {l:List UInt64} (h:l≠[]) (hl:l.length≤1000000):idx l 0=some (l.headD 0)∧idx l (W64 ((l.length:Int)-1))=some (l.getLastD 0):=by
 have h0:0<l.length:=List.length_pos_iff.2 h
 constructor
 ·cases l with
  | nil=>exact absurd rfl h
  | cons a t=>rfl
 ·rw [W64_id (by omega) (by omega),show (l.length:Int)-1=((l.length-1:Nat):Int) by omega,idx_nat,← List.getLast?_eq_getElem?,List.getLast?_eq_some_getLast h]
  cases l with
  | nil=>exact absurd rfl h
  | cons a t=>rw [List.getLastD_cons,List.getLast_eq_getLastD]
theorem scheck_eq (s:T_api_Side):m_hist_check s=some (sdE s):=by
 unfold m_hist_check sdE
 by_cases h1:s.Counts.length>160
 ·rw [if_pos (by omega),if_pos h1]
 rw [if_neg (by omega),if_neg h1]
 by_cases h2:s.Counts=[]
 ·rw [if_pos h2,h2]
  by_cases h3:s.Offset≠0
  ·rw [if_pos ⟨rfl,h3⟩,if_pos h3]
  ·rw [if_neg (λh=>h3 h.2),if_pos (by rfl),if_neg h3]
 have h0:0<s.Counts.length:=List.length_pos_iff.2 h2;obtain ⟨e1,e2⟩:=ends h2 (by omega);rw [if_neg (by omega),if_neg (by omega),if_neg h2,e1,bndS];simp only [jn_eq]
 by_cases h3:s.Counts.headD 0=0
 ·rw [if_pos ((u64z' _).2 h3),if_pos (by trivial),if_pos (Or.inl h3)]
 rw [if_neg (λh=>h3 ((u64z' _).1 h)),e2,bndS]
 by_cases h4:s.Counts.getLastD 0=0
 ·rw [if_pos (decide_eq_true ((u64z' _).2 h4)),if_pos (Or.inr h4)]
 rw [if_neg (by rw [decide_eq_false (λh=>h4 ((u64z' _).1 h))];decide),if_neg (show ¬(s.Counts.headD 0=0∨s.Counts.getLastD 0=0) from λh=>h.elim h3 h4),W64_id (z:=(s.Counts.length:Int)-1) (by omega) (by omega),W64_id (by omega) (by omega)]
 by_cases h5:s.Offset < -1073741824
 ·rw [if_pos h5,if_pos (by trivial),if_pos (Or.inl h5)]
 rw [if_neg h5]
 by_cases h6:s.Offset>1073741824-((s.Counts.length:Int)-1)
 ·rw [if_pos (decide_eq_true h6),if_pos (by omega)]
 ·rw [if_neg (by rw [decide_eq_false h6];decide),if_neg (by omega)]
theorem rside_eq8 (s:T_api_Side):m_limnographref08_side s=some (sdE s):=by
 unfold m_limnographref08_side sdE
 by_cases h1:s.Counts.length>160
 ·rw [if_pos (by omega),if_pos h1]
 rw [if_neg (by omega),if_neg h1]
 by_cases h2:s.Counts=[]
 ·rw [if_pos h2,h2,if_pos (by rfl)]
  by_cases h3:s.Offset≠0
  ·rw [if_pos h3,if_pos h3]
  ·rw [if_neg h3,if_neg h3]
 have h0:0<s.Counts.length:=List.length_pos_iff.2 h2;obtain ⟨e1,e2⟩:=ends h2 (by omega);rw [if_neg (by omega),if_neg h2,e1,bndS];simp only [jn_eq]
 by_cases h3:s.Counts.headD 0=0
 ·rw [if_pos ((u64z' _).2 h3),if_pos (by trivial),if_pos (Or.inl h3)]
 rw [if_neg (λh=>h3 ((u64z' _).1 h)),e2,bndS]
 by_cases h4:s.Counts.getLastD 0=0
 ·rw [if_pos (decide_eq_true ((u64z' _).2 h4)),if_pos (Or.inr h4)]
 rw [if_neg (by rw [decide_eq_false (λh=>h4 ((u64z' _).1 h))];decide),if_neg (show ¬(s.Counts.headD 0=0∨s.Counts.getLastD 0=0) from λh=>h.elim h3 h4)]
 by_cases h5:s.Offset < -1073741824∨s.Offset>1073741824
 ·rw [if_pos h5,if_pos (by trivial),if_pos (by omega)]
 rw [if_neg h5,W64_id (z:=s.Offset+(s.Counts.length:Int)) (by omega) (by omega),W64_id (by omega) (by omega)]
 by_cases h6:s.Offset+(s.Counts.length:Int)-1>1073741824
 ·rw [if_pos (decide_eq_true h6),if_pos (Or.inr h6)]
 ·rw [if_neg (by rw [decide_eq_false h6];decide),if_neg (by omega)]
def hcE (h:T_api_Hist):Int:=
 if h.Scale < -10∨h.Scale>20 then 1 else if sdE h.Pos≠0 then sdE h.Pos else if sdE h.Neg≠0 then sdE h.Neg else if totN h<2^64 then 0 else 4
theorem Check8_eq (h:T_api_Hist) (h1:h.Pos.Counts.length≤1000000) (h2:h.Neg.Counts.length≤1000000):m_limnographref08_Check h=some (hcE h):=by
 unfold m_limnographref08_Check hcE
 by_cases hs:h.Scale < -10∨h.Scale>20
 ·rw [if_pos hs,if_pos hs]
 rw [if_neg hs,if_neg hs,rside_eq8,bndS]
 by_cases c1:sdE h.Pos≠0
 ·rw [if_pos c1,if_pos c1]
 rw [if_neg c1,if_neg c1,rside_eq8,bndS]
 by_cases c2:sdE h.Neg≠0
 ·rw [if_pos c2,if_pos c2]
 rw [if_neg c2,if_neg c2,rTotal_eq h h1 h2,bndS];unfold totE
 by_cases ht:totN h<2^64
 ·rw [if_pos ht,if_pos ht,if_neg (by simp)]
 ·rw [if_neg ht,if_neg ht,if_pos (by simp)]
theorem HCheck_eq (h:T_api_Hist) (h1:h.Pos.Counts.length≤1000000) (h2:h.Neg.Counts.length≤1000000):m_hist_Check h=some (hcE h):=by
 unfold m_hist_Check m_hist_sides hcE
 by_cases hs:h.Scale < -10∨h.Scale>20
 ·rw [if_pos hs,if_pos hs]
 rw [if_neg hs,if_neg hs,bndS,jn_eq];obtain ⟨m,hm⟩:=fuelS 3 (by omega);rw [hm,m_hist_Check_L1,if_pos (by omega),show idx [h.Pos,h.Neg] 0=some h.Pos from rfl,bndS,scheck_eq,bndS]
 by_cases c1:sdE h.Pos≠0
 ·rw [if_pos c1,if_pos c1]
 rw [if_neg c1,if_neg c1,W64_id (by omega) (by omega),show (0:Int)+1=1 from rfl,m_hist_Check_L1,if_pos (by omega),show idx [h.Pos,h.Neg] 1=some h.Neg from rfl,bndS,scheck_eq,bndS]
 by_cases c2:sdE h.Neg≠0
 ·rw [if_pos c2,if_pos c2]
 rw [if_neg c2,if_neg c2,W64_id (by omega) (by omega),show (1:Int)+1=2 from rfl,m_hist_Check_L1,if_neg (by omega),Total_eq h h1 h2,bndS];unfold totE
 by_cases ht:totN h<2^64
 ·rw [if_pos ht,if_pos ht,if_neg (by simp)]
 ·rw [if_neg ht,if_neg ht,if_pos (by simp)]
end Go.Proofs.YtffboddbdpagkaaGreatDoor
set_option linter.unusedVariables false
set_option linter.unusedSimpArgs false
namespace Go.Proofs.YtffboddbdpagkaaGreatDoor
open Go Go.RowKit Go.Wk
abbrev Bk:=T_api_Bucket
abbrev Stp:=T_limnographref37_Step
abbrev Hs:=T_api_Hist
def bkt (sd off:Int) (i:Nat):Bk:=⟨sd,W64 (off+(i:Int))⟩
def sideS (sd off:Int):Nat→List UInt64→List Stp
 | _,[]=>[]
 | i,c::l=>⟨bkt sd off i,c⟩::sideS sd off (i+1) l
theorem sideS_snoc (sd off:Int) (c:UInt64):∀ (i:Nat) (l:List UInt64),sideS sd off i (l++[c])=sideS sd off i l++[⟨bkt sd off (i+l.length),c⟩]
 | i,[]=>rfl
 | i,x::l=>by
  rw [List.cons_append,sideS,sideS_snoc sd off c (i+1) l,sideS,List.cons_append,List.length_cons]
  have e:i+1+l.length=i+(l.length+1):=by omega
  rw [e]
theorem sideS_len (sd off:Int):∀ (i:Nat) (l:List UInt64),(sideS sd off i l).length=l.length
 | _,[]=>rfl
 | i,c::l=>by rw [sideS,List.length_cons,sideS_len sd off (i+1) l,List.length_cons]
def negS (h:Hs):List Stp:=(sideS (-1) h.Neg.Offset 0 h.Neg.Counts).reverse
def zerS (h:Hs):Stp:=⟨⟨0,0⟩,h.Zero⟩
def posS (h:Hs):List Stp:=sideS 1 h.Pos.Offset 0 h.Pos.Counts
def stp (h:Hs):List Stp:=negS h++zerS h::posS h
theorem stp_len (h:Hs):(stp h).length=h.Neg.Counts.length+1+h.Pos.Counts.length:=by
 unfold stp negS posS;simp [sideS_len];omega
theorem down_loop {R:Type} {S:Type} (L:Nat→Int→S→Option R) (J:S→Option R) (l:List UInt64) (hl:l.length≤1000000) (F:Nat→UInt64→S→(S→Option R)→Option R)
 (h0:∀ n y s,y<0→L (n+1) y s=J s) (h1:∀ n (i:Nat) (x:UInt64) s,l[i]?=some x→L (n+1) (i:Int) s=F i x s (λs'=>L n ((i:Int)-1) s')) (G:List UInt64→S→Option R)
 (g0:∀ s,J s=G [] s) (g1:∀ (p:List UInt64) (x:UInt64) s k,(∃ q,l=p++x::q)→(∀ s',k s'=G p s')→F p.length x s k=G (p++[x]) s) (s:S):L fuel (W64 ((l.length:Int)-1)) s=G l s:=by
 have key:∀ (m n:Nat) (p q:List UInt64) (s:S),p.length=m→l=p++q→m<n→L n ((m:Int)-1) s=G p s:=by
  intro m
  induction m with
  | zero=>
   intro n p q s hp hl hn;obtain ⟨n,rfl⟩:∃ k,n=k+1:=⟨n-1,by omega⟩;have:p=[]:=List.eq_nil_of_length_eq_zero hp;subst this;rw [h0 n _ s (by omega),g0]
  | succ m ih=>
   intro n p q s hp hl hn;obtain ⟨n,rfl⟩:∃ k,n=k+1:=⟨n-1,by omega⟩
   rcases List.eq_nil_or_concat p with rfl|⟨p',x,rfl⟩
   ·simp at hp
   ·rw [List.concat_eq_append] at hp hl ⊢
    have hp':p'.length=m:=by simp at hp;omega
    have e:((m+1:Nat):Int)-1=(m:Int):=by omega
    have hx:l[m]?=some x:=by rw [hl,← hp'];simp
    rw [e,h1 n m x s hx,← hp']
    refine g1 p' x s _ ⟨q,by rw [hl];simp⟩ λs'=>?_
    rw [hp'];exact ih n p' (x::q) s' hp' (by rw [hl];simp) (by omega)
 rw [W64_id (by omega) (by omega)];exact key l.length fuel l [] s rfl (by simp) (by unfold fuel;omega)
theorem steps_eq (h:Hs) (h1:h.Pos.Counts.length≤1000000) (h2:h.Neg.Counts.length≤1000000):m_limnographref37_Steps h=some (stp h):=by
 unfold m_limnographref37_Steps;rw [jn_eq]
 refine (down_loop (λn y s=>m_limnographref37_Steps_L2 h (λy10=>(appL y10 [(⟨(⟨0,0⟩:T_api_Bucket),h.Zero⟩:T_limnographref37_Step)]).bind λz14=>
  jn (λ(y16:(List T_limnographref37_Step))=>
   (some y16)) λj2=>
  m_limnographref37_Steps_L1 h j2 fuel z14 0) n s y) (λy10=>(appL y10 [zerS h]).bind λz14=>m_limnographref37_Steps_L1 h (λy=>some y) fuel z14 0) h.Neg.Counts h2 (λi x s k=>(appL s [(⟨bkt (-1) h.Neg.Offset i,x⟩:Stp)]).bind k) ?_ ?_
  (λp s=>if s.length+p.length+1+h.Pos.Counts.length≤1073741824 then some (s++(sideS (-1) h.Neg.Offset 0 p).reverse++zerS h::posS h) else (appL (s++(sideS (-1) h.Neg.Offset 0 p).reverse) [zerS h]).bind λz14=>m_limnographref37_Steps_L1 h (λy=>some y) fuel z14 0) ?_ ?_ []).trans ?_
 ·intro n y s hy
  rw [m_limnographref37_Steps_L2,if_neg (by omega)];simp only [jn_eq];rfl
 ·intro n i x s hx
  have hi:=(List.getElem?_eq_some_iff.1 hx).1;rw [m_limnographref37_Steps_L2,if_pos (by omega),idx_nat,hx,bndS,W64_id (z:=(i:Int)-1) (by omega) (by omega)]
  rfl
 ·intro s
  by_cases hs:s.length+([]:List UInt64).length+1+h.Pos.Counts.length≤1073741824
  ·rw [if_pos hs,app_some (by simp at hs ⊢;omega),bndS,m_limnographref37_Steps_L1_scan _ _ _ (by omega)]
   refine (scanL_inv (λ(p:List UInt64) (t:List Stp)=>t=s++[zerS h]++sideS 1 h.Pos.Offset 0 p) (λ_ _ _=>some (s++zerS h::posS h)) (by simp [sideS]) (λt ht=>by rw [ht];simp [posS]) ?_).trans (by simp [sideS]);rintro p x q t k hp rfl hk
   have hpl:p.length+q.length+1=h.Pos.Counts.length:=by have:=congrArg List.length hp;simp at this;omega
   rw [bndS,app_some (by simp [sideS_len] at hs ⊢;omega),bndS];refine hk _ ?_;rw [sideS_snoc,Nat.zero_add,List.append_assoc _ _ [_]]
   rfl
  ·rw [if_neg hs];simp [sideS]
 ·rintro p x s k ⟨q,hq⟩ hk
  have hl:h.Neg.Counts.length=p.length+(q.length+1):=by rw [hq];simp
  by_cases hs:s.length+1≤1073741824
  ·rw [app_some (by simpa using hs),bndS,hk]
   have e1:(s++[(⟨bkt (-1) h.Neg.Offset p.length,x⟩:Stp)]).length+p.length+1+h.Pos.Counts.length=s.length+(p++[x]).length+1+h.Pos.Counts.length:=by simp;omega
   have e2:s++[(⟨bkt (-1) h.Neg.Offset p.length,x⟩:Stp)]++(sideS (-1) h.Neg.Offset 0 p).reverse=s++(sideS (-1) h.Neg.Offset 0 (p++[x])).reverse:=by
    rw [sideS_snoc,Nat.zero_add];simp
   rw [e1,e2]
  ·have e1:appL s [(⟨bkt (-1) h.Neg.Offset p.length,x⟩:Stp)]=none:=by unfold appL;rw [if_neg (by simpa using hs)]
   have e2:appL (s++(sideS (-1) h.Neg.Offset 0 (p++[x])).reverse) [zerS h]=none:=by unfold appL;rw [if_neg (by simp [sideS_len];omega)]
   rw [e1,if_neg (by simp;omega),e2];rfl
 ·rw [if_pos (by simp;omega)]
  simp [stp,negS]
def aheadB (a b:Bk):Bool:=if a.Side≠b.Side then decide (a.Side<b.Side) else if a.Side<0 then decide (a.Index>b.Index) else decide (a.Index<b.Index)
def badB (b:Bk):Prop:=b.Side < -1∨b.Side>1∨(b.Side=0∧b.Index≠0)
instance (b:Bk):Decidable (badB b):=by unfold badB;infer_instance
end Go.Proofs.YtffboddbdpagkaaGreatDoor
set_option linter.unusedVariables false
set_option linter.unusedSimpArgs false
namespace Go.Proofs.YtffboddbdpagkaaGreatDoor
open Go Go.RowKit Go.Wk
theorem hc_ok {h:Hs} (e:hcE h=0):sdE h.Pos=0∧sdE h.Neg=0∧totN h<2^64:=by
 unfold hcE at e
 by_cases h1:h.Scale < -10∨h.Scale>20
 ·rw [if_pos h1] at e;exact absurd e (by decide)
 rw [if_neg h1] at e
 by_cases h2:sdE h.Pos≠0
 ·rw [if_pos h2] at e;exact absurd e h2
 rw [if_neg h2] at e
 by_cases h3:sdE h.Neg≠0
 ·rw [if_pos h3] at e;exact absurd e h3
 rw [if_neg h3] at e
 by_cases h4:totN h<2^64
 ·exact ⟨Decidable.not_not.1 h2,Decidable.not_not.1 h3,h4⟩
 ·rw [if_neg h4] at e;exact absurd e (by decide)
def sm (l:List Stp):Nat:=(l.map λx=>x.N.toNat).sum
theorem sm_nil:sm []=0:=rfl
theorem sm_cons (x:Stp) (l:List Stp):sm (x::l)=x.N.toNat+sm l:=by simp [sm]
theorem sm_append (a b:List Stp):sm (a++b)=sm a+sm b:=by simp [sm]
theorem sm_rev (a:List Stp):sm a.reverse=sm a:=by
 induction a with
 | nil=>rfl
 | cons x a ih=>rw [List.reverse_cons,sm_append,ih,sm_cons,sm_cons,sm_nil];omega
theorem sm_side (sd off:Int):∀ (i:Nat) (l:List UInt64),sm (sideS sd off i l)=sumN l
 | _,[]=>rfl
 | i,c::l=>by rw [sideS,sm_cons,sm_side sd off (i+1) l,sumN_cons]
theorem sm_stp (h:Hs):sm (stp h)=totN h:=by
 unfold stp negS posS zerS totN;rw [sm_append,sm_rev,sm_side,sm_cons,sm_side];dsimp only
 omega
def lt (a b:Stp):Prop:=aheadB a.B b.B=true∧aheadB b.B a.B=false
def nthF (d:Bk):List Stp→UInt64→Bk
 | [],_=>d
 | x::l,n=>if n.toNat≤x.N.toNat then x.B else nthF d l (n-x.N)
def nthE (h:Hs) (n:UInt64):Bk×Bool:=if hcE h≠0∨n.toNat=0∨n.toNat>totN h then (⟨0,0⟩,false) else (nthF ⟨0,0⟩ (stp h) n,true)
theorem nth_eq (h:Hs) (h1:h.Pos.Counts.length≤1000000) (h2:h.Neg.Counts.length≤1000000) (n:UInt64):m_query_Nth h n=some (nthE h n):=by
 unfold m_query_Nth nthE;rw [Total_eq h h1 h2,bndS,HCheck_eq h h1 h2,bndS]
 by_cases hb:hcE h≠0
 ·rw [if_pos (.inl (.inl (.inl hb))),if_pos (.inl hb)]
 have hb':hcE h=0:=Decidable.not_not.1 hb;have ht:=(hc_ok hb').2.2
 have et:totE h=(UInt64.ofNat (totN h),true):=by unfold totE;rw [if_pos ht]
 have en:(UInt64.ofNat (totN h)).toNat=totN h:=ofNat_nat (by rw [← pow64];exact ht);rw [et];dsimp only;rw [en];simp only [Bool.not_true,Bool.false_eq_true,or_false]
 by_cases hc:n.toNat=0∨n.toNat>totN h
 ·rw [if_pos (by omega),if_pos (by omega)]
 rw [if_neg (by omega),if_neg (by omega)];simp only [jn_eq]
 have pos:∀ (s:UInt64) (d:Bk),m_query_Nth_L1 h (λy=>some (y,true)) (λy=>some (y,true)) fuel 0 s d=some (nthF d (posS h) s,true):=by
  intro s d;rw [m_query_Nth_L1_scan _ _ _ _ _ (by omega)];refine scanL_inv (λ(p:List UInt64) (t:UInt64×Bk)=>t.2=d∧nthF d (sideS 1 h.Pos.Offset p.length (h.Pos.Counts.drop p.length)) t.1=nthF d (posS h) s) (λp q t=>some (nthF d (posS h) s,true)) ⟨rfl,rfl⟩ ?_ ?_
  ·rintro ⟨t,d'⟩ ⟨rfl,ht⟩
   rw [← ht];simp [sideS,nthF]
  ·rintro p x q ⟨t,d'⟩ k hp ⟨rfl,ht⟩ hk
   dsimp only at ht ⊢;simp only [bndS,jn_eq,Bool.not_true,Bool.not_false,Bool.false_eq_true,if_true,if_false]
   have hd:h.Pos.Counts.drop p.length=x::q:=by rw [← hp];simp
   have hd2:h.Pos.Counts.drop (p++[x]).length=q:=by rw [← hp];simp
   rw [hd,sideS,nthF] at ht
   by_cases hx:t.toNat≤x.toNat
   ·rw [if_pos hx] at ht
    rw [if_pos (by omega),← ht];rfl
   ·rw [if_neg hx] at ht
    rw [if_neg (by omega)];refine hk _ ⟨rfl,?_⟩;rw [hd2,← ht,List.length_append];rfl
 refine (down_loop (λn y (s:UInt64×Bk) => m_query_Nth_L2 h (λy => some (y, true)) (λ(y37:UInt64) (y38:T_api_Bucket) =>
  if ((h.Zero).toNat:Int)≥((y37).toNat:Int) then
  some ((⟨0,0⟩:T_api_Bucket),true)
  else
  m_query_Nth_L1 h (λy=>some (y,true)) (λy=>some (y,true)) fuel 0 (y37-h.Zero) y38) n y s.1 s.2) (λs=>some (nthF s.2 (zerS h::posS h) s.1,true)) h.Neg.Counts h2
  (λi x s k=>if s.1.toNat≤x.toNat then some (bkt (-1) h.Neg.Offset i,true) else k (s.1-x,s.2)) ?_ ?_ (λp s=>some (nthF s.2 ((sideS (-1) h.Neg.Offset 0 p).reverse++zerS h::posS h) s.1,true)) ?_ ?_ (n,⟨0,0⟩)).trans ?_
 ·rintro n y ⟨s,d⟩ hy
  dsimp only;rw [m_query_Nth_L2,if_neg (by omega)];unfold nthF zerS;dsimp only
  by_cases hx:s.toNat≤h.Zero.toNat
  ·rw [if_pos (by omega),if_pos hx]
  ·rw [if_neg (by omega),if_neg hx,pos]
 ·rintro n i x ⟨s,d⟩ hx
  have hi:=(List.getElem?_eq_some_iff.1 hx).1;dsimp only;rw [m_query_Nth_L2,if_pos (by omega),idx_nat,hx,bndS,W64_id (z:=(i:Int)-1) (by omega) (by omega)];simp only [jn_eq,Bool.not_true,Bool.not_false,Bool.false_eq_true,if_true,if_false]
  by_cases hx:s.toNat≤x.toNat
  ·rw [if_pos (by omega),if_pos hx];rfl
  ·rw [if_neg (by omega),if_neg hx]
 ·rintro ⟨s,d⟩;rfl
 ·rintro p x ⟨s,d⟩ k _ hk
  dsimp only
  have e:(sideS (-1) h.Neg.Offset 0 (p++[x])).reverse=⟨bkt (-1) h.Neg.Offset p.length,x⟩::(sideS (-1) h.Neg.Offset 0 p).reverse:=by rw [sideS_snoc,Nat.zero_add];simp
  rw [e,List.cons_append,nthF]
  by_cases hx:s.toNat≤x.toNat
  ·rw [if_pos hx,if_pos hx]
  ·rw [if_neg hx,if_neg hx,hk]
 ·rfl
end Go.Proofs.YtffboddbdpagkaaGreatDoor
set_option linter.unusedVariables false
set_option linter.unusedSimpArgs false
namespace Go.Proofs.YtffboddbdpagkaaGreatDoor
open Go Go.RowKit Go.Wk
theorem hi32 (x:UInt64):(x>>>UInt64.ofNat 32).toNat=x.toNat/4294967296:=by
 rw [UInt64.toNat_shiftRight,show (UInt64.ofNat 32).toNat%64=32 by decide,Nat.shiftRight_eq_div_pow]
theorem lo32 (x:UInt64):(x&&&(4294967295:UInt64)).toNat=x.toNat%4294967296:=by
 rw [UInt64.toNat_and,show (4294967295:UInt64).toNat=2^32-1 by decide,Nat.and_two_pow_sub_one_eq_mod]
theorem mul_lt {a b:Nat} (ha:a<4294967296) (hb:b<4294967296):a*b<18446744073709551616:=by
 have:=Go.Lib.half_mul_le (a:=a) (b:=b) (by omega) (by omega)
 omega
theorem mul64_eq (a b:UInt64):m_math_bits_Mul64 a b=some (UInt64.ofNat (a.toNat*b.toNat/18446744073709551616),a*b):=by
 unfold m_math_bits_Mul64
 congr 2
 apply UInt64.toNat_inj.1
 obtain ⟨h1,h2,h3,h4⟩:=Go.Lib.mul64_hi a.toNat b.toNat a.toNat_lt b.toNat_lt;have ha:=a.toNat_lt;have hb:=b.toNat_lt
 have k1:(a>>>UInt64.ofNat 32*(b&&&4294967295)).toNat=a.toNat/4294967296*(b.toNat%4294967296):=by
  rw [UInt64.toNat_mul,hi32,lo32];exact Nat.mod_eq_of_lt (mul_lt (by omega) (by omega))
 have k2:((a&&&4294967295)*(b&&&4294967295)).toNat=a.toNat%4294967296*(b.toNat%4294967296):=by
  rw [UInt64.toNat_mul,lo32,lo32];exact Nat.mod_eq_of_lt (mul_lt (by omega) (by omega))
 have k3:((a&&&4294967295)*(b>>>UInt64.ofNat 32)).toNat=a.toNat%4294967296*(b.toNat/4294967296):=by
  rw [UInt64.toNat_mul,hi32,lo32];exact Nat.mod_eq_of_lt (mul_lt (by omega) (by omega))
 have k4:(a>>>UInt64.ofNat 32*(b>>>UInt64.ofNat 32)).toNat=a.toNat/4294967296*(b.toNat/4294967296):=by
  rw [UInt64.toNat_mul,hi32,hi32];exact Nat.mod_eq_of_lt (mul_lt (by omega) (by omega))
 have hq:a.toNat*b.toNat/18446744073709551616<18446744073709551616:=by
  rw [← h4];have h5:=Go.Lib.half_mul_le (a:=a.toNat/4294967296) (b:=b.toNat/4294967296) (by omega) (by omega)
  omega
 rw [ofNat_nat hq,← h4];rw [← h4] at hq;simp only [UInt64.toNat_add,hi32,lo32,k1,k2,k3,k4];generalize (a.toNat/4294967296)*(b.toNat/4294967296)=A at *;generalize (a.toNat/4294967296)*(b.toNat%4294967296)=B at *;generalize (a.toNat%4294967296)*(b.toNat/4294967296)=C at *;generalize (a.toNat%4294967296)*(b.toNat%4294967296)=D at *
 omega
theorem knuth {R:Type} (L:Nat→UInt64→UInt64→Option R) (J:UInt64→Option R) (y1 y0 d:UInt64) (Y u Q:Nat) (hY:Y=y1.toNat*4294967296+y0.toNat) (h1:2147483648≤y1.toNat) (h1':y1.toNat<4294967296) (h0:y0.toNat<4294967296) (hd:d.toNat<4294967296)
 (hu:u<Y) (hQ:Q=(u*4294967296+d.toNat)/Y)
 (h:∀ n q r,L (n+1) q r=if (q.toNat:Int)≥4294967296∨((q*y0).toNat:Int)>(((4294967296:UInt64)*r+d).toNat:Int) then (if ((r+y1).toNat:Int)≥4294967296 then J (q-1) else L n (q-1) (r+y1)) else J q)
 (q r:UInt64) (hqr:q.toNat*y1.toNat+r.toNat=u) (hr:r.toNat<4294967296) (hq:Q≤q.toNat):L fuel q r=J (UInt64.ofNat Q):=by
 have hYp:0<Y:=by omega
 have hQB:Q<4294967296:=by rw [hQ,Nat.div_lt_iff_lt_mul hYp];omega
 have hQY:Q*Y≤u*4294967296+d.toNat:=by rw [hQ];exact Nat.div_mul_le_self _ _
 have hQY2:u*4294967296+d.toNat<(Q+1)*Y:=by
  have a1:=Nat.div_add_mod (u*4294967296+d.toNat) Y;have a2:=Nat.mod_lt (u*4294967296+d.toNat) hYp;rw [← hQ,Nat.mul_comm] at a1;rw [Nat.add_mul,Nat.one_mul]
  omega
 have le_of:∀ p:Nat,p*Y≤u*4294967296+d.toNat→p≤Q:=by
  intro p hp;rw [hQ];exact (Nat.le_div_iff_mul_le hYp).2 hp
 have key:∀ (k:Nat) (n:Nat) (q r:UInt64),k<n→q.toNat*y1.toNat+r.toNat=u→r.toNat<4294967296→Q≤q.toNat→4294967296≤r.toNat+k*2147483648→L n q r=J (UInt64.ofNat Q):=by
  intro k
  induction k with
  | zero=>intro n q r hn h3 h4 h5 h6;omega
  | succ k ih=>
   intro n q r hn hqr hr hq hk;obtain ⟨n,rfl⟩:∃ m,n=m+1:=⟨n-1,by omega⟩
   have eN:∀ p s:Nat,p*y1.toNat+s=u→p*Y+s*4294967296=u*4294967296+p*y0.toNat:=by
    intro p s hs;rw [hY,← hs,Nat.mul_add,Nat.add_mul,Nat.mul_assoc];omega
   have hq2:q.toNat≤4294967297:=by
    refine Nat.le_of_not_lt λhc=>?_
    have:4294967298*y1.toNat≤q.toNat*y1.toNat:=Nat.mul_le_mul_right _ hc
    omega
   have em:q.toNat<4294967296→(q*y0).toNat=q.toNat*y0.toNat:=λhc=>by rw [UInt64.toNat_mul];exact Nat.mod_eq_of_lt (mul_lt hc h0)
   have er:((4294967296:UInt64)*r+d).toNat=4294967296*r.toNat+d.toNat:=by
    rw [UInt64.toNat_add,UInt64.toNat_mul,show (4294967296:UInt64).toNat=4294967296 by rfl];omega
   rw [h n q r]
   by_cases hc:(q.toNat:Int)≥4294967296∨((q*y0).toNat:Int)>(((4294967296:UInt64)*r+d).toNat:Int)
   ·rw [if_pos hc]
    have hgt:Q<q.toNat:=by
     by_cases hb:q.toNat≥4294967296
     ·omega
     ·have hc2:=hc.resolve_left (by omega)
      rw [em (by omega),er] at hc2
      refine Nat.lt_of_not_le λhle=>?_
      have hqQ:q.toNat=Q:=by omega
      have:=eN q.toNat r.toNat hqr;rw [hqQ] at this hc2
      omega
    have e1:(q-1).toNat=q.toNat-1:=UInt64.toNat_sub_of_le _ _ (UInt64.le_iff_toNat_le.2 (by rw [show (1:UInt64).toNat=1 by rfl];omega))
    have e2:(r+y1).toNat=r.toNat+y1.toNat:=by rw [UInt64.toNat_add];omega
    have e3:(q-1).toNat*y1.toNat+(r+y1).toNat=u:=by
     rw [e1,e2,Nat.sub_mul];have:1*y1.toNat≤q.toNat*y1.toNat:=Nat.mul_le_mul_right _ (by omega)
     omega
    by_cases hx:((r+y1).toNat:Int)≥4294967296
    ·rw [if_pos hx]
     congr 1
     apply UInt64.toNat_inj.1
     rw [ofNat_nat (by omega)];refine Nat.le_antisymm (le_of _ ?_) (by omega);have e4:=eN _ _ e3;have:(q-1).toNat*y0.toNat≤4294967296*4294967295:=Nat.mul_le_mul (by omega) (by omega)
     omega
    ·rw [if_neg hx]
     exact ih n _ _ (by omega) e3 (by omega) (by omega) (by omega)
   ·rw [if_neg hc]
    congr 1
    apply UInt64.toNat_inj.1
    rw [ofNat_nat (by omega)];refine Nat.le_antisymm (le_of _ ?_) hq
    have hb:q.toNat<4294967296:=by omega
    rw [em hb,er] at hc;have:=eN _ _ hqr
    omega
 exact key 2 fuel q r (by unfold fuel;omega) hqr hr hq (by omega)
theorem left_eq {u d Q Y:UInt64} {R:Nat} (h:Q.toNat*Y.toNat+R=u.toNat*4294967296+d.toNat) (hd:d.toNat<4294967296) (hR:R<18446744073709551616):(u*(4294967296:UInt64)+d-Q*Y).toNat=R:=by
 rw [UInt64.toNat_sub,UInt64.toNat_add,UInt64.toNat_mul,UInt64.toNat_mul,show (4294967296:UInt64).toNat=4294967296 by rfl];generalize Q.toNat*Y.toNat=M at *
 omega
end Go.Proofs.YtffboddbdpagkaaGreatDoor
set_option maxRecDepth 20000
set_option linter.unusedVariables false
set_option linter.unusedSimpArgs false
namespace Go.Proofs.YtffboddbdpagkaaGreatDoor
open Go Go.RowKit Go.Wk
theorem toU_nat {k:Nat} (h:k<18446744073709551616):toU64 (k:Int)=UInt64.ofNat k:=by
 unfold toU64
 congr 1
 omega
theorem quo64_some {a b:UInt64} (h:b.toNat≠0):quo64 a b=some (a/b):=by
 unfold quo64;rw [if_neg (λe=>h (by rw [e];rfl))]
theorem rem64_some {a b:UInt64} (h:b.toNat≠0):rem64 a b=some (a%b):=by
 unfold rem64;rw [if_neg (λe=>h (by rw [e];rfl))]
theorem sub_quo (a b:UInt64):(a-a/b*b).toNat=a.toNat%b.toNat:=by
 have h1:=Nat.div_add_mod a.toNat b.toNat;have ha:=a.toNat_lt;rw [Nat.mul_comm] at h1
 have e:(a/b*b).toNat=a.toNat/b.toNat*b.toNat:=by
  rw [UInt64.toNat_mul,UInt64.toNat_div];exact Nat.mod_eq_of_lt (by omega)
 rw [UInt64.toNat_sub_of_le _ _ (UInt64.le_iff_toNat_le.2 (by omega)),e]
 omega
theorem step_if {R:Type} (A B:Prop) [Decidable A] [Decidable B] (x z:R):(jn (λ(y:Bool)=>if y=true then x else z) λj=>if A then j true else j (decide B))=if A∨B then x else z:=by
 rw [jn_eq]
 by_cases h1:A
 ·rw [if_pos h1,if_pos (Or.inl h1)];rfl
 ·by_cases h2:B
  ·rw [if_neg h1,if_pos (Or.inr h2),decide_eq_true h2];rfl
  ·rw [if_neg h1,if_neg (λh=>Or.elim h h1 h2),decide_eq_false h2];rfl
theorem L2_step (x1 x2:UInt64) (p7:Int) (j3:UInt64→Option (UInt64×UInt64)) {Y U:UInt64} (hY:shl64 x2 ((toU64 p7).toNat)=Y) (hU:shl64 x1 ((toU64 p7).toNat)=U) (n:Nat) (q r:UInt64) :
 m_math_bits_Div64_L2 x1 x2 p7 j3 (n+1) q r=if (q.toNat:Int)≥4294967296∨((q*(Y&&&(4294967295:UInt64))).toNat:Int)>(((4294967296:UInt64)*r+(U>>>UInt64.ofNat 32)).toNat:Int) then (if ((r+(Y>>>UInt64.ofNat 32)).toNat:Int)≥4294967296 then j3 (q-1) else m_math_bits_Div64_L2 x1 x2 p7 j3 n (q-1) (r+(Y>>>UInt64.ofNat 32))) else j3 q:=by
 rw [m_math_bits_Div64_L2,hY,hU];exact step_if _ _ _ _
theorem L1_step (x1 x2:UInt64) (p7:Int) (j3:UInt64→Option (UInt64×UInt64)) {Y U:UInt64} (hY:shl64 x2 ((toU64 p7).toNat)=Y) (hU:shl64 x1 ((toU64 p7).toNat)=U) (n:Nat) (q r:UInt64) :
 m_math_bits_Div64_L1 x1 x2 p7 j3 (n+1) r q=if (q.toNat:Int)≥4294967296∨((q*(Y&&&(4294967295:UInt64))).toNat:Int)>(((4294967296:UInt64)*r+(U&&&(4294967295:UInt64))).toNat:Int) then (if ((r+(Y>>>UInt64.ofNat 32)).toNat:Int)≥4294967296 then j3 (q-1) else m_math_bits_Div64_L1 x1 x2 p7 j3 n (r+(Y>>>UInt64.ofNat 32)) (q-1)) else j3 q:=by
 rw [m_math_bits_Div64_L1,hY,hU];exact step_if _ _ _ _
theorem quo_le {u Y y1 y0 d:Nat} (hY:Y=y1*4294967296+y0) (h1:0<y1) (hd:d<4294967296):(u*4294967296+d)/Y≤u/y1:=by
 refine (Nat.le_div_iff_mul_le h1).2 ?_;have a1:=Nat.div_mul_le_self (u*4294967296+d) Y;generalize (u*4294967296+d)/Y=q at *;rw [hY,Nat.mul_add,← Nat.mul_assoc] at a1;generalize q*y1=M at *;generalize q*y0=K at *
 omega
theorem two_digits {U Y u d1 d0 Q1 R1 Q0 R0:Nat} (hU:U=u*18446744073709551616+d1*4294967296+d0) (h1:Q1*Y+R1=u*4294967296+d1) (h0:Q0*Y+R0=R1*4294967296+d0):U=(Q1*4294967296+Q0)*Y+R0:=by
 rw [Nat.add_mul,Nat.mul_right_comm Q1];generalize Q1*Y=A at *;generalize Q0*Y=B at *
 have h2:A*4294967296+R1*4294967296=u*4294967296*4294967296+d1*4294967296:=by rw [← Nat.add_mul,h1,Nat.add_mul]
 rw [show (18446744073709551616:Nat)=4294967296*4294967296 by decide,← Nat.mul_assoc] at hU
 have key:∀ X Z P V:Nat,X+P=Z+V→U=Z+V+d0→B+R0=P+d0→U=X+B+R0:=by intros;omega
 exact key _ _ _ _ h2 hU h0
theorem lo_shift {lo s:Nat} (h:s≤64):lo*2^s/18446744073709551616=lo/2^(64-s):=by
 have e:(18446744073709551616:Nat)=2^(64-s)*2^s:=by rw [← Nat.pow_add,show 64-s+s=64 by omega]
 rw [e];exact Nat.mul_div_mul_right _ _ (Nat.two_pow_pos s)
theorem div64_eq {hi lo y:UInt64} (h:hi.toNat<y.toNat):m_math_bits_Div64 hi lo y=some (UInt64.ofNat ((hi.toNat*18446744073709551616+lo.toNat)/y.toNat),UInt64.ofNat ((hi.toNat*18446744073709551616+lo.toNat)%y.toNat)):=by
 have hlo:=lo.toNat_lt;have hy:=y.toNat_lt
 have y0:y.toNat≠0:=by omega
 unfold m_math_bits_Div64;rw [jn_eq,jn_eq,if_neg (by omega),if_neg (by omega)];dsimp only
 have small:∀ k,k<y.toNat→k<18446744073709551616:=λk hk=>by omega
 have qlt:(hi.toNat*18446744073709551616+lo.toNat)/y.toNat<18446744073709551616:=by
  rw [Nat.div_lt_iff_lt_mul (by omega)];have:(hi.toNat+1)*18446744073709551616≤y.toNat*18446744073709551616:=Nat.mul_le_mul_right _ h
  omega
 by_cases h0:hi.toNat=0
 ·rw [if_pos (by omega),quo64_some y0,rem64_some y0,bndS,bndS,h0,Nat.zero_mul,Nat.zero_add]
  congr 2
  ·apply UInt64.toNat_inj.1;rw [UInt64.toNat_div,ofNat_nat (Nat.lt_of_le_of_lt (Nat.div_le_self _ _) (by omega))]
  ·apply UInt64.toNat_inj.1;rw [UInt64.toNat_mod,ofNat_nat (small _ (Nat.mod_lt _ (by omega)))]
 rw [if_neg (by omega),lz_eq,bndS];have b1:=bl_le (n:=y.toNat) (k:=64) (by omega);have b2:=bl_hi y.toNat;have b3:=bl_lo y0
 have b4:bl y.toNat≠0:=by intro e;rw [e] at b2;omega
 have hs:∃ s,64-bl y.toNat=s∧s≤63∧y.toNat*2^s<18446744073709551616∧9223372036854775808≤y.toNat*2^s:=by
  refine ⟨_,rfl,by omega,?_,?_⟩
  ·have:y.toNat*2^(64-bl y.toNat)<2^bl y.toNat*2^(64-bl y.toNat):=Nat.mul_lt_mul_of_pos_right b2 (Nat.two_pow_pos _)
   rw [← Nat.pow_add,show bl y.toNat+(64-bl y.toNat)=64 by omega] at this;exact this
  ·have:2^(bl y.toNat-1)*2^(64-bl y.toNat)≤y.toNat*2^(64-bl y.toNat):=Nat.mul_le_mul_right _ b3
   rw [← Nat.pow_add,show bl y.toNat-1+(64-bl y.toNat)=63 by omega] at this;exact this
 obtain ⟨s,e,s63,y1,y2⟩:=hs;rw [e]
 have es:(toU64 (s:Int)).toNat=s:=by rw [toU_nat (by omega),ofNat_nat (by omega)]
 have es2:((64:UInt64)-toU64 (s:Int)).toNat=64-s:=by
  rw [UInt64.toNat_sub_of_le _ _ (UInt64.le_iff_toNat_le.2 (by rw [es];show s≤64;omega)),es];rfl
 have ps:=Nat.two_pow_pos s
 have hYn:(shl64 y s).toNat=y.toNat*2^s:=by rw [shl64_mod];exact Nat.mod_eq_of_lt y1
 have hle:(hi.toNat+1)*2^s≤y.toNat*2^s:=Nat.mul_le_mul_right _ h;rw [Nat.add_mul,Nat.one_mul] at hle
 have hlow:lo.toNat/2^(64-s)<2^s:=by
  rw [Nat.div_lt_iff_lt_mul (Nat.two_pow_pos _),← Nat.pow_add,show s+(64-s)=64 by omega];exact hlo
 have hun:(shl64 hi s|||shr64 lo (64-s)).toNat=hi.toNat*2^s+lo.toNat/2^(64-s):=by
  rw [UInt64.toNat_or,shl64_mod,shr64_nat,Nat.mod_eq_of_lt (by omega),Nat.mul_comm,← Nat.two_pow_add_eq_or_of_lt hlow]
 have hU10:(shl64 lo s).toNat=lo.toNat*2^s%18446744073709551616:=shl64_mod _ _
 have hV:(hi.toNat*18446744073709551616+lo.toNat)*2^s=(hi.toNat*2^s+lo.toNat/2^(64-s))*18446744073709551616+lo.toNat*2^s%18446744073709551616:=by
  rw [← lo_shift (by omega),Nat.add_mul,Nat.mul_right_comm];generalize hi.toNat*2^s=A at *;generalize lo.toNat*2^s=B at *
  omega
 have eY:shl64 y ((toU64 (s:Int)).toNat)=shl64 y s:=by rw [es]
 have eU:shl64 lo ((toU64 (s:Int)).toNat)=shl64 lo s:=by rw [es]
 have l2:=λj3=>L2_step lo y (s:Int) j3 eY eU
 have l1:=λj3=>L1_step lo y (s:Int) j3 eY eU
 simp only [es,es2];generalize shl64 y s=Y at *;generalize shl64 lo s=U at *
 generalize shl64 hi s|||shr64 lo (64-s)=W at *
 rw [← hun,← hU10] at hV
 have hWY:W.toNat<Y.toNat:=by rw [hun,hYn];omega
 have Ylt:=Y.toNat_lt;have Ult:=U.toNat_lt
 have yy:Y.toNat=(Y>>>UInt64.ofNat 32).toNat*4294967296+(Y&&&(4294967295:UInt64)).toNat:=by rw [hi32,lo32];omega
 have yy1:2147483648≤(Y>>>UInt64.ofNat 32).toNat:=by rw [hi32];omega
 have yy2:(Y>>>UInt64.ofNat 32).toNat<4294967296:=by rw [hi32];omega
 have yy3:(Y&&&(4294967295:UInt64)).toNat<4294967296:=by rw [lo32];omega
 have d1lt:(U>>>UInt64.ofNat 32).toNat<4294967296:=by rw [hi32];omega
 have d0lt:(U&&&(4294967295:UInt64)).toNat<4294967296:=by rw [lo32];omega
 have Yp:0<Y.toNat:=by omega
 have digit:∀ (u d:Nat),u<Y.toNat→d<4294967296→(u*4294967296+d)/Y.toNat<4294967296∧(u*4294967296+d)%Y.toNat<Y.toNat∧(u*4294967296+d)/Y.toNat*Y.toNat+(u*4294967296+d)%Y.toNat=u*4294967296+d:=by
  intro u d hu hd;refine ⟨by rw [Nat.div_lt_iff_lt_mul Yp];omega,Nat.mod_lt _ Yp,Nat.div_add_mod' _ _⟩
 rw [quo64_some (by omega),bndS,jn_eq];obtain ⟨g1,g2,g3⟩:=digit W.toNat (U>>>UInt64.ofNat 32).toNat hWY d1lt
 have start:∀ u:UInt64,(u/(Y>>>UInt64.ofNat 32)).toNat*(Y>>>UInt64.ofNat 32).toNat+(u-u/(Y>>>UInt64.ofNat 32)*(Y>>>UInt64.ofNat 32)).toNat=u.toNat:=by
  intro u;rw [sub_quo,UInt64.toNat_div];exact Nat.div_add_mod' _ _
 have startr:∀ u:UInt64,(u-u/(Y>>>UInt64.ofNat 32)*(Y>>>UInt64.ofNat 32)).toNat<4294967296:=by
  intro u;rw [sub_quo];exact Nat.lt_trans (Nat.mod_lt _ (by omega)) yy2
 have startq:∀ (u:UInt64) (d:Nat),d<4294967296→(u.toNat*4294967296+d)/Y.toNat≤(u/(Y>>>UInt64.ofNat 32)).toNat:=by
  intro u d hd;rw [UInt64.toNat_div];exact quo_le yy (by omega) hd
 obtain ⟨q1,q1n,e1⟩:∃ q1:UInt64,q1.toNat=(W.toNat*4294967296+(U>>>UInt64.ofNat 32).toNat)/Y.toNat∧∀ j3,m_math_bits_Div64_L2 lo y (s:Int) j3 fuel (W/(Y>>>UInt64.ofNat 32)) (W-W/(Y>>>UInt64.ofNat 32)*(Y>>>UInt64.ofNat 32))=j3 q1:=
  ⟨_,ofNat_nat (Nat.lt_trans g1 (by decide)),λj3=>knuth (λn q r=>m_math_bits_Div64_L2 lo y (s:Int) j3 n q r) j3 (Y>>>UInt64.ofNat 32) (Y&&&(4294967295:UInt64)) (U>>>UInt64.ofNat 32) Y.toNat W.toNat _ yy yy1 yy2 yy3 d1lt hWY rfl (λn q r=>l2 _ n q r) _ _ (start W) (startr W) (startq W _ d1lt)⟩
 rw [e1];rw [← q1n] at g1 g3;have hR1:=left_eq g3 d1lt (Nat.lt_trans g2 Ylt);generalize W*(4294967296:UInt64)+(U>>>UInt64.ofNat 32)-q1*Y=r1 at *
 have hr1Y:r1.toNat<Y.toNat:=by rw [hR1];exact g2
 rw [← hR1] at g3;obtain ⟨k1,k2,k3⟩:=digit r1.toNat (U&&&(4294967295:UInt64)).toNat hr1Y d0lt;rw [quo64_some (by omega),bndS,jn_eq]
 obtain ⟨q0,q0n,e0⟩:∃ q0:UInt64,q0.toNat=(r1.toNat*4294967296+(U&&&(4294967295:UInt64)).toNat)/Y.toNat∧∀ j3,m_math_bits_Div64_L1 lo y (s:Int) j3 fuel (r1-r1/(Y>>>UInt64.ofNat 32)*(Y>>>UInt64.ofNat 32)) (r1/(Y>>>UInt64.ofNat 32))=j3 q0:=
  ⟨_,ofNat_nat (Nat.lt_trans k1 (by decide)),λj3=>knuth (λn q r=>m_math_bits_Div64_L1 lo y (s:Int) j3 n r q) j3 (Y>>>UInt64.ofNat 32) (Y&&&(4294967295:UInt64)) (U&&&(4294967295:UInt64)) Y.toNat r1.toNat _ yy yy1 yy2 yy3 d0lt hr1Y rfl (λn q r=>l1 _ n q r) _ _ (start r1) (startr r1) (startq r1 _ d0lt)⟩
 rw [e0];rw [← q0n] at k1 k3;have hR0:=left_eq k3 d0lt (Nat.lt_trans k2 Ylt);generalize r1*(4294967296:UInt64)+(U&&&(4294967295:UInt64))-q0*Y=r0 at *;rw [← hR0] at k2 k3
 have uu:U.toNat=(U>>>UInt64.ofNat 32).toNat*4294967296+(U&&&(4294967295:UInt64)).toNat:=by rw [hi32,lo32];omega
 have fin:=two_digits (U:=W.toNat*18446744073709551616+U.toNat) (by rw [uu,Nat.add_assoc]) g3 k3;rw [← hV,hYn,← Nat.mul_assoc] at fin;obtain ⟨V,eV⟩:∃ V,V=hi.toNat*18446744073709551616+lo.toNat:=⟨_,rfl⟩;rw [← eV] at fin qlt ⊢;clear hV g1 g2 g3 k1 k3 hun hU10 hR1 hR0 q1n q0n
 have hr0:r0.toNat=(V-(q1.toNat*4294967296+q0.toNat)*y.toNat)*2^s:=by rw [Nat.sub_mul];omega
 have hr0':r0.toNat/2^s=V-(q1.toNat*4294967296+q0.toNat)*y.toNat:=by rw [hr0];exact Nat.mul_div_cancel _ ps
 have hle2:(q1.toNat*4294967296+q0.toNat)*y.toNat≤V:=by
  refine Nat.le_of_mul_le_mul_right ?_ ps
  omega
 have hlt2:V-(q1.toNat*4294967296+q0.toNat)*y.toNat<y.toNat:=by
  refine Nat.lt_of_mul_lt_mul_right (a:=2^s) ?_;rw [← hr0,← hYn];exact k2
 have hq:V/y.toNat=q1.toNat*4294967296+q0.toNat:=by
  exact Nat.div_eq_of_lt_le hle2 (by rw [Nat.add_mul,Nat.one_mul];omega)
 have hm:V%y.toNat=V-(q1.toNat*4294967296+q0.toNat)*y.toNat:=by
  have:=Nat.div_add_mod' V y.toNat;rw [hq] at this;omega
 congr 2
 ·apply UInt64.toNat_inj.1
  rw [ofNat_nat (by rw [hq];omega),hq,UInt64.toNat_add,UInt64.toNat_mul,show (4294967296:UInt64).toNat=4294967296 by rfl]
  omega
 ·apply UInt64.toNat_inj.1
  rw [ofNat_nat (by omega),shr64_nat,hr0',hm]
end Go.Proofs.YtffboddbdpagkaaGreatDoor
set_option maxRecDepth 20000
set_option linter.unusedVariables false
set_option linter.unusedSimpArgs false
namespace Go.Proofs.YtffboddbdpagkaaGreatDoor
open Go Go.RowKit Go.Wk
theorem nth37_eq (h:Hs) (h1:h.Pos.Counts.length≤1000000) (h2:h.Neg.Counts.length≤1000000) (n:UInt64):m_limnographref37_Nth h n=some (nthE h n):=by
 unfold m_limnographref37_Nth nthE;rw [rTotal_eq h h1 h2,bndS,Check8_eq h h1 h2,bndS]
 by_cases hb:hcE h≠0
 ·rw [if_pos (.inl (.inl hb)),if_pos (.inl hb)]
 have hb':hcE h=0:=Decidable.not_not.1 hb;have ht:=(hc_ok hb').2.2
 have et:totE h=(UInt64.ofNat (totN h),true):=by unfold totE;rw [if_pos ht]
 have en:(UInt64.ofNat (totN h)).toNat=totN h:=ofNat_nat (by rw [← pow64];exact ht);rw [et];dsimp only;rw [en]
 by_cases hc:n.toNat=0∨n.toNat>totN h
 ·rw [if_pos (by omega),if_pos (by omega)]
 rw [if_neg (by omega),if_neg (by omega),steps_eq h h1 h2,bndS,jn_eq,m_limnographref37_Nth_L1_scan _ _ _ _ (by rw [stp_len];omega)];have hs:=sm_stp h;refine scanL_inv (λ(p:List Stp) (t:UInt64)=>t.toNat=sm p∧sm p<n.toNat∧nthF ⟨0,0⟩ ((stp h).drop p.length) (n-t)=nthF ⟨0,0⟩ (stp h) n) (λp q t=>some (nthF ⟨0,0⟩ (stp h) n,true)) ⟨rfl,by rw [sm_nil];omega,?_⟩ ?_ ?_
 ·show nthF ⟨0,0⟩ (stp h) (n-0)=_
  rw [UInt64.sub_zero]
 ·rintro t ⟨t1,t2,_⟩
  omega
 ·rintro p x q t k hp ⟨t1,t2,t3⟩ hk
  have hd:(stp h).drop p.length=x::q:=by rw [← hp];simp
  have hd2:(stp h).drop (p++[x]).length=q:=by rw [← hp];simp
  have hsum:sm p+(x.N.toNat+sm q)=totN h:=by rw [← hs,← hp,sm_append,sm_cons]
  rw [hd,nthF] at t3
  have e1:(t+x.N).toNat=sm p+x.N.toNat:=by rw [UInt64.toNat_add,t1];omega
  have e2:(n-t).toNat=n.toNat-sm p:=by rw [UInt64.toNat_sub_of_le _ _ (UInt64.le_iff_toNat_le.2 (by omega)),t1]
  rw [bndS]
  by_cases hx:n.toNat≤sm p+x.N.toNat
  ·rw [if_pos (by omega)] at t3
   rw [if_pos (by omega),bndS,t3]
  ·rw [if_neg (by omega)] at t3
   rw [if_neg (by omega)];refine hk _ ⟨by rw [sm_append,sm_cons,sm_nil];omega,by rw [sm_append,sm_cons,sm_nil];omega,?_⟩;rw [hd2,← t3]
   congr 1
   apply UInt64.toNat_inj.1
   rw [UInt64.toNat_sub_of_le _ _ (UInt64.le_iff_toNat_le.2 (by omega)),UInt64.toNat_sub_of_le _ _ (UInt64.le_iff_toNat_le.2 (by omega))]
   omega
def cdv (a b:Nat):UInt64:=if a%b>0 then UInt64.ofNat (a/b)+1 else UInt64.ofNat (a/b)
theorem share_eq (h:Hs) (h1:h.Pos.Counts.length≤1000000) (h2:h.Neg.Counts.length≤1000000) (a b:UInt64) (hb:b.toNat≠0) (hab:a.toNat≤b.toNat):m_query_Share h a b=some (nthE h (maxU (cdv ((totE h).1.toNat*a.toNat) b.toNat) 1)):=by
 unfold m_query_Share;rw [Total_eq h h1 h2,bndS,if_neg (by omega),mul64_eq,bndS,jn_eq];dsimp only;generalize (totE h).1=t;have ht:=t.toNat_lt;have hb2:=b.toNat_lt;have hle:t.toNat*a.toNat≤t.toNat*b.toNat:=Nat.mul_le_mul_left _ hab;have hle2:t.toNat*b.toNat<18446744073709551616*b.toNat:=Nat.mul_lt_mul_of_pos_right ht (by omega)
 have hq:t.toNat*a.toNat/18446744073709551616<b.toNat:=by
  rw [Nat.div_lt_iff_lt_mul (by decide)];rw [Nat.mul_comm b.toNat];exact Nat.lt_of_le_of_lt hle hle2
 have e1:(UInt64.ofNat (t.toNat*a.toNat/18446744073709551616)).toNat=t.toNat*a.toNat/18446744073709551616:=ofNat_nat (Nat.lt_trans hq hb2)
 have e2:t.toNat*a.toNat/18446744073709551616*18446744073709551616+(t*a).toNat=t.toNat*a.toNat:=by
  rw [UInt64.toNat_mul];exact Nat.div_add_mod' _ _
 rw [if_pos (by rw [e1];omega),div64_eq (by rw [e1];exact hq),bndS,e1,e2];dsimp only;have e3:(UInt64.ofNat (t.toNat*a.toNat%b.toNat)).toNat=t.toNat*a.toNat%b.toNat:=ofNat_nat (Nat.lt_trans (Nat.mod_lt _ (by omega)) hb2);rw [e3];unfold cdv
 by_cases hr:t.toNat*a.toNat%b.toNat>0
 ·rw [if_pos (by omega),if_pos hr,nth_eq h h1 h2,bndS]
 ·rw [if_neg (by omega),if_neg hr,nth_eq h h1 h2,bndS]
theorem rank_dbl {w r m z den:Nat} (h:w*den+r=z*m) (hr:r<den):(den≤2*r→(2*w+1)*den+(2*r-den)=z*(2*m)∧2*r-den<den)∧(¬den≤2*r→2*w*den+2*r=z*(2*m)∧2*r<den):=by
 have e:z*(2*m)=2*(z*m):=by rw [Nat.mul_left_comm]
 rw [e,← h,Nat.add_mul,Nat.mul_assoc];generalize w*den=A at *
 constructor<;>intro _<;>constructor<;>omega
theorem rank_bit {w r m z den:Nat} (h:w*den+r=z*m) (hr:r<den) (hz:z<den):(den≤r+z→(w+1)*den+(r+z-den)=z*(m+1)∧r+z-den<den)∧(¬den≤r+z→w*den+(r+z)=z*(m+1)∧r+z<den):=by
 rw [Nat.mul_add,← h,Nat.add_mul];generalize w*den=A at *
 constructor<;>intro _<;>constructor<;>omega
theorem whole_le {w r m z den:Nat} (h:w*den+r=z*m) (hz:z<den):w≤m:=by
 refine Nat.le_of_mul_le_mul_right (c:=den) ?_ (by omega);have:z*m≤den*m:=Nat.mul_le_mul_right _ (by omega);rw [Nat.mul_comm m]
 omega
theorem rank_step (num den z:UInt64) (J:UInt64→UInt64→Option UInt64) (hz:z.toNat<den.toNat) (i:Nat) (hi:i<64) (n:Nat) (w r:UInt64) (hr:r.toNat<den.toNat) (h:w.toNat*den.toNat+r.toNat=z.toNat*(num.toNat/2^(i+1))) :
 ∃ w' r':UInt64,m_limnographref37_Rank_L1 num den z J (n+1) w r (i:Int)=m_limnographref37_Rank_L1 num den z J n w' r' ((i:Int)-1)∧r'.toNat<den.toNat∧w'.toNat*den.toNat+r'.toNat=z.toNat*(num.toNat/2^i):=by
 have hnum:=num.toNat_lt;have hden:=den.toNat_lt
 have hm:num.toNat/2^i=2*(num.toNat/2^(i+1))+num.toNat/2^i%2:=by
  rw [Nat.pow_succ,← Nat.div_div_eq_div_mul];omega
 have hmi:num.toNat/2^i≤num.toNat:=Nat.div_le_self _ _;rw [m_limnographref37_Rank_L1,if_pos (by omega),jn_eq,jn_eq,W64_id (z:=(i:Int)-1) (by omega) (by omega),toU_nat (by omega),ofNat_nat (by omega)];have hbit:rem64 (shr64 num i) 2=some (shr64 num i%2):=rem64_some (by decide)
 have hbn:(shr64 num i%2).toNat=num.toNat/2^i%2:=by rw [UInt64.toNat_mod,shr64_nat];rfl
 rw [hbit];simp only [bndS]
 have sub1:∀ {a b:UInt64},b.toNat≤a.toNat→(a-b).toNat=a.toNat-b.toNat:=fun {a b} hab=>UInt64.toNat_sub_of_le _ _ (UInt64.le_iff_toNat_le.2 hab)
 obtain ⟨d1,d2⟩:=rank_dbl h hr;have hwm:w.toNat≤num.toNat/2^(i+1):=whole_le h hz;generalize hM:num.toNat/2^(i+1)=M at *
 have dbl:∃ w1 r1:UInt64,r1.toNat<den.toNat∧w1.toNat*den.toNat+r1.toNat=z.toNat*(2*M)∧∀ K:UInt64→UInt64→Option UInt64,(if (r.toNat:Int)≥((den-r).toNat:Int) then K (2*w+1) (r-(den-r)) else K (2*w) (2*r))=K w1 r1:=by
  by_cases hc:den.toNat≤2*r.toNat
  ·obtain ⟨a1,a2⟩:=d1 hc
   have e1:(r-(den-r)).toNat=2*r.toNat-den.toNat:=by rw [sub1 (by rw [sub1 (by omega)];omega),sub1 (by omega)];omega
   have e2:(2*w+1).toNat=2*w.toNat+1:=by
    have:=whole_le a1 hz;rw [UInt64.toNat_add,UInt64.toNat_mul,show (2:UInt64).toNat=2 by rfl,show (1:UInt64).toNat=1 by rfl];omega
   refine ⟨2*w+1,r-(den-r),by omega,by rw [e1,e2];exact a1,λK=>?_⟩;rw [if_pos (by rw [sub1 (by omega)];omega)]
  ·obtain ⟨a1,a2⟩:=d2 hc
   have e1:(2*r).toNat=2*r.toNat:=by rw [UInt64.toNat_mul,show (2:UInt64).toNat=2 by rfl];omega
   have e2:(2*w).toNat=2*w.toNat:=by rw [UInt64.toNat_mul,show (2:UInt64).toNat=2 by rfl];omega
   refine ⟨2*w,2*r,by omega,by rw [e1,e2];exact a1,λK=>?_⟩;rw [if_neg (by rw [sub1 (by omega)];omega)]
 obtain ⟨w1,r1,b1,b2,b3⟩:=dbl
 have pull:∀ (K:UInt64→UInt64→Option UInt64) (Q:UInt64→UInt64→Option UInt64→Prop),(∃ w' r',Q w' r' (K w1 r1))→∃ w' r',Q w' r' (if (r.toNat:Int)≥((den-r).toNat:Int) then K (2*w+1) (r-(den-r)) else K (2*w) (2*r)):=by
  intro K Q h;rw [b3 K];exact h
 refine pull (λ(y17:UInt64) (y18:UInt64) => if ((shr64 num i%2).toNat:Int)=1 then
  (if ((y18).toNat:Int)≥((den-z).toNat:Int) then
   (m_limnographref37_Rank_L1 num den z J n (y17+(1:UInt64)) (y18-(den-z)) ((i:Int)-1))
   else
   (m_limnographref37_Rank_L1 num den z J n y17 (y18+z) ((i:Int)-1)))
  else
  (m_limnographref37_Rank_L1 num den z J n y17 y18 ((i:Int)-1))) (λw' r' o=>o=m_limnographref37_Rank_L1 num den z J n w' r' ((i:Int)-1)∧r'.toNat<den.toNat∧w'.toNat*den.toNat+r'.toNat=z.toNat*(num.toNat/2^i)) ?_
 obtain ⟨c1,c2⟩:=rank_bit b2 b1 hz;rw [hm]
 by_cases hb:num.toNat/2^i%2=1
 ·rw [if_pos (by omega),hb]
  by_cases hc:den.toNat≤r1.toNat+z.toNat
  ·obtain ⟨a1,a2⟩:=c1 hc
   have hw1:=whole_le a1 hz
   have e1:(r1-(den-z)).toNat=r1.toNat+z.toNat-den.toNat:=by rw [sub1 (by rw [sub1 (by omega)];omega),sub1 (by omega)];omega
   have e2:(w1+1).toNat=w1.toNat+1:=by rw [UInt64.toNat_add,show (1:UInt64).toNat=1 by rfl];omega
   exact ⟨w1+1,r1-(den-z),by rw [if_pos (by rw [sub1 (by omega)];omega)],by omega,by rw [e1,e2];exact a1⟩
  ·obtain ⟨a1,a2⟩:=c2 hc
   have e1:(r1+z).toNat=r1.toNat+z.toNat:=by rw [UInt64.toNat_add];omega
   exact ⟨w1,r1+z,by rw [if_neg (by rw [sub1 (by omega)];omega)],by omega,by rw [e1];exact a1⟩
 ·have hb0:num.toNat/2^i%2=0:=by omega
  rw [if_neg (by omega),hb0];exact ⟨w1,r1,rfl,b1,b2⟩
theorem rank_loop (num den z:UInt64) (J:UInt64→UInt64→Option UInt64) (hz:z.toNat<den.toNat):∀ (i:Nat) (n:Nat) (w r:UInt64),i≤64→i<n→r.toNat<den.toNat→w.toNat*den.toNat+r.toNat=z.toNat*(num.toNat/2^i) →
 ∃ w' r':UInt64,m_limnographref37_Rank_L1 num den z J n w r ((i:Int)-1)=J w' r'∧r'.toNat<den.toNat∧w'.toNat*den.toNat+r'.toNat=z.toNat*num.toNat
 | 0,n,w,r,_,hn,hr,h=>by
  obtain ⟨n,rfl⟩:∃ k,n=k+1:=⟨n-1,by omega⟩;rw [m_limnographref37_Rank_L1,if_neg (by omega)];exact ⟨w,r,rfl,hr,by simpa using h⟩
 | i+1,n,w,r,hi,hn,hr,h=>by
  obtain ⟨n,rfl⟩:∃ k,n=k+1:=⟨n-1,by omega⟩;obtain ⟨w1,r1,e1,e2,e3⟩:=rank_step num den z J hz i (by omega) n w r hr h;obtain ⟨w2,r2,f1,f2,f3⟩:=rank_loop num den z J hz i n w1 r1 (by omega) (by omega) e2 e3;refine ⟨w2,r2,?_,f2,f3⟩;rw [show ((i+1:Nat):Int)-1=(i:Int) by omega,e1,f1]
theorem rank_eq (t a b:UInt64) (hb:b.toNat≠0):m_limnographref37_Rank t a b=some (cdv (t.toNat*a.toNat) b.toNat):=by
 unfold m_limnographref37_Rank;rw [quo64_some hb,rem64_some hb,bndS,bndS,jn_eq]
 have hz:(t%b).toNat<b.toNat:=by rw [UInt64.toNat_mod];exact Nat.mod_lt _ (by omega)
 have ha:=a.toNat_lt
 obtain ⟨w,r,e1,e2,e3⟩:=rank_loop a b (t%b) (λ(y3:UInt64) (y4:UInt64)=>
  (jn (λ(y6:UInt64)=>
   (some y6)) λj2=>
   if ((y4).toNat:Int)>0 then
   (j2 (((t/b*a)+y3)+(1:UInt64)))
   else
   (j2 ((t/b*a)+y3)))) hz 64 fuel 0 0 (by omega) (by unfold fuel;omega) (by show 0<b.toNat;omega) (by rw [Nat.div_eq_of_lt (a:=a.toNat) (by omega),Nat.mul_zero,show (0:UInt64).toNat=0 by rfl,Nat.zero_mul])
 rw [show ((64:Nat):Int)-1=63 by rfl] at e1;rw [e1,jn_eq]
 have e4:t.toNat*a.toNat=(t.toNat/b.toNat*a.toNat+w.toNat)*b.toNat+r.toNat:=by
  rw [Nat.add_mul,Nat.add_assoc,e3,UInt64.toNat_mod,Nat.mul_right_comm,← Nat.add_mul,Nat.div_add_mod']
 have e5:t.toNat*a.toNat%b.toNat=r.toNat:=by rw [e4,Nat.mul_add_mod_self_right];exact Nat.mod_eq_of_lt e2
 have e6:t.toNat*a.toNat/b.toNat=t.toNat/b.toNat*a.toNat+w.toNat:=by
  rw [e4,Nat.mul_comm,Nat.mul_add_div (by omega),Nat.div_eq_of_lt e2,Nat.add_zero]
 have e7:t/b*a+w=UInt64.ofNat (t.toNat*a.toNat/b.toNat):=by
  apply UInt64.toNat_inj.1
  rw [e6,UInt64.toNat_ofNat',UInt64.toNat_add,UInt64.toNat_mul,UInt64.toNat_div,Nat.mod_add_mod]
 unfold cdv;rw [e5,e7]
 by_cases hr:r.toNat>0
 ·rw [if_pos (by omega),if_pos hr]
 ·rw [if_neg (by omega),if_neg hr]
theorem awake_eq:m_limnographlaw37_awake=some true:=by decide +kernel
theorem nth_law (x0:Hs) (x1 x2 x3:UInt64):m_limnographlaw37_QueryNth x0 x1 x2 x3=some true:=by
 unfold m_limnographlaw37_QueryNth m_limnographref08_Light;rw [awake_eq,bndS,bndS,if_neg (by decide)]
 by_cases hL:(x0.Pos.Counts.length:Int)≤300∧(x0.Neg.Counts.length:Int)≤300
 case neg=>rw [if_pos (by rw [decide_eq_false hL];rfl)]
 rw [if_neg (by rw [decide_eq_true hL];decide)]
 have h1:x0.Pos.Counts.length≤1000000:=by omega
 have h2:x0.Neg.Counts.length≤1000000:=by omega
 rw [nth_eq x0 h1 h2,bndS,nth37_eq x0 h1 h2,bndS,if_neg (by rintro (h | h);exact h rfl;exact h rfl)]
 by_cases hc:x3.toNat=0∨x2.toNat>x3.toNat
 ·have e:m_query_Share x0 x2 x3=some (⟨0,0⟩,false):=by
   unfold m_query_Share;rw [Total_eq x0 h1 h2,bndS,if_pos (by omega)]
  rw [e,bndS,rTotal_eq x0 h1 h2,bndS,if_pos (by omega),decide_eq_true ⟨rfl,rfl⟩]
 ·rw [share_eq x0 h1 h2 x2 x3 (by omega) (by omega),bndS,rTotal_eq x0 h1 h2,bndS,if_neg (by omega),jn_eq,rank_eq _ _ _ (by omega),bndS,nth37_eq x0 h1 h2,bndS]
  dsimp only;rw [decide_eq_true ⟨rfl,rfl⟩]
end Go.Proofs.YtffboddbdpagkaaGreatDoor
