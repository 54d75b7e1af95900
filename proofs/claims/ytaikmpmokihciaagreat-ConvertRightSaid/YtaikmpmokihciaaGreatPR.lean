import Derived.Test.YtaikmpmokihciaaGreatNR
import Derived.Sort.Walk0
import Derived.Test.YtaikmpmokihciaaGreatVR2
set_option maxRecDepth 20000
set_option linter.unusedVariables false
set_option linter.unusedSimpArgs false
namespace Go.Proofs.YtaikmpmokihciaaGreat
open Go Go.RowKit Go.Wk
def rowB (v:Nat):Nat→List Bool
 | 0=>[]
 | n+1=>rowB (v/2) n++[v%2==1]
theorem jn_post {α β:Type} {F:α} {B:α→β} {r:β} (Q:α→Prop) (hF:Q F) (hB:∀ j,Q j→B j=r):jn F B=r:=hB F hF
def bl (n:Nat):Nat:=if n=0 then 0 else n.log2+1
theorem bl_hi (n:Nat):n<2^bl n:=by
 unfold bl;split
 ·rename_i h;subst h;decide
 ·exact Nat.lt_log2_self
theorem bl_lo {n:Nat} (h:n≠0):2^(bl n-1)≤n:=by
 unfold bl;rw [if_neg h];exact Nat.log2_self_le h
theorem bl_of {n L:Nat} (h1:n<2^L) (h2:L=0∨2^(L-1)≤n):bl n=L:=by
 rcases h2 with rfl|h2
 ·have:n=0:=by simpa using h1
  subst this;rfl
 ·have hn:n≠0:=by have:=Nat.two_pow_pos (L-1);omega
  have hl:=bl_lo hn;have hh:=bl_hi n;have a1:L-1<bl n:=(Nat.pow_lt_pow_iff_right (a:=2) (by omega)).1 (by omega);have a2:bl n-1<L:=(Nat.pow_lt_pow_iff_right (a:=2) (by omega)).1 (by omega)
  have a3:0<bl n:=by omega
  omega
theorem bl_shift {n:Nat} (k:Nat) (h:2^k≤n):bl n=bl (n/2^k)+k:=by
 have hp:=Nat.two_pow_pos k;have hq:n/2^k≠0:=Nat.pos_iff_ne_zero.1 (Nat.div_pos h hp);have h1:=bl_hi (n/2^k);have h2:=bl_lo hq
 have h3:0<bl (n/2^k):=by
  rcases Nat.eq_zero_or_pos (bl (n/2^k)) with h0|h0
  ·rw [h0] at h1;exact absurd (by simpa using h1) hq
  ·exact h0
 refine bl_of ?_ (.inr ?_)
 ·rw [Nat.pow_add];exact (Nat.div_lt_iff_lt_mul hp).1 h1
 ·rw [show bl (n/2^k)+k-1=bl (n/2^k)-1+k by omega,Nat.pow_add];exact (Nat.le_div_iff_mul_le hp).1 h2
theorem bl_le {n k:Nat} (h:n<2^k):bl n≤k:=by
 by_cases h0:n=0
 ·subst h0;exact Nat.zero_le _
 ·have:=bl_lo h0
  have:bl n-1<k:=(Nat.pow_lt_pow_iff_right (a:=2) (by omega)).1 (by omega)
  omega
theorem tabL {T:List UInt8} (hT:∀ n,n<256→T[n]?=some (UInt8.ofNat (bl n))) {n:Nat} (h:n<256):idx T (n:Int)=some (UInt8.ofNat (bl n)):=by rw [idx_nat];exact hT n h
theorem ofNat_bl {n:Nat} (h:n<256):(UInt8.ofNat (bl n)).toNat=bl n:=by
 have:bl n≤8:=bl_le h;simp [UInt8.toNat_ofNat'];omega
theorem len64_eq (x:UInt64):m_math_bits_Len64 x=some ((bl x.toNat:Nat):Int):=by
 unfold m_math_bits_Len64
 have hsh:∀ (y:UInt64) (k:Nat),k<64→(y>>>UInt64.ofNat k).toNat=y.toNat/2^k:=λy k hk=>by
  rw [UInt64.toNat_shiftRight,Nat.shiftRight_eq_div_pow];congr 2;simp [UInt64.toNat_ofNat'];omega
 refine jn_post (λj=>∀ (y:UInt64) (a:Int),y.toNat<4294967296→0≤a→a≤32→j y a=some (a+(bl y.toNat:Nat))) (λy a hy h0 h1=>?_) (λj hj=>?_)
 ·refine jn_post (λj=>∀ (y:UInt64) (a:Int),y.toNat<65536→0≤a→a≤48→j y a=some (a+(bl y.toNat:Nat))) (λy a hy h0 h1=>?_) (λj hj=>?_)
  ·refine jn_post (λj=>∀ (y:UInt64) (a:Int),y.toNat<256→0≤a→a≤56→j y a=some (a+(bl y.toNat:Nat))) (λy a hy h0 h1=>?_) (λj hj=>?_)
   ·have hb:bl y.toNat≤8:=bl_le hy
    have e8:(toU8 (y.toNat:Int)).toNat=y.toNat:=by simp [toU8,UInt8.toNat_ofNat'];omega
    dsimp only;rw [e8,tabL ?_ hy]
    ·rw [bndS,ofNat_bl hy,W64_id (by omega) (by omega)]
    ·decide +kernel
   ·by_cases hc:(y.toNat:Int)≥256
    ·rw [if_pos hc,W64_id (by omega) (by omega),hj _ _ (by rw [hsh _ _ (by omega)];omega) (by omega) (by omega),hsh _ _ (by omega),bl_shift (n:=y.toNat) 8 (by omega)]
     congr 1;omega
    ·rw [if_neg hc,hj _ _ (by omega) h0 (by omega)]
  ·by_cases hc:(y.toNat:Int)≥65536
   ·rw [if_pos hc,W64_id (by omega) (by omega),hj _ _ (by rw [hsh _ _ (by omega)];omega) (by omega) (by omega),hsh _ _ (by omega),bl_shift (n:=y.toNat) 16 (by omega)]
    congr 1;omega
   ·rw [if_neg hc,hj _ _ (by omega) h0 (by omega)]
 ·have hx:=x.toNat_lt
  by_cases hc:(x.toNat:Int)≥4294967296
  ·rw [if_pos hc,hj _ _ (by rw [hsh _ _ (by omega)];omega) (by omega) (by omega),hsh _ _ (by omega),bl_shift (n:=x.toNat) 32 (by omega)]
   congr 1;omega
  ·rw [if_neg hc,hj _ _ (by omega) (by omega) (by omega)];congr 1;omega
def oth (n:Nat):Nat:=if 56<bl n then 8 else (bl n-1)/7
theorem others_eq (x:UInt64):m_pack_others x=some ((oth x.toNat:Nat):Int):=by
 unfold m_pack_others;have hb:bl x.toNat≤64:=bl_le x.toNat_lt;rw [len64_eq,bndS];unfold oth
 by_cases h:56<bl x.toNat
 ·rw [if_pos h,if_pos (by omega)];rfl
 ·rw [if_neg h,if_neg (by omega),W64_id (by omega) (by omega)]
  unfold quoZ;rw [if_neg (by omega),bndS];rw [Int.tdiv_eq_ediv_of_nonneg (by omega),W64_id (by omega) (by omega)]
  congr 1;omega
theorem oth_le (n:Nat):oth n≤8:=by unfold oth;split<;>omega
theorem oth_hi {n:Nat} (h:oth n<8):n<2^(7*oth n+7):=by
 have h1:=bl_hi n;unfold oth at h ⊢
 split at h
 ·omega
 ·rename_i hb
  rw [if_neg hb];exact Nat.lt_of_lt_of_le h1 (Nat.pow_le_pow_right (by omega) (by omega))
def byt (n:Nat):Nat→List UInt8
 | 0=>[]
 | k+1=>UInt8.ofNat (n/256^k%256)::byt n k
theorem byt_len (n k:Nat):(byt n k).length=k:=by induction k with
 | zero=>rfl
 | succ k ih=>simp [byt,ih]
def fstB (n k:Nat):UInt8:=if k<8 then UInt8.ofNat (256-2^(8-k)+n/256^k) else 255
def enc (v:UInt64):List UInt8:=fstB v.toNat (oth v.toNat)::byt v.toNat (oth v.toNat)
theorem enc_len (v:UInt64):(enc v).length=oth v.toNat+1:=by simp [enc,byt_len]
theorem pow256 (k:Nat):256^k=2^(8*k):=by rw [Nat.pow_mul]
theorem shr_nat (x:UInt64) (k:Nat) (hk:k<8):(shr64 x (8*k)).toNat=x.toNat/256^k:=by
 unfold shr64;rw [if_pos (by omega),UInt64.toNat_shiftRight,Nat.shiftRight_eq_div_pow,pow256]
 congr 2
 simp [UInt64.toNat_ofNat'];omega
theorem toU8_nat (n:Nat):toU8 (n:Int)=UInt8.ofNat (n%256):=by unfold toU8;congr 1
theorem u64cnt (k:Nat) (h:k≤64):(toU64 (k:Int)).toNat=k:=by
 simp [toU64,UInt64.toNat_ofNat'];omega
theorem top_small {n:Nat} (h:oth n<8):n/256^oth n<2^(7-oth n):=by
 have h1:=oth_hi h;rw [Nat.div_lt_iff_lt_mul (Nat.pow_pos (by omega)),pow256,← Nat.pow_add];rw [show 7-oth n+8*oth n=7*oth n+7 by omega];exact h1
theorem first_or:∀ k,k<8→∀ t,t<2^(7-k)→shl8 (255:UInt8) (8-k)|||UInt8.ofNat (t%256)=UInt8.ofNat (256-2^(8-k)+t):=by
 decide +kernel
theorem wnumL (x:UInt64) (j:T_pack_Writer→Option T_pack_Writer):∀ (k n:Nat) (b:List UInt8),k<n→k≤8→b.length+k≤1073741824→m_pack_Writer_Num_L1 x j n (k:Int) ⟨b⟩=j ⟨b++byt x.toNat k⟩
 | 0,n,b,hn,_,_=>by
  obtain ⟨n,rfl⟩:∃ m,n=m+1:=⟨n-1,by omega⟩;rw [m_pack_Writer_Num_L1,if_neg (by omega)];simp [byt]
 | k+1,n,b,hn,hk,hb=>by
  obtain ⟨n,rfl⟩:∃ m,n=m+1:=⟨n-1,by omega⟩;rw [m_pack_Writer_Num_L1,if_pos (by omega),W64_id (z:=8*((k+1:Nat):Int)) (by omega) (by omega),W64_id (z:=8*((k+1:Nat):Int)-8) (by omega) (by omega)];rw [show 8*((k+1:Nat):Int)-8=((8*k:Nat):Int) by omega,u64cnt _ (by omega),shr_nat _ _ (by omega),toU8_nat];rw [app_some (by simp;omega),bndS,W64_id (by omega) (by omega),show ((k+1:Nat):Int)-1=(k:Int) by omega];rw [wnumL x j k n _ (by omega) (by omega) (by simp;omega)];simp [byt]
theorem wnum_eq (b:List UInt8) (v:UInt64) (h:b.length≤1000000000):m_pack_Writer_Num ⟨b⟩ v=some ⟨b++enc v⟩:=by
 unfold m_pack_Writer_Num;have hle:=oth_le v.toNat;rw [others_eq,bndS]
 refine jn_post (λj=>j (fstB v.toNat (oth v.toNat))=some ⟨b++enc v⟩) ?_ λj hj=>?_
 ·rw [app_some (by simp;omega),bndS,jn_eq]
  obtain ⟨m,hm⟩:=fuelS 9 (by omega);rw [wnumL v _ _ _ _ (by omega) hle (by simp;omega)];simp [enc]
 ·by_cases hk:oth v.toNat<8
  ·rw [if_pos (by omega)]
   rw [W64_id (by omega) (by omega),W64_id (by omega) (by omega)];rw [show (8:Int)-(oth v.toNat:Nat)=((8-oth v.toNat:Nat):Int) by omega,show 8*((oth v.toNat:Nat):Int)=((8*oth v.toNat:Nat):Int) by omega,u64cnt _ (by omega),u64cnt _ (by omega),shr_nat _ _ (by omega),toU8_nat];rw [first_or _ hk _ (top_small hk)];unfold fstB at hj;rw [if_pos hk] at hj;exact hj
  ·have:oth v.toNat=8:=by omega
   rw [if_neg (by omega),W64_id (by omega) (by omega)];rw [this] at hj ⊢;exact hj
def zig (x:Int):UInt64:=UInt64.ofNat (if 0≤x then 2*x.toNat else 2*(-1-x).toNat+1)
def szN (c:Nat):Nat:=if c=0 then 0 else if c=1 then 7 else if c=2 then 20 else 64
def clsN (v:Nat):Nat:=if v<1 then 0 else if v<128 then 1 else if v<1048576 then 2 else 3
def smB (v:Nat):List Bool:=rowB (clsN v) 2++rowB v (szN (clsN v))
theorem ofNat_nat {n:Nat} (h:n<18446744073709551616):(UInt64.ofNat n).toNat=n:=by rw [UInt64.toNat_ofNat'];exact Nat.mod_eq_of_lt h
def sI (u:UInt64):Int:=if u.toNat<9223372036854775808 then (u.toNat:Int) else (u.toNat:Int)-18446744073709551616
def sumN (l:List UInt64):Nat:=(l.map UInt64.toNat).sum
theorem sumN_cons (x:UInt64) (l:List UInt64):sumN (x::l)=x.toNat+sumN l:=by simp [sumN]
theorem or_zero (a b:UInt64):a|||b=0↔a=0∧b=0:=by
 constructor
 ·intro h
  have h1:(a|||b).toNat=0:=by rw [h];rfl
  rw [UInt64.toNat_or] at h1;have:=Nat.or_eq_zero_iff.1 h1;exact ⟨UInt64.toNat_inj.1 this.1,UInt64.toNat_inj.1 this.2⟩
 ·rintro ⟨rfl,rfl⟩;rfl
theorem tot_fold (l:List UInt64):∀ (a b:UInt64),((l.foldl (λ(s:UInt64×UInt64) x=>(s.1+x,s.2|||cry s.1 x)) (a,b)).1.toNat=(a.toNat+sumN l)%2^64) ∧
 ((l.foldl (λ(s:UInt64×UInt64) x=>(s.1+x,s.2|||cry s.1 x)) (a,b)).2=0↔b=0∧a.toNat+sumN l<2^64):=by
 induction l with
 | nil=>intro a b;have:=a.toNat_lt;simp [sumN];omega
 | cons x l ih=>
  intro a b;have ha:=a.toNat_lt;have hx:=x.toNat_lt;obtain ⟨h1,h2⟩:=ih (a+x) (b|||cry a x);rw [List.foldl_cons];dsimp only;rw [h1,h2,or_zero,sumN_cons];have e:(a+x).toNat=(a.toNat+x.toNat)%2^64:=UInt64.toNat_add a x
  constructor
  ·rw [e];omega
  ·unfold cry
   by_cases hc:18446744073709551616≤a.toNat+x.toNat
   ·rw [if_pos hc]
    constructor
    ·rintro ⟨⟨_,h⟩,_⟩;exact absurd h (by decide)
    ·rintro ⟨_,h⟩;omega
   ·rw [if_neg hc,e]
    constructor
    ·rintro ⟨⟨h,_⟩,k⟩;exact ⟨h,by omega⟩
    ·rintro ⟨h,k⟩;exact ⟨⟨h,rfl⟩,by omega⟩
def totN (h:T_api_Hist):Nat:=h.Zero.toNat+sumN h.Pos.Counts+sumN h.Neg.Counts
def totE (h:T_api_Hist):UInt64×Bool:=if totN h<2^64 then (UInt64.ofNat (totN h),true) else (0,false)
theorem Total_eq (h:T_api_Hist) (h1:h.Pos.Counts.length≤1000000) (h2:h.Neg.Counts.length≤1000000):m_hist_Total h=some (totE h):=by
 have hL2:∀ (z:T_api_Side) (j:UInt64→UInt64→Option (UInt64×Bool)) (a b:UInt64),z.Counts.length≤1000000→m_hist_Total_L2 z j fuel a b 0=j (z.Counts.foldl (λ(s:UInt64×UInt64) x=>(s.1+x,s.2|||cry s.1 x)) (a,b)).1 (z.Counts.foldl (λ(s:UInt64×UInt64) x=>(s.1+x,s.2|||cry s.1 x)) (a,b)).2:=by
  intro z j a b h;rw [m_hist_Total_L2_scan _ _ _ _ (by omega),scanL_fold (λ(s:UInt64×UInt64) x=>(s.1+x,s.2|||cry s.1 x)) (λi x s k _=>by rw [bndS])]
 unfold m_hist_Total m_hist_sides;rw [bndS,jn_eq];obtain ⟨m,hm⟩:=fuelS 3 (by omega)
 rw [show m_hist_Total_L1 { a0:=h.Pos,a1:=h.Neg } _ fuel _ _ _=m_hist_Total_L1 { a0:=h.Pos,a1:=h.Neg } _ (m+3) _ _ _ by rw [← hm],m_hist_Total_L1,if_pos (by omega),show idx [h.Pos,h.Neg] 0=some h.Pos from rfl,bndS,jn_eq,hL2 _ _ _ _ h1,W64_id (by omega) (by omega),show (0:Int)+1=1 from rfl,
  m_hist_Total_L1,if_pos (by omega),show idx [h.Pos,h.Neg] 1=some h.Neg from rfl,bndS,jn_eq,hL2 _ _ _ _ h2,W64_id (by omega) (by omega),show (1:Int)+1=2 from rfl,m_hist_Total_L1,if_neg (by omega)]
 obtain ⟨p1,p2⟩:=tot_fold h.Pos.Counts h.Zero 0;generalize h.Pos.Counts.foldl (λ(s:UInt64×UInt64) x=>(s.1+x,s.2|||cry s.1 x)) (h.Zero,0)=P at *;obtain ⟨q1,q2⟩:=tot_fold h.Neg.Counts P.1 P.2;generalize h.Neg.Counts.foldl (λ(s:UInt64×UInt64) x=>(s.1+x,s.2|||cry s.1 x)) (P.1,P.2)=Q at *;unfold totE totN
 by_cases hq:Q.2=0
 ·obtain ⟨a1,a2⟩:=q2.1 hq
  obtain ⟨_,a3⟩:=p2.1 a1;rw [if_neg (by rw [hq];decide),if_pos (by omega)]
  have:Q.1=UInt64.ofNat (h.Zero.toNat+sumN h.Pos.Counts+sumN h.Neg.Counts):=by
   apply UInt64.toNat_inj.1
   rw [q1,ofNat_nat (by omega)];omega
  rw [this]
 ·have hq':Q.2.toNat≠0:=λh=>hq (UInt64.toNat_inj.1 h)
  rw [if_pos (by omega),if_neg];intro h
  apply hq
  rw [q2];exact ⟨p2.2 ⟨rfl,by omega⟩,by omega⟩
def sdE (s:T_api_Side):Int:=
 if s.Counts.length>160 then 4
 else if s.Counts=[] then (if s.Offset≠0 then 3 else 0)
 else if s.Counts.headD 0=0∨s.Counts.getLastD 0=0 then 3
 else if s.Offset < -1073741824∨s.Offset+s.Counts.length-1>1073741824 then 1 else 0
theorem u64z' (x:UInt64):((x.toNat:Nat):Int)=0↔x=0:=by
 constructor
 ·intro h;apply UInt64.toNat_inj.1;show x.toNat=0;omega
 ·rintro rfl;rfl
theorem ends {l:List UInt64} (h:l≠[]) (hl:l.length≤1000000):idx l 0=some (l.headD 0)∧idx l (W64 ((l.length:Int)-1))=some (l.getLastD 0):=by
 have h0:0<l.length:=List.length_pos_iff.2 h
 constructor
 ·cases l with
  | nil=>exact absurd rfl h
  | cons a t=>rfl
 ·rw [W64_id (by omega) (by omega),show (l.length:Int)-1=((l.length-1:Nat):Int) by omega,idx_nat,← List.getLast?_eq_getElem?,List.getLast?_eq_some_getLast h]
  cases l with
  | nil=>exact absurd rfl h
  | cons a t=>rw [List.getLastD_cons,List.getLast_eq_getLastD]
theorem scheck_eq (s:T_api_Side):m_hist_check s=some (sdE s):=by
 unfold m_hist_check sdE
 by_cases h1:s.Counts.length>160
 ·rw [if_pos (by omega),if_pos h1]
 rw [if_neg (by omega),if_neg h1]
 by_cases h2:s.Counts=[]
 ·rw [if_pos h2,h2]
  by_cases h3:s.Offset≠0
  ·rw [if_pos ⟨rfl,h3⟩,if_pos h3]
  ·rw [if_neg (λh=>h3 h.2),if_pos (by rfl),if_neg h3]
 have h0:0<s.Counts.length:=List.length_pos_iff.2 h2;obtain ⟨e1,e2⟩:=ends h2 (by omega);rw [if_neg (by omega),if_neg (by omega),if_neg h2,e1,bndS];simp only [jn_eq]
 by_cases h3:s.Counts.headD 0=0
 ·rw [if_pos ((u64z' _).2 h3),if_pos (by trivial),if_pos (Or.inl h3)]
 rw [if_neg (λh=>h3 ((u64z' _).1 h)),e2,bndS]
 by_cases h4:s.Counts.getLastD 0=0
 ·rw [if_pos (decide_eq_true ((u64z' _).2 h4)),if_pos (Or.inr h4)]
 rw [if_neg (by rw [decide_eq_false (λh=>h4 ((u64z' _).1 h))];decide),if_neg (show ¬(s.Counts.headD 0=0∨s.Counts.getLastD 0=0) from λh=>h.elim h3 h4),W64_id (z:=(s.Counts.length:Int)-1) (by omega) (by omega),W64_id (by omega) (by omega)]
 by_cases h5:s.Offset < -1073741824
 ·rw [if_pos h5,if_pos (by trivial),if_pos (Or.inl h5)]
 rw [if_neg h5]
 by_cases h6:s.Offset>1073741824-((s.Counts.length:Int)-1)
 ·rw [if_pos (decide_eq_true h6),if_pos (by omega)]
 ·rw [if_neg (by rw [decide_eq_false h6];decide),if_neg (by omega)]
def hcE (h:T_api_Hist):Int:=
 if h.Scale < -10∨h.Scale>20 then 1 else if sdE h.Pos≠0 then sdE h.Pos else if sdE h.Neg≠0 then sdE h.Neg else if totN h<2^64 then 0 else 4
theorem HCheck_eq (h:T_api_Hist) (h1:h.Pos.Counts.length≤1000000) (h2:h.Neg.Counts.length≤1000000):m_hist_Check h=some (hcE h):=by
 unfold m_hist_Check m_hist_sides hcE
 by_cases hs:h.Scale < -10∨h.Scale>20
 ·rw [if_pos hs,if_pos hs]
 rw [if_neg hs,if_neg hs,bndS,jn_eq];obtain ⟨m,hm⟩:=fuelS 3 (by omega);rw [hm,m_hist_Check_L1,if_pos (by omega),show idx [h.Pos,h.Neg] 0=some h.Pos from rfl,bndS,scheck_eq,bndS]
 by_cases c1:sdE h.Pos≠0
 ·rw [if_pos c1,if_pos c1]
 rw [if_neg c1,if_neg c1,W64_id (by omega) (by omega),show (0:Int)+1=1 from rfl,m_hist_Check_L1,if_pos (by omega),show idx [h.Pos,h.Neg] 1=some h.Neg from rfl,bndS,scheck_eq,bndS]
 by_cases c2:sdE h.Neg≠0
 ·rw [if_pos c2,if_pos c2]
 rw [if_neg c2,if_neg c2,W64_id (by omega) (by omega),show (1:Int)+1=2 from rfl,m_hist_Check_L1,if_neg (by omega),Total_eq h h1 h2,bndS];unfold totE
 by_cases ht:totN h<2^64
 ·rw [if_pos ht,if_pos ht,if_neg (by simp)]
 ·rw [if_neg ht,if_neg ht,if_pos (by simp)]
def alike (a b:T_api_Hist):Prop:=a.Scale=b.Scale∧a.Pos.Offset=b.Pos.Offset∧a.Neg.Offset=b.Neg.Offset∧a.Pos.Counts.length=b.Pos.Counts.length∧a.Neg.Counts.length=b.Neg.Counts.length
instance (a b:T_api_Hist):Decidable (alike a b):=by unfold alike;exact inferInstance
def allC (h:T_api_Hist):List UInt64:=h.Zero::(h.Pos.Counts++h.Neg.Counts)
def smS (l:List UInt64):List Bool:=l.flatMap λc=>smB c.toNat
def dfS (l m:List UInt64):List Bool:=(l.zip m).flatMap λc=>smB (zig (sI (c.1-c.2))).toNat
def shB (s:T_api_Side):List Bool:=rowB s.Counts.length 8++if s.Counts.length>0 then smB (zig s.Offset).toNat else []
def fullH (h:T_api_Hist):List Bool:=false::(rowB (h.Scale+10).toNat 5++(shB h.Pos++(shB h.Neg++smS (allC h))))
def hB (n:Nat) (last h:T_api_Hist):List Bool:=if 0<n∧alike last h then true::dfS (allC h) (allC last) else fullH h
theorem hclone_eq (h:T_api_Hist) (h1:h.Pos.Counts.length≤1000000) (h2:h.Neg.Counts.length≤1000000):m_hist_Clone h=some h:=by
 unfold m_hist_Clone m_slices_Clone_uint64_uint64;simp only [app_some (show ([]:List UInt64).length+h.Pos.Counts.length≤1073741824 by simp;omega),app_some (show ([]:List UInt64).length+h.Neg.Counts.length≤1073741824 by simp;omega),bndS,List.nil_append]
abbrev Txt:=List UInt8
abbrev Pr:=T_api_Pair
def small (c:UInt8):Bool:=decide (97≤c.toNat)&&decide (c.toNat≤122)
def nmC (c:UInt8):Bool:=small c||(decide (48≤c.toNat)&&decide (c.toNat≤57))||decide (c.toNat=95)||decide (c.toNat=46)
def nameB (s:Txt):Bool:=decide (s.length≤32)&&match s with | []=>false | c::t=>small c&&t.all nmC
def valC (c:UInt8):Bool:=decide (33≤c.toNat)&&decide (c.toNat≤126)&&decide (c.toNat≠61)&&decide (c.toNat≠59)&&decide (c.toNat≠44)
def valB (s:Txt):Bool:=decide (s.length≤32)&&decide (1≤s.length)&&s.all valC
theorem small_eq (c:UInt8):m_label_small c=some (small c):=by unfold m_label_small small;rw [← Bool.decide_and];congr 1;apply decide_eq_decide.2;omega
theorem isName_eq (s:Txt):m_label_isName s=some (nameB s):=by
 unfold m_label_isName;simp only [jn_eq]
 split
 ·rename_i h;rcases h with rfl | h<;>simp [nameB];omega
 ·rename_i h
  match s,h with
  | c::t,h=>
   simp only [not_or] at h;have hb:=h.2;rw [idx0,bndS,small_eq,bndS,len_some (by omega),bndS,m_label_isName_L1_scan _ _ (by omega),scanL_all nmC (some false)]
   ·have:(c::t).length≤32:=by omega
    have hn:small c=true→nmC c=true:=λh=>by simp [nmC,h]
    unfold nameB
    cases hc:small c<;>simp_all
    split<;>simp_all
   ·intro i x k _
    rw [bndS,small_eq,bndS]
    refine ite_neg ?_ (λ_=>rfl) λ_=>rfl
    simp [nmC];grind
theorem isValue_eq (s:Txt):m_label_isValue s=some (valB s):=by
 unfold m_label_isValue;simp only [jn_eq]
 split
 ·rename_i h;rcases h with rfl | h<;>simp [valB];omega
 ·rename_i h
  simp only [not_or] at h;have hb:=h.2;have:=List.length_pos_iff.2 h.1;rw [len_some (by omega),bndS,m_label_isValue_L1_scan _ _ (by omega),scanL_all valC (some false)]
  ·unfold valB;split<;>simp_all<;>omega
  ·intro i x k _
   simp only [bndS,jn_eq,valC]
   grind
def chk:List Pr→List Pr→Int
 | _,[]=>0
 | p,a::l=>if (nameB a.Key&&valB a.Val)=true then (if p.any (λb=>decide (b.Key=a.Key))=true then 8 else chk (p++[a]) l) else 3
def check (name:Txt) (l:List Pr):Int:=if nameB name=true then (if l.length>4 then 4 else chk [] l) else 3
theorem contains_eq (l:List Pr) (a:Pr) (h:l.length<4611686018427387904):m_slices_ContainsFunc_api_Pair_api_Pair_s2 l a=some (l.any λb=>decide (b.Key=a.Key)):=by
 unfold m_slices_ContainsFunc_api_Pair_api_Pair_s2 m_slices_IndexFunc_api_Pair_api_Pair_s1;rw [jn_eq,m_slices_IndexFunc_api_Pair_api_Pair_s1_L1_scan _ _ _ h];rw [scanL_pre (λp q _=>some (if q.any (λb=>decide (b.Key=a.Key))=true then ((p.length+q.findIdx λb=>decide (b.Key=a.Key):Nat):Int) else -1)) ?_ ?_]
 ·cases h:l.any (λb=>decide (b.Key=a.Key))<;>simp [bndS]
 ·intro s;rfl
 ·intro p x q _ k _ hk
  simp only [bndS,m_label_Check_1,hk]
  by_cases hx:x.Key=a.Key
  ·simp [hx,List.findIdx_cons]
  ·simp [hx,List.findIdx_cons];congr 1;omega
theorem check_eq (name:Txt) (l:List Pr):m_label_Check name l=some (check name l):=by
 unfold m_label_Check check;rw [isName_eq,bndS]
 by_cases hn:nameB name=true
 ·rw [hn,if_neg (by simp),if_pos rfl]
  by_cases hl:l.length>4
  ·rw [if_pos (by omega),if_pos hl]
  rw [if_neg (by omega),if_neg hl,jn_eq,m_label_Check_L1_scan _ _ (by omega)];refine scanL_pre (λp q _=>some (chk p q)) (λ_=>rfl) ?_;intro p x q _ k hp hk;subst hp;simp only [bndS,isName_eq,isValue_eq,jn_eq,cut_mid,contains_eq p x (by simp at hl;omega),hk,chk]
  cases nameB x.Key<;>cases valB x.Val<;>simp
  split<;>rfl
 ·simp at hn
  rw [hn];rfl
def insR (a:Pr):List Pr→List Pr
 | []=>[a]
 | b::l=>if Op.bytesLess a.Key b.Key=true then b::insR a l else a::b::l
def srt (l:List Pr):List Pr:=(l.foldl (λacc a=>insR a acc) []).reverse
theorem setI_mid {α:Type} {p:List α} {x y:α} {q:List α} {i:Int} (h:i=p.length):setI (p++x::q) i y=p++y::q:=by subst h;simp [setI]
theorem sorted1_eq (a b:Pr):m_label_Sorted_1 a b=some (if Op.bytesLess a.Key b.Key=true then -1 else if Op.bytesLess b.Key a.Key=true then 1 else 0):=by
 simp [m_label_Sorted_1,m_cmp_Compare_string,m_cmp_isNaN_string];grind
theorem insL2 (j:List Pr→Option (List Pr)) (x:Pr):∀ (pre rest:List Pr) (n:Nat),pre.length<n→pre.length<4611686018427387904 →
 m_slices_insertionSortCmpFunc_api_Pair_s2_L2 0 j n (pre.reverse++x::rest) (pre.length:Int)=j ((insR x pre).reverse++rest)
 | [],rest,n,h,_=>by
  obtain ⟨n,rfl⟩:∃ m,n=m+1:=⟨n-1,by omega⟩;rw [m_slices_insertionSortCmpFunc_api_Pair_s2_L2,jn_eq,if_neg (by simp)];rfl
 | b::pre,rest,n,h,hb=>by
  obtain ⟨n,rfl⟩:∃ m,n=m+1:=⟨n-1,by omega⟩;simp only [List.length_cons] at h hb
  have e1:(b::pre).reverse++x::rest=(pre.reverse++[b])++x::rest:=by simp
  have e2:(b::pre).reverse++x::rest=pre.reverse++b::(x::rest):=by simp
  have e3:pre.reverse++b::b::rest=(pre.reverse++[b])++b::rest:=by simp
  have i1:idx ((b::pre).reverse++x::rest) ((b::pre).length:Int)=some x:=by rw [e1];exact idx_mid' (by simp)
  have w1:W64 (((b::pre).length:Int)-1)=(pre.length:Int):=by rw [List.length_cons,W64_id (by omega) (by omega)];omega
  have i2:idx ((b::pre).reverse++x::rest) (pre.length:Int)=some b:=by rw [e2];exact idx_mid' (by simp)
  rw [m_slices_insertionSortCmpFunc_api_Pair_s2_L2,jn_eq,if_pos (by simp only [List.length_cons];omega),i1,bndS,w1,i2,bndS,sorted1_eq,bndS,bndS,bndS]
  have s1:setI ((b::pre).reverse++x::rest) ((b::pre).length:Int) b=pre.reverse++b::b::rest:=by rw [e1,setI_mid (by simp)];simp
  rw [s1,idx_mid' (by simp),bndS,setI_mid (by simp),show pre.reverse++x::b::rest=pre.reverse++x::(b::rest) from rfl,insL2 j x pre (b::rest) n (by omega) (by omega)];rw [insR]
  by_cases hx:Op.bytesLess x.Key b.Key=true
  ·simp [hx]
  ·simp [hx];grind
theorem insL1 (j:List Pr→Option (List Pr)) (N:Nat) (hN:N<4611686018427387904):∀ (q p:List Pr) (n:Nat),q.length<n→p.length+q.length=N →
 m_slices_insertionSortCmpFunc_api_Pair_s2_L1 0 N j n (p.reverse++q) (p.length:Int)=j (q.foldl (λacc a=>insR a acc) p).reverse
 | [],p,n,h,hl=>by
  obtain ⟨n,rfl⟩:∃ m,n=m+1:=⟨n-1,by omega⟩;rw [m_slices_insertionSortCmpFunc_api_Pair_s2_L1,if_neg (by simp at hl;omega)];simp
 | x::q,p,n,h,hl=>by
  obtain ⟨n,rfl⟩:∃ m,n=m+1:=⟨n-1,by omega⟩;simp only [List.length_cons] at h hl
  have hlen:∀ p:List Pr,(insR x p).length=p.length+1:=by
   intro p
   induction p with
   | nil=>rfl
   | cons b p ih=>unfold insR;split<;>simp [ih]
  rw [m_slices_insertionSortCmpFunc_api_Pair_s2_L1,if_pos (by omega),jn_eq,insL2 _ x p q _ (by unfold fuel;omega) (by omega)];have:=insL1 j N hN q (insR x p) n (by omega) (by rw [hlen];omega);rw [hlen] at this;rw [W64_up (by omega),this,List.foldl_cons]
theorem insSort_eq (l:List Pr) (h:l.length<4611686018427387904):m_slices_insertionSortCmpFunc_api_Pair_s2 l 0 l.length=some (srt l):=by
 unfold m_slices_insertionSortCmpFunc_api_Pair_s2;rw [jn_eq,show W64 (0+1)=1 by decide]
 match l with
 | []=>rfl
 | x::l=>exact insL1 some (x::l).length h l [x] fuel (by unfold fuel;simp at h;omega) (by simp;omega)
theorem insR_len (x:Pr):∀ p:List Pr,(insR x p).length=p.length+1
 | []=>rfl
 | b::p=>by unfold insR;split<;>simp [insR_len x p]
theorem srt_len (l:List Pr):(srt l).length=l.length:=by
 have:∀ (l p:List Pr),(l.foldl (λacc a=>insR a acc) p).length=p.length+l.length:=by
  intro l
  induction l with
  | nil=>intro p;rfl
  | cons x l ih=>intro p;rw [List.foldl_cons,ih,insR_len,List.length_cons];omega
 unfold srt;rw [List.length_reverse,this];simp
theorem stable_eq (l:List Pr) (h:l.length≤20):m_slices_stableCmpFunc_api_Pair_s1 l l.length=some (srt l):=by
 obtain ⟨F,hF⟩:∃ m,fuel=m+2:=fuelS 2 (by omega);unfold m_slices_stableCmpFunc_api_Pair_s1;simp only [jn_eq];rw [hF,m_slices_stableCmpFunc_api_Pair_s1_L3]
 by_cases h20:l.length=20
 ·rw [if_pos (by omega),show (20:Int)=(l.length:Int) by omega,insSort_eq l (by omega),bndS,m_slices_stableCmpFunc_api_Pair_s1_L3,if_neg (by rw [W64_id (by omega) (by omega)];omega)]
  rw [m_slices_insertionSortCmpFunc_api_Pair_s2,jn_eq];rw [hF,m_slices_insertionSortCmpFunc_api_Pair_s2_L1,if_neg (by rw [W64_id (by omega) (by omega)];omega),bndS,m_slices_stableCmpFunc_api_Pair_s1_L1,if_neg (by omega)]
 ·rw [if_neg (by omega),insSort_eq l (by omega),bndS,m_slices_stableCmpFunc_api_Pair_s1_L1,if_neg (by omega)]
theorem sorted_eq (l:List Pr) (h:l.length≤20):m_label_Sorted l=some (srt l):=by
 unfold m_label_Sorted m_slices_Clone_api_Pair_api_Pair m_slices_SortStableFunc_api_Pair_api_Pair_s1;rw [app_some (by simp;omega),bndS,List.nil_append,stable_eq l h];rfl
theorem refL2 (x0:List Pr) (y:Int) (a:Pr) (ha:idx x0 y=some a) (j:Int→Option (List Pr)) (post:List Pr):∀ (pre:List Pr) (n:Nat),pre.length<n→pre.length<4611686018427387904 →
 m_limnographref11_Sorted_L2 x0 (pre.reverse++post) y j n (pre.length:Int)=j ((pre.dropWhile λb=>Op.bytesLess a.Key b.Key).length:Nat)
 | [],n,h,_=>by
  obtain ⟨n,rfl⟩:∃ m,n=m+1:=⟨n-1,by omega⟩;rw [m_limnographref11_Sorted_L2,jn_eq,if_neg (by simp)];rfl
 | b::pre,n,h,hb=>by
  obtain ⟨n,rfl⟩:∃ m,n=m+1:=⟨n-1,by omega⟩;simp only [List.length_cons] at h hb
  have w1:W64 (((b::pre).length:Int)-1)=(pre.length:Int):=by rw [List.length_cons,W64_id (by omega) (by omega)];omega
  have e2:(b::pre).reverse++post=pre.reverse++b::post:=by simp
  rw [m_limnographref11_Sorted_L2,jn_eq,if_pos (by simp only [List.length_cons];omega),w1,e2,idx_mid' (by simp),bndS,ha,bndS];dsimp only
  by_cases hx:Op.bytesLess a.Key b.Key=true
  ·rw [if_pos hx,List.dropWhile_cons,if_pos hx]
   have:=refL2 x0 y a ha j (b::post) pre n (by omega) (by omega);simpa using this
  ·rw [if_neg hx,List.dropWhile_cons,if_neg hx]
theorem insR_split (a:Pr) (p:List Pr):insR a p=(p.takeWhile λb=>Op.bytesLess a.Key b.Key)++a::(p.dropWhile λb=>Op.bytesLess a.Key b.Key):=by
 induction p with
 | nil=>rfl
 | cons b p ih=>unfold insR;split<;>simp_all
theorem refSorted_eq (l:List Pr) (h:l.length≤1048576):m_limnographref11_Sorted l=some (srt l):=by
 unfold m_limnographref11_Sorted;rw [jn_eq,m_limnographref11_Sorted_L1_scan _ _ _ (by omega)];rw [scanL_inv (λp s=>s.length=p.length) (λ_ q s=>some (q.foldl (λacc a=>insR a acc) s.reverse).reverse) rfl (λs _=>by simp)]
 ·rfl
 ·intro p x q s k hp hs hk
  subst hp;have hx:idx (p++x::q) (p.length:Int)=some x:=idx_mid p x q;have hr:=refL2 (p++x::q) (p.length:Int) x hx;obtain ⟨pre,rfl⟩:∃ pre,s=pre.reverse:=⟨s.reverse,by simp⟩
  have hr:=λj=>hr j [] pre fuel (by unfold fuel;simp at hs h;omega) (by simp at hs h;omega)
  simp only [List.append_nil] at hr;rw [jn_eq,List.length_reverse,hr];have hd:pre=(pre.takeWhile λb=>Op.bytesLess x.Key b.Key)++(pre.dropWhile λb=>Op.bytesLess x.Key b.Key):=(List.takeWhile_append_dropWhile ..).symm;have hsp:=insR_split x pre;generalize (pre.takeWhile λb=>Op.bytesLess x.Key b.Key)=u at hd hsp;generalize (pre.dropWhile λb=>Op.bytesLess x.Key b.Key)=v at hd hsp
  have hl:u.length+v.length≤1048576:=by
   have:=congrArg List.length hd;simp at this hs h;omega
  have e1:pre.reverse=v.reverse++u.reverse:=by rw [hd];simp
  have c1:cutL pre.reverse 0 (v.length:Int)=some v.reverse:=by rw [e1];have:=cut_mid v.reverse u.reverse;simpa using this
  have c2:cutL pre.reverse (v.length:Int) (pre.length:Nat)=some u.reverse:=by rw [e1,show pre.length=(v.reverse++u.reverse).length by rw [hd];simp;omega];have:=cut_end v.reverse u.reverse;rw [List.length_reverse] at this;exact this
  rw [c1,bndS,app_some (by simp;omega),bndS,bndS,app_some (by simp;omega),bndS,c2,bndS,app_some (by simp;omega),bndS,hk]
  ·rw [List.foldl_cons];simp [hsp]
  ·have:=congrArg List.length hd;simp at this hs ⊢;omega
def light (l:List Pr):Bool:=decide (l.length≤20)&&l.all λa=>decide (a.Key.length≤100)&&decide (a.Val.length≤100)
theorem light_eq (l:List Pr):m_limnographref11_Light l=some (light l):=by
 unfold m_limnographref11_Light light
 by_cases h:l.length≤20
 ·rw [if_neg (by omega),jn_eq,m_limnographref11_Light_L1_scan _ _ (by omega),scanL_all (λa=>decide (a.Key.length≤100)&&decide (a.Val.length≤100)) (some false)]
  ·simp [h];grind
  ·intro i x k _
   simp only [jn_eq,bndS]
   grind
 ·rw [if_pos (by omega)];simp [h]
def at1 (a:Pr):Txt:=[59]++a.Key++[61]++a.Val
def texts (l:List Pr):Txt:=l.flatMap at1
theorem texts_cons (a:Pr) (l:List Pr):texts (a::l)=at1 a++texts l:=by simp [texts]
theorem at1_len (a:Pr):(at1 a).length=a.Key.length+a.Val.length+2:=by simp [at1];omega
theorem textL (l:List Pr) (h:l.length≤4) (hs:∀ a∈l,a.Key.length≤32∧a.Val.length≤32) (s:Txt) (hs0:s.length≤1000) (j:Txt→Option (Txt×Int)) (hj:∀ s,j s=some (s,0)) :
 m_label_Text_L1 l j fuel 0 s=some (s++texts l,0):=by
 rw [m_label_Text_L1_scan _ _ _ (by omega)];refine scanL_inv (λp t=>t.length≤1000+66*p.length) (λ_ q t=>some (t++texts q,0)) (by simp;omega) (λs _=>by simp [hj,texts]) ?_;intro p x q t k hp ht hk;have hx:=hs x (by simp [← hp])
 have hpl:p.length≤4:=by rw [← hp] at h;simp at h;omega
 rw [bndS,cat_some (by simp;omega),bndS,cat_some (by simp;omega),bndS,cat_some (by simp;omega),bndS,app_some (by simp;omega),bndS,hk]
 ·rw [texts_cons];simp [at1]
 ·simp;omega
theorem nameB_len {s:Txt} (h:nameB s=true):s.length≤32:=by unfold nameB at h;simp at h;exact h.1
theorem valB_len {s:Txt} (h:valB s=true):s.length≤32:=by unfold valB at h;simp at h;exact h.1.1
theorem chk_ok:∀ (l p:List Pr),chk p l=0→∀ a∈l,nameB a.Key=true∧valB a.Val=true∧∀ b∈p,b.Key≠a.Key
 | [],p,_,a,ha=>by cases ha
 | x::l,p,h,a,ha=>by
  rw [chk] at h
  split at h
  ·rename_i hx
   split at h
   ·cases h
   ·rename_i hp
    rcases List.mem_cons.1 ha with rfl|ha
    ·simp at hx hp;exact ⟨hx.1,hx.2,hp⟩
    ·have:=chk_ok l (p++[x]) h a ha
     exact ⟨this.1,this.2.1,λb hb=>this.2.2 b (by simp [hb])⟩
  ·cases h
theorem check_ok {name:Txt} {l:List Pr} (h:check name l=0):nameB name=true∧l.length≤4∧chk [] l=0:=by
 unfold check at h
 split at h
 ·split at h
  ·cases h
  ·exact ⟨by assumption,by omega,h⟩
 ·cases h
theorem insR_mem (x a:Pr):∀ p:List Pr,a∈insR x p↔a=x∨a∈p
 | []=>by simp [insR]
 | b::p=>by unfold insR;split<;>simp [insR_mem x a p];grind
theorem srt_mem (a:Pr) (l:List Pr):a∈srt l↔a∈l:=by
 have:∀ (l p:List Pr),a∈(l.foldl (λacc a=>insR a acc) p)↔a∈p∨a∈l:=by
  intro l
  induction l with
  | nil=>intro p;simp
  | cons x l ih=>intro p;rw [List.foldl_cons,ih,insR_mem];simp;grind
 unfold srt;rw [List.mem_reverse,this];simp
def text (name:Txt) (l:List Pr):Txt×Int:=if check name l=0 then (name++texts (srt l),0) else ([],check name l)
theorem text_eq (name:Txt) (l:List Pr):m_label_Text name l=some (text name l):=by
 unfold m_label_Text text;rw [check_eq,bndS]
 by_cases h:check name l=0
 ·rw [if_neg (by omega),if_pos h]
  obtain ⟨h1,h2,h3⟩:=check_ok h;have h4:=nameB_len h1;rw [app_some (by simp;omega),bndS,sorted_eq l (by omega),bndS,jn_eq,List.nil_append]
  refine textL _ (by rw [srt_len];exact h2) (λa ha=>?_) name (by omega) _ λ_=>rfl
  have:=chk_ok l [] h3 a ((srt_mem a l).1 ha);exact ⟨nameB_len this.1,valB_len this.2.1⟩
 ·rw [if_pos h,if_neg h]
theorem same_eq (a b:List Pr) (h:a.length<4611686018427387904):m_limnographref11_Same a b=some (decide (a=b)):=by
 unfold m_limnographref11_Same
 by_cases hl:a.length=b.length
 ·rw [if_neg (by omega),jn_eq,m_limnographref11_Same_L1_scan _ _ _ h]
  rw [scanL_pre (λp q _=>some (decide (q=b.drop p.length))) ?_ ?_]
  ·simp
  ·intro s;simp [hl]
  ·intro p x q _ k hp hk
   rw [hk]
   have:p.length<b.length:=by rw [← hl,← hp];simp
   rw [idx_at this,bndS,bndS,List.drop_eq_getElem_cons this,List.length_append,List.length_singleton]
   by_cases hx:x=b[p.length]
   ·rw [if_neg (λh=>h hx)];congr 1;apply decide_eq_decide.2;rw [List.cons.injEq];exact ⟨λh=>⟨hx,h⟩,λh=>h.2⟩
   ·rw [if_pos hx,decide_eq_false];rw [List.cons.injEq];exact λh=>hx h.1
 ·rw [if_pos (by omega)]
  have:a≠b:=λh=>hl (by rw [h])
  simp [this]
def cut1 (c:UInt8):Txt→Txt×Txt×Bool
 | []=>([],[],false)
 | x::s=>if x=c then ([],s,true) else (x::(cut1 c s).1,(cut1 c s).2)
def pairOf (s:Txt):Option Pr:=if ((cut1 61 s).2.2&&nameB (cut1 61 s).1&&valB (cut1 61 s).2.1)=true then some ⟨(cut1 61 s).1,(cut1 61 s).2.1⟩ else none
def foll (l:List Pr) (key:Txt):Int:=if l.any (λb=>decide (b.Key=key))=true then 8 else match l.getLast? with | some b=>if Op.bytesLess key b.Key=true then 9 else 0 | none=>0
def spl:Txt→Txt×List Txt
 | []=>([],[])
 | x::s=>if x=59 then ([],(spl s).1::(spl s).2) else (x::(spl s).1,(spl s).2)
abbrev Res:=Txt×List Pr×Int×Int
def pgo (name:Txt):List Pr→Int→List Txt→Res
 | l,_,[]=>(name,l,0,0)
 | l,at_,p::ps=>
  if l.length=4 then ([],[],at_,4) else
  match pairOf p with
  | none=>([],[],at_,3)
  | some a=>if foll l a.Key=0 then pgo name (l++[a]) (at_+p.length+1) ps else ([],[],at_,foll l a.Key)
def parse (s:Txt):Res:=if nameB (spl s).1=true then pgo (spl s).1 [] ((spl s).1.length+1) (spl s).2 else ([],[],0,3)
theorem lt_asymm {x y:Txt} (h:Op.bytesLess x y=true):Op.bytesLess y x=false:=by
 rw [bytesLess_eq] at h ⊢;simp at h ⊢;exact List.le_of_lt h
theorem le_trans {x y z:Txt} (h:Op.bytesLess y x=false) (h':Op.bytesLess z y=false):Op.bytesLess z x=false:=by
 rw [bytesLess_eq] at h h' ⊢;simp at h h' ⊢;exact List.le_trans h h'
def ge (a b:Pr):Prop:=Op.bytesLess a.Key b.Key=false
theorem insR_perm (x:Pr):∀ p:List Pr,(insR x p).Perm (x::p)
 | []=>.refl _
 | b::p=>by
  unfold insR;split
  ·exact ((insR_perm x p).cons b).trans (.swap x b p)
  ·exact .refl _
theorem insR_ge (x:Pr):∀ p:List Pr,p.Pairwise ge→(insR x p).Pairwise ge
 | [],_=>by simp [insR]
 | b::p,h=>by
  obtain ⟨h1,h2⟩:=List.pairwise_cons.1 h;unfold insR;split
  ·rename_i hx
   refine List.pairwise_cons.2 ⟨λa ha=>?_,insR_ge x p h2⟩
   rcases (insR_mem x a p).1 ha with rfl|ha
   ·exact lt_asymm hx
   ·exact h1 a ha
  ·rename_i hx
   simp only [Bool.not_eq_true] at hx;refine List.pairwise_cons.2 ⟨λa ha=>?_,h⟩
   rcases List.mem_cons.1 ha with rfl|ha
   ·exact hx
   ·exact le_trans (h1 a ha) hx
theorem fold_ge:∀ (l p:List Pr),p.Pairwise ge→(l.foldl (λacc a=>insR a acc) p).Pairwise ge∧(l.foldl (λacc a=>insR a acc) p).Perm (l.reverse++p)
 | [],p,h=>⟨h,.refl _⟩
 | x::l,p,h=>by
  obtain ⟨h1,h2⟩:=fold_ge l (insR x p) (insR_ge x p h);refine ⟨h1,h2.trans ?_⟩;rw [List.reverse_cons,List.append_assoc];exact (insR_perm x p).append_left _
theorem srt_perm (l:List Pr):(srt l).Perm l:=by
 have:=(fold_ge l [] .nil).2;rw [List.append_nil] at this;exact (List.reverse_perm _).trans (this.trans (List.reverse_perm l))
def le (a b:Pr):Prop:=Op.bytesLess b.Key a.Key=false
theorem srt_le (l:List Pr):(srt l).Pairwise le:=by
 have:=(fold_ge l [] .nil).1;unfold srt;rw [List.pairwise_reverse];exact this
theorem chk_iff:∀ (l p:List Pr),chk p l=0↔(∀ a∈l,nameB a.Key=true∧valB a.Val=true)∧(∀ a∈l,∀ b∈p,b.Key≠a.Key)∧l.Pairwise (λa b=>a.Key≠b.Key)
 | [],p=>by simp [chk]
 | x::l,p=>by
  rw [chk]
  by_cases hx:(nameB x.Key&&valB x.Val)=true
  ·rw [if_pos hx]
   by_cases hp:p.any (λb=>decide (b.Key=x.Key))=true
   ·rw [if_pos hp]
    simp at hp;obtain ⟨b,hb,hk⟩:=hp
    constructor
    ·intro h;cases h
    ·intro h;exact absurd hk (h.2.1 x (by simp) b hb)
   ·rw [if_neg hp,chk_iff l (p++[x])]
    simp at hx hp ⊢
    grind
  ·rw [if_neg hx]
   simp at hx ⊢
   grind
theorem chk_srt {l:List Pr} (h:chk [] l=0):chk [] (srt l)=0:=by
 rw [chk_iff] at h ⊢;refine ⟨λa ha=>h.1 a ((srt_mem a l).1 ha),λ_ _ _ hb=>(by cases hb),?_⟩;exact ((srt_perm l).pairwise_iff (fun {x y} h=>h.symm)).2 h.2.2
theorem spl_body:∀ (p:Txt) (ps:List Txt),(∀ x∈p,x≠59)→(∀ p∈ps,∀ x∈p,x≠59)→spl (p++ps.flatMap (λp=>59::p))=(p,ps)
 | x::p,ps,h,hs=>by
  rw [List.cons_append,spl,if_neg (h x (by simp)),spl_body p ps (λy hy=>h y (by simp [hy])) hs]
 | [],[],_,_=>rfl
 | [],q::ps,_,hs=>by
  rw [List.nil_append,List.flatMap_cons,List.cons_append,spl,if_pos rfl,spl_body q ps (hs q (by simp)) (λp hp=>hs p (by simp [hp]))]
termination_by p ps=>(ps.length,p.length)
def body (a:Pr):Txt:=a.Key++61::a.Val
theorem texts_body (l:List Pr):texts l=(l.map body).flatMap (λp=>59::p):=by
 unfold texts
 induction l with
 | nil=>rfl
 | cons a l ih=>rw [List.flatMap_cons,ih,List.map_cons,List.flatMap_cons];simp [at1,body]
theorem nmC_free {c:UInt8} (h:nmC c=true):c≠59∧c≠61:=by
 constructor
 ·intro e;subst e;revert h;decide
 ·intro e;subst e;revert h;decide
theorem nameB_free {s:Txt} (h:nameB s=true):∀ x∈s,x≠59∧x≠61:=by
 intro x hx;unfold nameB at h
 match s,h,hx with
 | c::t,h,hx=>
  simp at h
  rcases List.mem_cons.1 hx with rfl|hx
  ·exact nmC_free (by simp [nmC,h.2.1])
  ·exact nmC_free (h.2.2 x hx)
theorem valB_free {s:Txt} (h:valB s=true):∀ x∈s,x≠59:=by
 intro x hx e;subst e;unfold valB at h;simp at h;have:=h.2 _ hx
 revert this;decide
theorem cut1_body:∀ (k v:Txt),(∀ x∈k,x≠61)→cut1 61 (k++61::v)=(k,v,true)
 | [],v,_=>rfl
 | x::k,v,h=>by rw [List.cons_append,cut1,if_neg (h x (by simp)),cut1_body k v λy hy=>h y (by simp [hy])]
theorem pairOf_body {a:Pr} (hn:nameB a.Key=true) (hv:valB a.Val=true):pairOf (body a)=some a:=by
 unfold pairOf body;rw [cut1_body _ _ λx hx=>(nameB_free hn x hx).2];simp [hn,hv]
theorem pgo_text (name:Txt):∀ (q p:List Pr) (at_:Int),(p++q).length≤4→chk [] (p++q)=0→(p++q).Pairwise le→pgo name p at_ (q.map body)=(name,p++q,0,0)
 | [],p,at_,_,_,_=>by simp [pgo]
 | a::q,p,at_,h4,hc,hl=>by
  have hc':=(chk_iff _ _).1 hc;obtain ⟨hn,hv⟩:=hc'.1 a (by simp);have ih:=pgo_text name q (p++[a]) (at_+(body a).length+1) (by simpa using h4) (by simpa using hc) (by simpa using hl)
  have hfo:foll p a.Key=0:=by
   unfold foll;rw [if_neg]
   ·cases hb:p.getLast? with
    | none=>rfl
    | some b=>
     have:le b a:=(List.pairwise_append.1 hl).2.2 b (List.mem_of_getLast? hb) a (by simp);dsimp only;rw [if_neg (by rw [this];simp)]
   ·simp
    intro b hb;exact (List.pairwise_append.1 hc'.2.2).2.2 b hb a (by simp)
  rw [List.map_cons,pgo,if_neg (by simp at h4;omega),pairOf_body hn hv];dsimp only;rw [if_pos hfo,ih];simp
theorem parse_text {name:Txt} {l:List Pr} (h:check name l=0):parse (name++texts (srt l))=(name,srt l,0,0):=by
 obtain ⟨h1,h2,h3⟩:=check_ok h;have hcs:=chk_srt h3;have hc:=(chk_iff _ _).1 hcs
 have hsp:spl (name++texts (srt l))=(name,(srt l).map body):=by
  rw [texts_body]
  refine spl_body _ _ (λx hx=>(nameB_free h1 x hx).1) λp hp x hx=>?_
  obtain ⟨a,ha,rfl⟩:=List.mem_map.1 hp;unfold body at hx
  rcases List.mem_append.1 hx with hx|hx
  ·exact (nameB_free (hc.1 a ha).1 x hx).1
  ·rcases List.mem_cons.1 hx with rfl | hx
   ·decide
   ·exact valB_free (hc.1 a ha).2 x hx
 unfold parse;rw [hsp];dsimp only;rw [if_pos h1];have:=pgo_text name (srt l) [] (name.length+1) (by rw [List.nil_append,srt_len];exact h2) (by rw [List.nil_append];exact hcs) (by rw [List.nil_append];exact srt_le l);rw [this];simp
theorem text_inj {n1 n2:Txt} {l1 l2:List Pr} (h1:check n1 l1=0) (h2:check n2 l2=0):n1++texts (srt l1)=n2++texts (srt l2)↔n1=n2∧srt l1=srt l2:=by
 constructor
 ·intro h
  have e1:=parse_text h1;have e2:=parse_text h2;rw [h,e2] at e1;simp at e1;exact ⟨e1.1.symm,e1.2.symm⟩
 ·rintro ⟨rfl,h⟩;rw [h]
theorem light_len {l:List Pr} (h:light l=true):l.length≤20:=by unfold light at h;simp at h;exact h.1
theorem text_len {name:Txt} {l:List Pr} (h:check name l=0):(name++texts (srt l)).length≤32+66*4:=by
 obtain ⟨h1,h2,h3⟩:=check_ok h;have:=nameB_len h1
 have ht:∀ m:List Pr,(∀ a∈m,a.Key.length≤32∧a.Val.length≤32)→(texts m).length≤66*m.length:=by
  intro m
  induction m with
  | nil=>intro _;simp [texts]
  | cons a m ih=>intro hm;have:=ih λb hb=>hm b (by simp [hb]);have:=hm a (by simp);rw [texts_cons,List.length_append,at1_len,List.length_cons];omega
 have hs:=(chk_iff _ _).1 (chk_srt h3)
 have:=ht (srt l) λa ha=>⟨nameB_len (hs.1 a ha).1,valB_len (hs.1 a ha).2⟩
 rw [srt_len] at this;rw [List.length_append];omega
def finB (x:UInt64):Bool:=decide (x.toNat/4503599627370496%2048≠2047)
theorem and_exp (x:Nat):x&&&9218868437227405312=(x/4503599627370496%2048)*4503599627370496:=by
 have e1:x/4503599627370496%2048=(x>>>52)&&&(2^11-1):=by rw [Nat.and_two_pow_sub_one_eq_mod,Nat.shiftRight_eq_div_pow]
 have e2:((x>>>52)&&&(2^11-1))*4503599627370496=((x>>>52)&&&(2^11-1))<<<52:=by rw [Nat.shiftLeft_eq]
 rw [e1,e2]
 apply Nat.eq_of_testBit_eq
 intro i;rw [Nat.testBit_and,Nat.testBit_shiftLeft,Nat.testBit_and,Nat.testBit_shiftRight,Nat.testBit_two_pow_sub_one,show (9218868437227405312:Nat)=(2^11-1)<<<52 by decide,Nat.testBit_shiftLeft,Nat.testBit_two_pow_sub_one]
 by_cases h:i≥52
 ·rw [show 52+(i-52)=i by omega]
  simp [h]
 ·simp [h]
theorem fin_eq (x:UInt64):m_num_Finite x=some (finB x):=by
 unfold m_num_Finite finB
 congr 1
 apply decide_eq_decide.2
 rw [UInt64.toNat_and,show (9218868437227405312:UInt64).toNat=9218868437227405312 by rfl,and_exp]
 omega
def ltZ (x:UInt64):Bool:=decide (9223372036854775808≤x.toNat∧x.toNat%9223372036854775808≠0∧x.toNat%9223372036854775808≤9218868437227405312)
theorem less_eq (x:UInt64):m_num_Less x 0=some (ltZ x):=by
 have hx:=x.toNat_lt;unfold m_num_Less m_num_of fltLt ltZ;rw [bndS,bndS]
 congr 1
 have r0:Ieee.Format.read Ieee.double (0:UInt64).toNat=.number false 0 (-1074):=by decide
 show (Ieee.Datum.order (Ieee.Format.read Ieee.double x.toNat) (Ieee.Format.read Ieee.double (0:UInt64).toNat)==some .lt)=_;rw [r0];generalize x.toNat=v at *;unfold Ieee.Format.read
 have sw:Ieee.double.signWeight=9223372036854775808:=by decide
 have bn:Ieee.double.binade=4503599627370496:=by decide
 have ir:Ieee.double.infRung=9218868437227405312:=by decide
 have lp:Ieee.double.leastPlace=-1074:=by decide
 dsimp only;rw [sw,bn,ir,lp]
 have hs:(v/9223372036854775808%2==1)=decide (9223372036854775808≤v):=by
  by_cases h:9223372036854775808≤v
  ·rw [decide_eq_true h];have:v/9223372036854775808%2=1:=by omega
   rw [this];rfl
  ·rw [decide_eq_false h];have:v/9223372036854775808%2=0:=by omega
   rw [this];rfl
 rw [hs];generalize hb:decide (9223372036854775808≤v)=s
 have hb':s=true↔9223372036854775808≤v:=by rw [← hb];exact decide_eq_true_iff
 have cmp:∀ (m k:Nat),(Ieee.Datum.order (.number s m (-1074+(k:Int))) (.number false 0 (-1074))==some .lt)=decide (s=true∧m≠0):=by
  intro m k
  have e1:min (-1074+(k:Int)) (-1074)=-1074:=by omega
  show (some (compare (Ieee.signed s m ((-1074+(k:Int))-min (-1074+(k:Int)) (-1074)).toNat) (Ieee.signed false 0 ((-1074:Int)-min (-1074+(k:Int)) (-1074)).toNat))==some .lt)=_;rw [e1,show ((-1074+(k:Int))-(-1074)).toNat=k by omega,show ((-1074:Int)-(-1074)).toNat=0 by rfl];unfold Ieee.signed;rw [if_neg (show ¬(false=true) by decide),show ((0<<<0:Nat):Int)=0 by rfl,Nat.shiftLeft_eq];have hp:=Nat.two_pow_pos k
  cases s with
  | false=>
   have:¬(((m*2^k:Nat):Int)<0):=by omega
   simp only [compare,compareOfLessAndEq];rw [if_neg (show ¬(if false=true then -((m*2^k:Nat):Int) else ((m*2^k:Nat):Int))<0 from this)]
   (repeat' split)<;>first | rfl | (exfalso;simp_all) | simp
  | true=>
   by_cases hm:m=0
   ·subst hm;simp [compare,compareOfLessAndEq]
   ·have h0:0<m*2^k:=Nat.mul_pos (by omega) hp
    have:(-((m*2^k:Nat):Int)<0):=by omega
    simp only [compare,compareOfLessAndEq];rw [if_pos (show (if True then -((m*2^k:Nat):Int) else ((m*2^k:Nat):Int))<0 by rw [if_pos trivial];exact this)];simp [hm]
 by_cases h1:v%9223372036854775808<4503599627370496
 ·rw [if_pos h1]
  refine (cmp (v%9223372036854775808) 0).trans ?_
  apply decide_eq_decide.2;rw [hb'];omega
 ·rw [if_neg h1]
  by_cases h2:v%9223372036854775808<9218868437227405312
  ·rw [if_pos h2]
   refine (cmp (4503599627370496+v%9223372036854775808%4503599627370496) _).trans ?_
   apply decide_eq_decide.2;rw [hb'];omega
  ·rw [if_neg h2]
   by_cases h3:v%9223372036854775808=9218868437227405312
   ·rw [if_pos h3]
    show (some (if s=true then Ordering.lt else .gt)==some .lt)=_
    have:decide (s=true)=decide (9223372036854775808≤v∧v%9223372036854775808≠0∧v%9223372036854775808≤9218868437227405312):=by apply decide_eq_decide.2;rw [hb'];omega
    rw [← this];cases s<;>rfl
   ·rw [if_neg h3]
    show false=_
    symm;rw [decide_eq_false_iff_not];omega
abbrev Pt:=T_api_Point
def kindsB (p:Pt):Bool:=if p.Kind=3 then decide (p.Temp=0) else decide (1≤p.Kind∧p.Kind≤5)&&decide (p.Temp=1∨p.Temp=2)
theorem kinds_eq (p:Pt):m_point_kinds p=some (kindsB p):=by
 unfold m_point_kinds kindsB;rw [jn_eq]
 by_cases h3:p.Kind=3
 ·rw [if_pos h3,if_pos h3]
 ·rw [if_neg h3,if_neg h3]
  by_cases h1:p.Kind=1
  ·simp [h1]
  ·by_cases h2:p.Kind=2
   ·simp [h2]
   ·by_cases h4:p.Kind=4
    ·simp [h4]
    ·by_cases h5:p.Kind=5
     ·simp [h5]
     ·have:¬(1≤p.Kind∧p.Kind≤5):=by omega
      simp [h1,h2,h4,h5,this]
def timesB (p:Pt):Bool:=decide (0≤p.Start∧p.Time≤4503599627370496∧(if p.Kind=3 then p.Start=p.Time else p.Start<p.Time))
theorem times_eq (p:Pt):m_point_times p=some (timesB p):=by
 unfold m_point_times timesB
 by_cases h:p.Start<0∨p.Time>4503599627370496
 ·rw [if_pos h];congr 1;symm;rw [decide_eq_false_iff_not];omega
 ·rw [if_neg h]
  split<;>(congr 1;apply decide_eq_decide.2;omega)
def bareB (h:T_api_Hist):Bool:=decide (h.Scale=0∧h.Zero=0∧h.Pos.Offset=0∧h.Neg.Offset=0∧h.Pos.Counts=[]∧h.Neg.Counts=[])
theorem u64z (x:UInt64):((x.toNat:Nat):Int)=0↔x=0:=by
 constructor
 ·intro h;apply UInt64.toNat_inj.1;simp;omega
 ·rintro rfl;rfl
theorem bare_eq (h:T_api_Hist) (h1:h.Pos.Counts.length≤1000000) (h2:h.Neg.Counts.length≤1000000):m_point_bare h=some (bareB h):=by
 unfold m_point_bare bareB;rw [jn_eq,W64_id (by omega) (by omega)];simp only [u64z]
 have e:((h.Pos.Counts.length:Int)+(h.Neg.Counts.length:Int)=0)↔h.Pos.Counts=[]∧h.Neg.Counts=[]:=by
  rw [← List.length_eq_zero_iff,← List.length_eq_zero_iff];omega
 simp only [e]
 split
 ·rename_i hh;congr 1;apply decide_eq_decide.2;simp [hh]
 ·rename_i hh;congr 1;symm;rw [decide_eq_false_iff_not];intro hc;exact hh ⟨⟨⟨hc.1,hc.2.1⟩,hc.2.2.1⟩,hc.2.2.2.1⟩
def ownB (p:Pt):Bool:=decide ((p.Kind≠1→p.Int_=0)∧(¬(p.Kind=2∨p.Kind=3∨p.Kind=5)→p.Re=0)∧(p.Kind≠5→p.Im=0)∧(p.Kind≠4→bareB p.Hist=true)∧0≤p.Flags∧p.Flags≤31)
theorem own_eq (p:Pt) (h1:p.Hist.Pos.Counts.length≤1000000) (h2:p.Hist.Neg.Counts.length≤1000000):m_point_own p=some (ownB p):=by
 unfold m_point_own ownB;rw [jn_eq,bare_eq _ h1 h2,jn_eq];simp only [u64z,ne_eq]
 by_cases a1:¬p.Kind=1∧¬p.Int_=0
 ·rw [if_pos a1,decide_eq_true a1,if_pos rfl];congr 1;symm;rw [decide_eq_false_iff_not];intro hc;exact a1.2 (hc.1 a1.1)
 ·rw [if_neg a1]
  by_cases a2:(¬((p.Kind=2∨p.Kind=3)∨p.Kind=5))∧¬p.Re=0
  ·rw [if_pos a2,decide_eq_true a2,if_pos rfl];congr 1;symm;rw [decide_eq_false_iff_not];intro hc;exact a2.2 (hc.2.1 (by intro h;exact a2.1 (by omega)))
  ·rw [if_neg a2]
   by_cases a3:¬p.Kind=5∧¬p.Im=0
   ·rw [if_pos a3,decide_eq_true a3,if_pos rfl];congr 1;symm;rw [decide_eq_false_iff_not];intro hc;exact a3.2 (hc.2.2.1 a3.1)
   ·rw [if_neg a3]
    have b1:¬p.Kind=1→p.Int_=0:=λh=>Classical.byContradiction λh'=>a1 ⟨h,h'⟩
    have b2:¬(p.Kind=2∨p.Kind=3∨p.Kind=5)→p.Re=0:=λh=>Classical.byContradiction λh'=>a2 ⟨by omega,h'⟩
    have b3:¬p.Kind=5→p.Im=0:=λh=>Classical.byContradiction λh'=>a3 ⟨h,h'⟩
    by_cases a4:p.Kind=4
    ·rw [if_neg (by simpa using a4)]
     simp only [Bool.false_eq_true,if_false]
     by_cases a5:p.Flags<0∨p.Flags>31
     ·rw [decide_eq_true a5,if_pos rfl];congr 1;symm;rw [decide_eq_false_iff_not];omega
     ·rw [decide_eq_false a5];simp only [Bool.false_eq_true,if_false];congr 1;symm;rw [decide_eq_true_iff];exact ⟨b1,b2,b3,λh=>(h a4).elim,by omega,by omega⟩
    ·rw [if_pos a4,bndS]
     cases hb:bareB p.Hist with
     | false=>simp only [Bool.not_false,if_true];congr 1;symm;rw [decide_eq_false_iff_not];intro hc;have:=hc.2.2.2.1 a4;cases this
     | true=>
      simp only [Bool.not_true,Bool.false_eq_true,if_false]
      by_cases a5:p.Flags<0∨p.Flags>31
      ·rw [decide_eq_true a5,if_pos rfl];congr 1;symm;rw [decide_eq_false_iff_not];omega
      ·rw [decide_eq_false a5];simp only [Bool.false_eq_true,if_false];congr 1;symm;rw [decide_eq_true_iff];exact ⟨b1,b2,b3,λ_=>by first | rfl | trivial,by omega,by omega⟩
def pcE (p:Pt):Int:=
 if check p.Name p.Attrs≠0 then check p.Name p.Attrs
 else if kindsB p=false then 14
 else if p.Mono=true∧p.Kind≠1∧p.Kind≠2 then 1
 else if timesB p=false then 1
 else if ownB p=false then 3
 else if (p.Mono=true∧p.Kind=2)∧finB p.Re=false then 11
 else if p.Mono=true∧(p.Int_<0∨ltZ p.Re=true) then 1
 else if p.Kind=4 then hcE p.Hist else 0
theorem PCheck_eq (p:Pt) (h1:p.Hist.Pos.Counts.length≤1000000) (h2:p.Hist.Neg.Counts.length≤1000000):m_point_Check p=some (pcE p):=by
 unfold m_point_Check pcE m_point_sum;rw [check_eq,bndS]
 by_cases c:check p.Name p.Attrs≠0
 ·rw [if_pos c,if_pos c]
 rw [if_neg c,if_neg c,kinds_eq,bndS]
 cases hk:kindsB p with
 | false=>rw [if_pos (by rfl),if_pos rfl]
 | true=>
  rw [if_neg (by decide),if_neg (show ¬(true=false) by decide)];simp only [jn_eq,bndS,times_eq,own_eq p h1 h2,fin_eq,less_eq,HCheck_eq p.Hist h1 h2]
  have e1:(p.Mono=true∧p.Kind≠1∧p.Kind≠2)↔(if p.Mono=true then (!decide ((p.Kind=1)∨(p.Kind=2))) else false)=true:=by
   cases p.Mono<;>simp
  cases hm:p.Mono with
  | false=>
   simp only [Bool.false_eq_true,if_false,false_and]
   cases timesB p<;>simp
   cases ownB p<;>simp
   split<;>rfl
  | true=>
   simp only [if_true,true_and]
   by_cases hs:p.Kind=1∨p.Kind=2
   ·rw [decide_eq_true hs]
    simp only [Bool.not_true,Bool.false_eq_true,if_false];rw [if_neg (show ¬(p.Kind≠1∧p.Kind≠2) by omega)]
    cases timesB p<;>simp
    cases ownB p<;>simp
    have h4:¬p.Kind=4:=by omega
    by_cases h2:p.Kind=2
    ·simp only [h2,if_true,true_and]
     cases finB p.Re<;>simp
     by_cases hi:p.Int_<0
     ·simp [hi]
     ·simp [hi];split<;>rfl
    ·simp only [h2,if_false,false_and]
     by_cases hi:p.Int_<0
     ·simp [hi]
     ·simp [hi,h4];split<;>rfl
   ·rw [decide_eq_false hs,if_pos (show p.Kind≠1∧p.Kind≠2 by omega)]
    simp
theorem u64ne (x y:UInt64):(((x.toNat:Nat):Int)≠((y.toNat:Nat):Int))↔x≠y:=by
 constructor
 ·rintro h rfl;exact h rfl
 ·intro h hh;exact h (UInt64.toNat_inj.1 (by omega))
theorem u64eq (x y:UInt64):(((x.toNat:Nat):Int)=((y.toNat:Nat):Int))↔x=y:=by
 constructor
 ·intro hh;exact UInt64.toNat_inj.1 (by omega)
 ·rintro rfl;rfl
theorem scan_same {α:Type} [DecidableEq α] (a b:List α) (hl:a.length=b.length) (B:Nat→α→Unit→(Unit→Option Bool)→Option Bool) (J:Unit→Option Bool) (hJ:J ()=some true)
 (hB:∀ i x k,B i x () k=(idx b (i:Int)).bind λy=>if x≠y then some false else k ()):scanL a () B J=some (decide (a=b)):=by
 rw [scanL_pre (λp q _=>some (decide (q=b.drop p.length))) ?_ ?_]
 ·simp
 ·intro s;rw [hJ];simp [hl]
 ·intro p x q _ k hp hk
  rw [hB,hk]
  have:p.length<b.length:=by rw [← hl,← hp];simp
  rw [idx_at this,bndS,List.drop_eq_getElem_cons this,List.length_append,List.length_singleton]
  by_cases hx:x=b[p.length]
  ·rw [if_neg (λh=>h hx)];congr 1;apply decide_eq_decide.2;rw [List.cons.injEq];exact ⟨λh=>⟨hx,h⟩,λh=>h.2⟩
  ·rw [if_pos hx,decide_eq_false];rw [List.cons.injEq];exact λh=>hx h.1
theorem side_ext (a b:T_api_Side):a=b↔a.Offset=b.Offset∧a.Counts=b.Counts:=by cases a;cases b;simp
theorem rsame_eq (a b:T_api_Side) (h:a.Counts.length≤1000000):m_limnographref08_SameSide a b=some (decide (a=b)):=by
 unfold m_limnographref08_SameSide
 by_cases hc:a.Offset≠b.Offset∨(a.Counts.length:Int)≠(b.Counts.length:Int)
 ·rw [if_pos hc];congr 1;symm;rw [decide_eq_false_iff_not,side_ext];rintro ⟨h1,h2⟩;rw [h1,h2] at hc;simp at hc
 ·rw [if_neg hc,jn_eq,m_limnographref08_SameSide_L1_scan _ _ _ (by omega)]
  have:=scan_same a.Counts b.Counts (by omega) (λii xx ss kk=>(some xx).bind λz21=>(idx b.Counts (ii:Int)).bind λz24=>if ((z21).toNat:Int)≠((z24).toNat:Int) then (some false) else (kk ())) (λ_=>some true) rfl λi x k=>by rw [bndS];simp only [u64ne]
  refine this.trans ?_
  congr 1;apply decide_eq_decide.2;rw [side_ext];constructor
  ·intro h;exact ⟨by omega,h⟩
  ·exact λh=>h.2
theorem hist_ext (a b:T_api_Hist):a=b↔(a.Scale=b.Scale∧a.Zero=b.Zero)∧a.Pos=b.Pos∧a.Neg=b.Neg:=by cases a;cases b;simp [and_assoc]
theorem rHist_eq (a b:T_api_Hist) (h1:a.Pos.Counts.length≤1000000) (h2:a.Neg.Counts.length≤1000000):m_limnographref08_Same a b=some (decide (a=b)):=by
 unfold m_limnographref08_Same;rw [rsame_eq _ _ h1,rsame_eq _ _ h2];simp only [u64eq,bndS,jn_eq]
 by_cases hc:a.Scale=b.Scale∧a.Zero=b.Zero
 ·rw [if_pos hc]
  by_cases hp:a.Pos=b.Pos
  ·rw [decide_eq_true hp,if_pos rfl];congr 1;apply decide_eq_decide.2;rw [hist_ext];simp [hc,hp]
  ·rw [decide_eq_false hp];simp only [Bool.false_eq_true,if_false];congr 1;symm;rw [decide_eq_false_iff_not,hist_ext];exact λh=>hp h.2.1
 ·rw [if_neg hc];simp only [Bool.false_eq_true,if_false];congr 1;symm;rw [decide_eq_false_iff_not,hist_ext];exact λh=>hc h.1
def sameP (a b:Pt):Prop:=a.Name=b.Name∧srt a.Attrs=srt b.Attrs∧a.Hist=b.Hist∧a.Kind=b.Kind∧a.Temp=b.Temp∧a.Mono=b.Mono∧a.Start=b.Start∧a.Time=b.Time∧a.Int_=b.Int_∧a.Re=b.Re∧a.Im=b.Im∧a.Flags=b.Flags
instance (a b:Pt):Decidable (sameP a b):=by unfold sameP;infer_instance
structure Few (x:Pt):Prop where
 a:x.Attrs.length≤20
 p:x.Hist.Pos.Counts.length≤1000000
 n:x.Hist.Neg.Counts.length≤1000000
theorem rSame_eq {a b:Pt} (ha:Few a) (hb:Few b):m_limnographref12_Same a b=some (decide (sameP a b)):=by
 unfold m_limnographref12_Same
 have e:∀ l:List Pr,l.length≤20→(srt l).length<4611686018427387904:=λl hl=>by rw [srt_len];omega
 have ea:=ha.a;have eb:=hb.a;rw [jn_eq,refSorted_eq _ (by omega),refSorted_eq _ (by omega),bndS,bndS,same_eq _ _ (e _ ha.a),bndS,rHist_eq _ _ ha.p ha.n];simp only [bndS,jn_eq,u64eq]
 by_cases h1:a.Name=b.Name
 ·rw [if_neg (λh=>h h1)]
  by_cases h2:srt a.Attrs=srt b.Attrs
  ·rw [decide_eq_true h2]
   simp only [Bool.not_true,Bool.false_eq_true,if_false]
   by_cases h3:(((a.Kind≠b.Kind∨a.Temp≠b.Temp)∨a.Mono≠b.Mono)∨a.Start≠b.Start)∨a.Time≠b.Time
   ·rw [if_pos h3];congr 1;symm;rw [decide_eq_false_iff_not];rintro ⟨_,_,_,q1,q2,q3,q4,q5,_⟩;rcases h3 with (((h | h) | h) | h) | h
    ·exact h q1
    ·exact h q2
    ·exact h q3
    ·exact h q4
    ·exact h q5
   ·rw [if_neg h3]
    simp only [not_or,ne_eq,Decidable.not_not] at h3;obtain ⟨⟨⟨⟨q1,q2⟩,q3⟩,q4⟩,q5⟩:=h3
    by_cases h4:((a.Int_=b.Int_∧a.Re=b.Re)∧a.Im=b.Im)∧a.Flags=b.Flags
    ·rw [if_pos h4]
     obtain ⟨⟨⟨r1,r2⟩,r3⟩,r4⟩:=h4
     congr 1;apply decide_eq_decide.2;simp [sameP,h1,h2,q1,q2,q3,q4,q5,r1,r2,r3,r4]
    ·rw [if_neg h4];congr 1;symm;rw [decide_eq_false_iff_not];rintro ⟨_,_,_,_,_,_,_,_,r1,r2,r3,r4⟩;exact h4 ⟨⟨⟨r1,r2⟩,r3⟩,r4⟩
  ·rw [decide_eq_false h2];simp only [Bool.not_false,if_true];congr 1;symm;rw [decide_eq_false_iff_not];exact λh=>h2 h.2.1
 ·rw [if_pos h1,if_pos trivial];congr 1;symm;rw [decide_eq_false_iff_not];exact λh=>h1 h.1
structure PtR (p:Pt):Prop where
 c:check p.Name p.Attrs=0
 k:kindsB p=true
 t:timesB p=true
 o:ownB p=true
 h:p.Kind=4→hcE p.Hist=0
theorem pcE_ok {p:Pt} (h:pcE p=0):PtR p:=by
 unfold pcE at h
 by_cases c:check p.Name p.Attrs≠0
 ·rw [if_pos c] at h;exact (c h).elim
 rw [if_neg c] at h
 by_cases k:kindsB p=false
 ·rw [if_pos k] at h;exact absurd h (by decide)
 rw [if_neg k] at h
 by_cases s:p.Mono=true∧p.Kind≠1∧p.Kind≠2
 ·rw [if_pos s] at h;exact absurd h (by decide)
 rw [if_neg s] at h
 by_cases t:timesB p=false
 ·rw [if_pos t] at h;exact absurd h (by decide)
 rw [if_neg t] at h
 by_cases o:ownB p=false
 ·rw [if_pos o] at h;exact absurd h (by decide)
 rw [if_neg o] at h
 by_cases f:(p.Mono=true∧p.Kind=2)∧finB p.Re=false
 ·rw [if_pos f] at h;exact absurd h (by decide)
 rw [if_neg f] at h
 by_cases l:p.Mono=true∧(p.Int_<0∨ltZ p.Re=true)
 ·rw [if_pos l] at h;exact absurd h (by decide)
 rw [if_neg l] at h;refine ⟨Classical.not_not.1 c,by simpa using k,by simpa using t,by simpa using o,λh4=>?_⟩;rw [if_pos h4] at h;exact h
theorem light12 (p:Pt):m_limnographref12_Light p=some (decide (p.Name.length≤100)&&light p.Attrs&&decide (p.Hist.Pos.Counts.length≤300∧p.Hist.Neg.Counts.length≤300)):=by
 unfold m_limnographref12_Light m_limnographref08_Light;rw [jn_eq,light_eq]
 have e1:((p.Hist.Pos.Counts.length:Int)≤300)↔p.Hist.Pos.Counts.length≤300:=by omega
 have e2:((p.Hist.Neg.Counts.length:Int)≤300)↔p.Hist.Neg.Counts.length≤300:=by omega
 simp only [jn_eq,bndS,e1,e2]
 by_cases h1:(p.Name.length:Int)≤100
 ·rw [if_pos h1,decide_eq_true (by omega:p.Name.length≤100)]
  cases light p.Attrs with
  | false=>simp
  | true=>simp
 ·rw [if_neg h1,decide_eq_false (by omega:¬p.Name.length≤100)];simp
theorem light_few {p:Pt} (h:(decide (p.Name.length≤100)&&light p.Attrs&&decide (p.Hist.Pos.Counts.length≤300∧p.Hist.Neg.Counts.length≤300))=true):Few p∧p.Hist.Pos.Counts.length≤300∧p.Hist.Neg.Counts.length≤300:=by
 simp only [Bool.and_eq_true,decide_eq_true_iff] at h;obtain ⟨⟨_,h2⟩,h3,h4⟩:=h;exact ⟨⟨light_len h2,by omega,by omega⟩,h3,h4⟩
theorem clone_pt (p:Pt) (h:Few p):m_point_Clone p=some p:=by
 have:=h.a;have:=h.p;have:=h.n;unfold m_point_Clone m_slices_Clone_api_Pair_api_Pair m_hist_Clone m_slices_Clone_uint64_uint64;rw [app_some (by simp;omega),bndS,app_some (by simp;omega),bndS,app_some (by simp;omega),bndS,bndS]
 rfl
def mono (b:Bool):Nat:=if b=true then 1 else 0
theorem pt_nums {p:Pt} (h:PtR p):1≤p.Kind∧p.Kind≤5∧0≤p.Temp∧p.Temp≤2∧0≤p.Flags∧p.Flags≤31∧0≤p.Start∧p.Start≤p.Time∧p.Time≤4503599627370496:=by
 obtain ⟨_,hk,ht,ho,_⟩:=h;unfold kindsB at hk;unfold timesB at ht;unfold ownB at ho;rw [decide_eq_true_iff] at ht ho;obtain ⟨t1,t2,t3⟩:=ht;obtain ⟨_,_,_,_,o1,o2⟩:=ho
 by_cases h3:p.Kind=3
 ·rw [if_pos h3] at hk t3
  rw [decide_eq_true_iff] at hk
  omega
 ·rw [if_neg h3] at hk t3
  simp only [Bool.and_eq_true,decide_eq_true_iff] at hk
  omega
def keyE (p:Pt):List UInt8:=(p.Name++texts (srt p.Attrs))++([32]++[UInt8.ofNat (48+p.Kind.toNat),UInt8.ofNat (48+p.Temp.toNat),UInt8.ofNat (48+mono p.Mono)])
theorem toU8_dig {x:Int} (h0:0≤x) (h1:x≤100):toU8 (W64 (48+x))=UInt8.ofNat (48+x.toNat):=by
 rw [W64_id (by omega) (by omega),show 48+x=((48+x.toNat:Nat):Int) by omega,toU8_nat,Nat.mod_eq_of_lt (by omega)]
def keyR (p:Pt):List UInt8×Int:=if pcE p=0 then (keyE p,0) else ([],pcE p)
theorem key_eq (p:Pt) (h1:p.Hist.Pos.Counts.length≤1000000) (h2:p.Hist.Neg.Counts.length≤1000000):m_point_Key p=some (keyR p):=by
 unfold m_point_Key keyR;rw [PCheck_eq p h1 h2,bndS]
 by_cases h0:pcE p=0
 ·rw [if_neg (by simpa using h0),if_pos h0]
  have hp:=pcE_ok h0;obtain ⟨k1,k2,t1,t2,f1,f2,s1,s2,s3⟩:=pt_nums hp;have htl:=text_len hp.c
  have hT:m_label_Text p.Name p.Attrs=some (p.Name++texts (srt p.Attrs),0):=by rw [text_eq,text,if_pos hp.c]
  have hbit:m_point_bit p.Mono=some (mono p.Mono:Int):=by unfold m_point_bit mono;cases p.Mono<;>rfl
  have hm1:mono p.Mono≤1:=by unfold mono;split<;>omega
  rw [hT,bndS];dsimp only;rw [cat_some (by simp only [List.length_append,List.length_cons,List.length_nil] at htl ⊢;omega),bndS,hbit,bndS,cat_some (by simp only [List.length_append,List.length_cons,List.length_nil] at htl ⊢;omega),bndS];rw [toU8_dig (by omega) (by omega),toU8_dig (by omega) (by omega),toU8_dig (by omega) (by omega),Int.toNat_natCast];unfold keyE;simp only [List.append_assoc]
 ·rw [if_pos h0,if_neg h0]
theorem dig_inj {a b:Nat} (ha:a≤100) (hb:b≤100):UInt8.ofNat (48+a)=UInt8.ofNat (48+b)↔a=b:=by
 constructor
 ·intro h
  have:=congrArg UInt8.toNat h;simp only [UInt8.toNat_ofNat'] at this
  omega
 ·rintro rfl;rfl
theorem key_inj {a b:Pt} (ha:PtR a) (hb:PtR b):keyE a=keyE b↔a.Name=b.Name∧a.Kind=b.Kind∧a.Temp=b.Temp∧a.Mono=b.Mono∧srt a.Attrs=srt b.Attrs:=by
 obtain ⟨k1,k2,t1,t2,_⟩:=pt_nums ha;obtain ⟨k3,k4,t3,t4,_⟩:=pt_nums hb
 have hm:∀ x:Bool,mono x≤1:=λx=>by unfold mono;split<;>omega
 have hma:=hm a.Mono;have hmb:=hm b.Mono;unfold keyE
 constructor
 ·intro h
  obtain ⟨e1,e2⟩:=List.append_inj' h rfl;simp only [List.cons_append,List.nil_append,List.cons.injEq,and_true,true_and] at e2;obtain ⟨d1,d2,d3⟩:=e2;rw [dig_inj (by omega) (by omega)] at d1 d2 d3;obtain ⟨n1,n2⟩:=(text_inj ha.c hb.c).1 e1;refine ⟨n1,by omega,by omega,?_,n2⟩;unfold mono at d3
  cases h1:a.Mono<;>cases h2:b.Mono<;>simp [h1,h2] at d3<;>rfl
 ·rintro ⟨n1,n2,n3,n4,n5⟩
  rw [n1,n2,n3,n4,n5]
end Go.Proofs.YtaikmpmokihciaaGreat
set_option maxRecDepth 20000
set_option linter.unusedVariables false
set_option linter.unusedSimpArgs false
namespace Go.Proofs.YtaikmpmokihciaaGreat
open Go Go.RowKit Go.Wk
def Tot {α:Type} (P:α→Prop) (o:Option α):Prop:=∃ r,o=some r∧P r
theorem Tot.some {α:Type} {P:α→Prop} {r:α} (h:P r):Tot P (some r):=⟨r,rfl,h⟩
theorem Tot.bind {α β:Type} {P:α→Prop} {Q:β→Prop} {o:Option α} {f:α→Option β} (h:Tot P o) (hf:∀ r,P r→Tot Q (f r)):Tot Q (o.bind f):=by
 obtain ⟨r,rfl,hr⟩:=h;exact hf r hr
theorem Tot.jn {α β:Type} {R:α→Prop} {Q:β→Prop} {F:α→Option β} {B:(α→Option β)→Option β} (hF:∀ y,R y→Tot Q (F y)) (hB:∀ j:α→Option β,(∀ y,R y→Tot Q (j y))→Tot Q (B j)):Tot Q (jn F B):=by
 rw [jn_eq];exact hB F hF
theorem Tot.jn2 {α γ β:Type} {R:α→γ→Prop} {Q:β→Prop} {F:α→γ→Option β} {B:(α→γ→Option β)→Option β} (hF:∀ y z,R y z→Tot Q (F y z)) (hB:∀ j:α→γ→Option β,(∀ y z,R y z→Tot Q (j y z))→Tot Q (B j)):Tot Q (Go.Wk.jn F B):=by
 rw [jn_eq];exact hB F hF
theorem Tot.ite {α:Type} {c:Prop} [Decidable c] {P:α→Prop} {a b:Option α} (h1:c→Tot P a) (h2:¬c→Tot P b):Tot P (if c then a else b):=by
 split
 ·rename_i h;exact h1 h
 ·rename_i h;exact h2 h
theorem Tot.mono {α:Type} {P Q:α→Prop} {o:Option α} (h:Tot P o) (hpq:∀ r,P r→Q r):Tot Q o:=by
 obtain ⟨r,e,hr⟩:=h;exact ⟨r,e,hpq r hr⟩
theorem Tot.of {α:Type} {o:Option α} {r:α} (h:o=Option.some r):Tot (λx=>x=r) o:=⟨r,h,rfl⟩
structure LH (h:T_api_Hist):Prop where
 p:h.Pos.Counts.length≤1000000
 n:h.Neg.Counts.length≤1000000
abbrev hZ:T_api_Hist:=⟨0,0,⟨0,[]⟩,⟨0,[]⟩⟩
theorem LH.z:LH hZ:=⟨Nat.zero_le _,Nat.zero_le _⟩
structure BS (s:T_api_Side):Prop where
 l:s.Counts.length≤160
 a:-1073741824≤s.Offset
 b:s.Offset≤1073741824
theorem BS.z:BS ⟨0,[]⟩:=⟨Nat.zero_le _,by show -1073741824≤(0:Int);omega,by show (0:Int)≤1073741824;omega⟩
theorem sd_ok {s:T_api_Side} (h:sdE s=0):BS s∧(s.Counts≠[]→s.Offset+s.Counts.length-1≤1073741824):=by
 unfold sdE at h
 split at h
 ·simp at h
 ·rename_i h1
  split at h
  ·rename_i h2
   split at h
   ·simp at h
   ·rename_i h3
    have h3':s.Offset=0:=by
     rcases Decidable.em (s.Offset=0) with e|e
     ·exact e
     ·exact absurd e h3
    exact ⟨⟨by omega,by omega,by omega⟩,λhn=>absurd h2 hn⟩
  ·split at h
   ·simp at h
   ·rename_i h2 _
    split at h
    ·simp at h
    ·rename_i h4
     have h0:0<s.Counts.length:=List.length_pos_iff.2 h2;exact ⟨⟨by omega,by omega,by omega⟩,λ_=>by omega⟩
theorem shr_div (x:Int) {k:Nat} (hk:k≤30):shrZ x (toU64 (k:Int)).toNat=x/(2^k:Nat):=by
 have e:(toU64 (k:Int)).toNat=k:=by
  unfold toU64;rw [UInt64.toNat_ofNat']
  omega
 rw [e];unfold shrZ;rw [Nat.min_eq_left (by omega),Int.fdiv_eq_ediv_of_nonneg _ (by exact Int.le_of_lt (Int.pow_pos (by omega)))]
 congr 1
theorem div_add {o:Int} {P:Nat} (hP:0<P) (m:Nat):o/(P:Int)≤(o+m)/(P:Int)∧(o+m)/(P:Int)≤o/(P:Int)+m:=by
 have hp:(0:Int)<(P:Int):=by omega
 refine ⟨Int.ediv_le_ediv hp (by omega),?_⟩
 have h1:(o+m)/(P:Int)≤(o+(m:Int)*(P:Int))/(P:Int):=by
  apply Int.ediv_le_ediv hp
  have:(m:Int)*1≤(m:Int)*(P:Int):=Int.mul_le_mul_of_nonneg_left (by omega) (by omega)
  omega
 rw [Int.add_mul_ediv_right _ _ (by omega)] at h1;exact h1
theorem div_small {o:Int} {P:Nat} (hP:0<P) (h1:-1073741824≤o) (h2:o≤1073741824):-1073741824≤o/(P:Int)∧o/(P:Int)≤1073741824:=by
 have hp:(0:Int)<(P:Int):=by omega
 constructor
 ·rw [Int.le_ediv_iff_mul_le hp]
  have:(-1073741824:Int)*(P:Int)≤-1073741824*1:=by
   have:(1073741824:Int)*1≤1073741824*(P:Int):=Int.mul_le_mul_of_nonneg_left (by omega) (by omega)
   omega
  omega
 ·rcases Int.le_total 0 o with h | h
  ·exact Int.le_trans (Int.ediv_le_self _ h) h2
  ·have h3:o/(P:Int)≤0:=by
    have:=Int.ediv_le_ediv hp h;rw [Int.zero_ediv] at this;exact this
   omega
theorem span_eq {s:T_api_Side} (hs:sdE s=0) (hn:s.Counts≠[]) {k:Nat} (hk:k≤30) :
 m_hist_span s (toU64 (k:Int))=some ((s.Offset+(s.Counts.length-1:Nat))/(2^k:Nat)-s.Offset/(2^k:Nat)+1):=by
 obtain ⟨⟨h1,h2,h3⟩,h4⟩:=sd_ok hs;have h4':=h4 hn;have h0:0<s.Counts.length:=List.length_pos_iff.2 hn;have hP:0<2^k:=Nat.pow_pos (by omega);obtain ⟨d1,d2⟩:=div_add (o:=s.Offset) hP (s.Counts.length-1);obtain ⟨d3,d4⟩:=div_small (o:=s.Offset) hP h2 h3;unfold m_hist_span;rw [if_neg (by omega),W64_id (z:=s.Offset+(s.Counts.length:Int)) (by omega) (by omega),W64_id (z:=s.Offset+(s.Counts.length:Int)-1) (by omega) (by omega),shr_div _ hk,shr_div _ hk,show s.Offset+(s.Counts.length:Int)-1=s.Offset+((s.Counts.length-1:Nat):Int) by omega];rw [W64_id (z:=_-_) (by omega) (by omega),W64_id (by omega) (by omega)]
theorem idx_some {α:Type} {l:List α} {i:Int} (h0:0≤i) (h1:i<l.length):Tot (λ_=>True) (idx l i):=by
 obtain ⟨x,hx⟩:=idx_lt h0 h1;exact ⟨x,hx,trivial⟩
theorem setI_len {α:Type} (l:List α) (i:Int) (x:α):(setI l i x).length=l.length:=by simp [setI]
theorem down_L1 {s:T_api_Side} (hs:sdE s=0) (hn:s.Counts≠[]) {k:Nat} (hk:k≤30) {β:Type} {Q:T_api_Side→Prop} (j:T_api_Side→Option T_api_Side)
 (hj:∀ y:T_api_Side,y.Offset=s.Offset/(2^k:Nat)→(y.Counts.length:Int)=(s.Offset+(s.Counts.length-1:Nat))/(2^k:Nat)-s.Offset/(2^k:Nat)+1→Tot Q (j y)) :
 ∀ m i n (y:T_api_Side),i+m=s.Counts.length→y.Offset=s.Offset/(2^k:Nat)→(y.Counts.length:Int)=(s.Offset+(s.Counts.length-1:Nat))/(2^k:Nat)-s.Offset/(2^k:Nat)+1 →
 Tot Q (m_hist_down_L1 s (toU64 (k:Int)) j (n+m+1) (i:Int) y):=by
 obtain ⟨⟨h1,h2,h3⟩,h4⟩:=sd_ok hs;have h4':=h4 hn;have hP:0<2^k:=Nat.pow_pos (by omega);obtain ⟨d3,d4⟩:=div_small (o:=s.Offset) hP h2 h3;intro m
 induction m with
 | zero=>
  intro i n y hi ho hl;rw [Nat.add_zero,m_hist_down_L1,if_neg (by omega)];exact hj y ho hl
 | succ m ih=>
  intro i n y hi ho hl;rw [m_hist_down_L1,if_pos (by omega),W64_id (z:=s.Offset+(i:Int)) (by omega) (by omega),shr_div _ hk];obtain ⟨d5,d6⟩:=div_add (o:=s.Offset) hP i;have d7:(s.Offset+(i:Int))/((2^k:Nat):Int)≤(s.Offset+(s.Counts.length-1:Nat))/((2^k:Nat):Int):=Int.ediv_le_ediv (by omega) (by omega);rw [ho,W64_id (z:=(s.Offset+(i:Int))/((2^k:Nat):Int)-_) (by omega) (by omega)]
  refine (idx_some (by omega) (by omega)).bind λz _=>(idx_some (by omega) (by omega)).bind λz1 _=>(idx_some (by omega) (by omega)).bind λz2 _=>?_
  rw [show W64 ((i:Int)+1)=((i+1:Nat):Int) by rw [W64_id (by omega) (by omega)];rfl];exact ih (i+1) n _ (by omega) rfl (by dsimp only;rw [setI_len];exact hl)
theorem down_tot {s:T_api_Side} (hs:sdE s=0) {k:Nat} (hk:k≤30):Tot BS (m_hist_down s (toU64 (k:Int))):=by
 obtain ⟨⟨h1,h2,h3⟩,h4⟩:=sd_ok hs;unfold m_hist_down
 refine Tot.ite (λ_=>.some .z) λhl=>?_
 have hn:s.Counts≠[]:=λh=>hl (by rw [h];rfl)
 have hP:0<2^k:=Nat.pow_pos (by omega);have h0:0<s.Counts.length:=List.length_pos_iff.2 hn;obtain ⟨d1,d2⟩:=div_add (o:=s.Offset) hP (s.Counts.length-1);obtain ⟨d3,d4⟩:=div_small (o:=s.Offset) hP h2 h3;rw [jn_eq,span_eq hs hn hk,bndS];unfold mkL;rw [if_pos (by omega),bndS,shr_div _ hk];dsimp only;rw [jn_eq];obtain ⟨f,hf⟩:=fuelS (s.Counts.length+1) (by omega);rw [hf];refine down_L1 (β:=Unit) hs hn hk (Q:=BS) _ (λy ho hy=>.some ⟨by omega,by omega,by omega⟩) s.Counts.length 0 f _ (by omega) rfl ?_;dsimp only;rw [List.length_replicate]
 omega
theorem hc_ok {h:T_api_Hist} (hh:hcE h=0):-10≤h.Scale∧h.Scale≤20∧sdE h.Pos=0∧sdE h.Neg=0:=by
 unfold hcE at hh
 by_cases h1:h.Scale < -10∨h.Scale>20
 ·rw [if_pos h1] at hh;simp at hh
 rw [if_neg h1] at hh
 by_cases c1:sdE h.Pos≠0
 ·rw [if_pos c1] at hh;exact absurd hh c1
 rw [if_neg c1] at hh
 by_cases c2:sdE h.Neg≠0
 ·rw [if_pos c2] at hh;exact absurd hh c2
 exact ⟨by omega,by omega,Decidable.not_not.1 c1,Decidable.not_not.1 c2⟩
structure DownR (h:T_api_Hist) (b:Int) (r:T_api_Hist×Int):Prop where
 l:LH r.1
 p:BS r.1.Pos
 n:BS r.1.Neg
 bad:hcE h≠0→r.1=hZ
 good:hcE h=0→0≤b→b≤h.Scale+10→r.1.Scale=h.Scale-b
theorem Down_tot {h:T_api_Hist} (hl:LH h) (b:Int):Tot (DownR h b) (m_hist_Down h b):=by
 unfold m_hist_Down;rw [HCheck_eq h hl.p hl.n,bndS]
 refine Tot.ite (λh1=>.some ⟨.z,.z,.z,λ_=>rfl,λh2=>absurd h2 h1⟩) λh1=>?_
 have hh:hcE h=0:=Decidable.not_not.1 h1;obtain ⟨s1,s2,c1,c2⟩:=hc_ok hh
 have e1:W64 (h.Scale - -10)=h.Scale+10:=by rw [W64_id (by omega) (by omega)];omega
 rw [jn_eq,e1]
 refine Tot.ite (λh2=>?_) λh2=>?_
 ·exact .some ⟨.z,.z,.z,λ_=>rfl,λ_ h3=>by omega⟩
 ·dsimp only
  refine Tot.ite (λh3=>.some ⟨.z,.z,.z,λ_=>rfl,λ_ _ h4=>?_⟩) λh3=>?_
  ·simp only [decide_eq_true_iff] at h3
   omega
  ·simp only [decide_eq_true_iff] at h3
   obtain ⟨k,rfl⟩:∃ k:Nat,b=(k:Int):=⟨b.toNat,by omega⟩
   refine (down_tot c1 (k:=k) (by omega)).bind λp hp=>(down_tot c2 (k:=k) (by omega)).bind λq hq=>.some ⟨⟨?_,?_⟩,hp,hq,λh4=>absurd hh h4,λ_ _ _=>?_⟩
   ·have:=hp.l;show p.Counts.length≤_;omega
   ·have:=hq.l;show q.Counts.length≤_;omega
   ·show W64 (h.Scale-(k:Int))=_
    rw [W64_id (by omega) (by omega)]
end Go.Proofs.YtaikmpmokihciaaGreat
set_option maxRecDepth 20000
set_option linter.unusedVariables false
set_option linter.unusedSimpArgs false
namespace Go.Proofs.YtaikmpmokihciaaGreat
open Go Go.RowKit Go.Wk
theorem scan_tot {α S R:Type} {l:List α} {s:S} {B:Nat→α→S→(S→Option R)→Option R} {J:S→Option R} {Q:R→Prop} (I:Nat→S→Prop) (h0:I 0 s) (hJ:∀ s,I l.length s→Tot Q (J s))
 (hB:∀ i x s k,i<l.length→I i s→(∀ s',I (i+1) s'→Tot Q (k s'))→Tot Q (B i x s k)):Tot Q (scanL l s B J):=by
 have key:∀ (m:List α) (i:Nat) (s:S),i+m.length=l.length→I i s→Tot Q (scan B J i m s):=by
  intro m
  induction m with
  | nil=>
   intro i s hi hI;exact hJ s (by rw [← hi];exact hI)
  | cons x m ih=>
   intro i s hi hI;rw [List.length_cons] at hi
   exact hB i x s _ (by omega) hI λs' hs=>ih (i+1) s' (by omega) hs
 exact key l 0 s (by omega) h0
theorem toU64_sub (x y:Int):((toU64 x-toU64 y).toNat:Int)=(x-y)%18446744073709551616:=by
 unfold toU64;rw [UInt64.toNat_sub,UInt64.toNat_ofNat',UInt64.toNat_ofNat']
 omega
theorem At_tot {s:T_api_Side} (hs:s.Counts.length≤1000000) (x:Int):Tot (λ_=>True) (m_hist_At s x):=by
 unfold m_hist_At;rw [jn_eq]
 refine Tot.ite (λh=>.some trivial) λh=>?_
 dsimp only
 have hl:((toU64 (s.Counts.length:Int)).toNat:Int)=s.Counts.length:=by
  unfold toU64;rw [UInt64.toNat_ofNat']
  omega
 rw [hl]
 refine Tot.ite (λ_=>.some trivial) λh2=>?_
 simp only [decide_eq_true_iff] at h2;rw [toU64_sub] at h2
 have e:W64 (x-s.Offset)=(x-s.Offset)%18446744073709551616:=by
  unfold W64 IntKind.wrap IntKind.signed IntKind.bits;simp
  omega
 refine (idx_some (by rw [e];omega) (by rw [e];omega)).bind λr _=>.some trivial
structure LevR (r:T_api_Hist×T_api_Hist×Int):Prop where
 a:LH r.1
 b:LH r.2.1
 ap:BS r.1.Pos
 an:BS r.1.Neg
 bp:BS r.2.1.Pos
 bn:BS r.2.1.Neg
theorem Level_tot {x y:T_api_Hist} (hx:LH x) (hy:LH y):Tot LevR (m_fold_Level x y):=by
 unfold m_fold_Level;obtain ⟨f,hf⟩:=fuelS 3 (by omega);rw [jn_eq,hf];have z:LevR (hZ,hZ,0):=⟨.z,.z,.z,.z,.z,.z⟩;rw [m_fold_Level_L1,if_pos (by omega)];rw [show idx ([x,y]:List T_api_Hist) 0=some x from rfl,bndS,HCheck_eq x hx.p hx.n,bndS]
 refine Tot.ite (λ_=>.some ⟨.z,.z,.z,.z,.z,.z⟩) λ_=>?_
 rw [show W64 (0+1)=1 from rfl,m_fold_Level_L1,if_pos (by omega),show idx ([x,y]:List T_api_Hist) 1=some y from rfl,bndS,HCheck_eq y hy.p hy.n,bndS]
 refine Tot.ite (λ_=>.some ⟨.z,.z,.z,.z,.z,.z⟩) λ_=>?_
 rw [show W64 (1+1)=2 from rfl,m_fold_Level_L1,if_neg (by omega)]
 exact (Down_tot hx _).bind λp hp=>(Down_tot hy _).bind λq hq=>.some ⟨hp.l,hq.l,hp.p,hp.n,hq.p,hq.n⟩
theorem cover_tot {a b:T_api_Side} (ha:BS a) (hb:BS b):Tot (λr:Int×Int=>0≤r.2) (m_fold_cover a b):=by
 have:=ha.l;have:=ha.a;have:=ha.b;have:=hb.l;have:=hb.a;have:=hb.b;unfold m_fold_cover
 refine Tot.ite (λ_=>.some (by show (0:Int)≤_;omega)) λh1=>Tot.ite (λ_=>.some (by show (0:Int)≤_;omega)) λh2=>?_
 unfold m_fold_ends;rw [bndS,bndS];refine .some ?_;dsimp only;rw [W64_id (z:=a.Offset+_) (by omega) (by omega),W64_id (z:=b.Offset+_) (by omega) (by omega),W64_id (by omega) (by omega)]
 omega
theorem Merge_tot {x y:T_api_Hist} (hx:LH x) (hy:LH y):Tot (λr=>LH r.1) (m_fold_Merge x y):=by
 unfold m_fold_Merge
 refine (Level_tot hx hy).bind λp hp=>Tot.ite (λ_=>.some .z) λ_=>?_
 rw [Total_eq _ hp.a.p hp.a.n,bndS,Total_eq _ hp.b.p hp.b.n,bndS]
 refine Tot.ite (λ_=>.some .z) λ_=>?_
 refine Tot.jn (R:=LH) (λy hy=>.some hy) λj hj=>?_
 refine Tot.jn (R:=LH) (λy hy=>?_) λj2 hj2=>?_
 ·refine Tot.jn (R:=LH) (λz hz=>hj z hz) λj3 hj3=>?_
  refine (cover_tot hp.an hp.bn).bind λc hc=>Tot.ite (λ_=>.some .z) λh1=>Tot.ite (λ_=>hj3 _ hy) λ_=>?_
  refine Tot.jn (R:=λz=>z.Pos=y.Pos∧z.Neg.Counts.length≤160) (λz hz=>?_) λj4 hj4=>?_
  ·refine Tot.jn (R:=LH) (λv hv=>hj3 _ hv) λj5 hj5=>?_
   rw [m_fold_Merge_L1_scan _ _ _ _ _ (by have:=hz.2;omega)]
   refine scan_tot (λ_ s=>s.Pos=y.Pos∧s.Neg.Counts.length=z.Neg.Counts.length) ⟨hz.1,rfl⟩ (λs hs=>hj5 _ ⟨by rw [hs.1];exact hy.p,by have:=hz.2;omega⟩) λi x s k hi hs hk=>?_
   refine (At_tot hp.a.n _).bind λ_ _=>(At_tot hp.b.n _).bind λ_ _=>(idx_some (by omega) (by rw [hs.2];omega)).bind λ_ _=>hk _ ⟨hs.1,?_⟩
   dsimp only;rw [setI_len];exact hs.2
  ·unfold mkL
   rw [if_pos (by omega),bndS];refine hj4 _ ⟨rfl,?_⟩;dsimp only;rw [List.length_replicate];omega
 ·refine (cover_tot hp.ap hp.bp).bind λc hc=>Tot.ite (λ_=>.some .z) λh1=>Tot.ite (λ_=>hj2 _ ⟨Nat.zero_le _,Nat.zero_le _⟩) λ_=>?_
  refine Tot.jn (R:=λz=>z.Neg.Counts.length≤160∧z.Pos.Counts.length≤160) (λz hz=>?_) λj4 hj4=>?_
  ·refine Tot.jn (R:=LH) (λv hv=>hj2 _ hv) λj5 hj5=>?_
   rw [m_fold_Merge_L2_scan _ _ _ _ _ (by have:=hz.2;omega)]
   refine scan_tot (λ_ s=>s.Neg=z.Neg∧s.Pos.Counts.length=z.Pos.Counts.length) ⟨rfl,rfl⟩ (λs hs=>hj5 _ ⟨by have:=hz.2;omega,by rw [hs.1];have:=hz.1;omega⟩) λi x s k hi hs hk=>?_
   refine (At_tot hp.a.p _).bind λ_ _=>(At_tot hp.b.p _).bind λ_ _=>(idx_some (by omega) (by rw [hs.2];omega)).bind λ_ _=>hk _ ⟨hs.1,?_⟩
   dsimp only;rw [setI_len];exact hs.2
  ·unfold mkL
   rw [if_pos (by omega),bndS];refine hj4 _ ⟨Nat.zero_le _,?_⟩;dsimp only;rw [List.length_replicate];omega
abbrev hE (k:Nat):T_api_Hist:=⟨-(k:Int),0,⟨0,[]⟩,⟨0,[]⟩⟩
theorem hE_ok {k:Nat} (hk:k≤10):hcE (hE k)=0:=by
 unfold hcE sdE
 have:¬(-(k:Int) < -10∨-(k:Int)>20):=by omega
 rw [if_neg this];simp [totN,sumN]
theorem hE_down {k:Nat} (hk:k<10):∃ r,m_hist_Down (hE k) 1=some (hE (k+1),r):=by
 unfold m_hist_Down;rw [HCheck_eq _ (Nat.zero_le _) (Nat.zero_le _),bndS,hE_ok (by omega),if_neg (by simp),jn_eq,if_neg (by omega)];dsimp only;rw [W64_id (z:=-(k:Int) - -10) (by omega) (by omega),if_neg (by simp;omega)];rw [show m_hist_down (hE k).Pos (toU64 1)=some ⟨0,[]⟩ from rfl,bndS,bndS,W64_id (by omega) (by omega)];exact ⟨0,by rw [show -(k:Int)-1=-((k+1:Nat):Int) by omega]⟩
def stepsH (h:T_api_Hist) (m:Nat):Prop:=(∃ k:Nat,k≤10∧h=hE k∧10≤k+m)∨(hcE h≠0∧11≤m)∨(hcE h=0∧h.Scale+22≤m)
end Go.Proofs.YtaikmpmokihciaaGreat
set_option maxRecDepth 20000
set_option linter.unusedVariables false
set_option linter.unusedSimpArgs false
namespace Go.Proofs.YtaikmpmokihciaaGreat
open Go Go.RowKit Go.Wk
theorem bits_tot (x:UInt64):Tot (λ_=>True) (m_num_bits x):=by
 unfold m_num_bits m_num_Canon m_num_Odd;rw [bndS]
 split
 ·exact .some trivial
 ·exact .some trivial
theorem nparts_tot (x:UInt64×UInt64):Tot (λ_=>True) (m_num_parts x):=by
 unfold m_num_parts
 exact (bits_tot _).bind λ_ _=>(bits_tot _).bind λ_ _=>.some trivial
theorem nsubp_tot (a b c d:UInt64):Tot (λ_=>True) (m_num_SubPhasor a b c d):=by
 unfold m_num_SubPhasor m_num_phasor m_num_of;simp only [bndS]
 exact (nparts_tot _).bind λ_ _=>.some trivial
theorem Few.h {p:Pt} (hp:Few p):LH p.Hist:=⟨hp.p,hp.n⟩
abbrev ptZ:Pt:=⟨[],[],0,0,false,0,0,0,0,0,hZ,0⟩
theorem few0:Few ptZ:=⟨Nat.zero_le _,Nat.zero_le _,Nat.zero_le _⟩
end Go.Proofs.YtaikmpmokihciaaGreat
set_option maxRecDepth 20000
set_option linter.unusedVariables false
set_option linter.unusedSimpArgs false
namespace Go.Proofs.YtaikmpmokihciaaGreat
open Go Go.RowKit Go.Wk
abbrev Cv:=T_convert_Converter
abbrev St:=T_api_State
def rdN (out t:Int):Nat:=if t=1∧out=2 then 79 else if t=2∧out=1 then 80 else 81
theorem road_eq (a b c d e f g:Int) (p:Pt):m_convert_Converter_road_s2 a b c d e f g p=some (rdN a p.Temp):=by
 unfold m_convert_Converter_road_s2 rdN
 split
 ·rfl
 ·split<;>rfl
def fitT (p:Pt) (bk:Int):Option (Int×Pt):=
 if (if (keyR p).2=0∧p.Flags≠0 then (3:Int) else (keyR p).2)=0∧p.Kind=4 then (m_hist_Fit p.Hist bk).bind λr=>some (r.2,{ p with Hist:=r.1 })
 else some (if (keyR p).2=0∧p.Flags≠0 then (3:Int) else (keyR p).2,p)
def tailT (c:Cv) (K:List UInt8) (e:Int) (p:Pt):Option (Pt×Int×Cv):=
 if e≠0 then some (ptZ,e,c)
 else (m_table_Table_convert_kept_Get c.states K).bind λp52=>
  jn (λ(y67:Bool)=>if y67=true then some (ptZ,6,c) else
   jn (λ(y85:Int) (y86:St) (y88:Pt)=>if y85≠0 then some (ptZ,y85,c) else (m_convert_bare p).bind λp124=>(m_table_Table_convert_kept_Put c.states K { State:=y86,series:=p124 }).bind λp129=>some (y88,0,{ cfg:=c.cfg,states:=p129.2 })) λj4=>
    (m_convert_Converter_road_s2 c.cfg.Out c.cfg.Series c.cfg.Buckets c.cfg.Points c.cfg.Bytes c.cfg.Disk c.cfg.Window p).bind λf=>(m_fc_1 f p52.1.State p c.cfg.Buckets).bind λr=>j4 r.2.2 r.1 r.2.1) λj3=>
  if (!p52.2)=true then (m_table_Table_convert_kept_Room c.states).bind λp581=>j3 (decide (p581=0)) else j3 false
theorem Take_eq (c:Cv) {p:Pt} (hp:Few p):m_convert_Converter_Take c p=(fitT p c.cfg.Buckets).bind λx=>tailT c (keyR p).1 x.1 x.2:=by
 unfold m_convert_Converter_Take fitT;rw [key_eq p hp.p hp.n,bndS,jn_eq];have main:∀ E:Int,(jn (λ(y26:Int) (y27:Pt)=>tailT c (keyR p).1 y26 y27) λj2=>if E=0∧p.Kind=4 then (m_hist_Fit p.Hist c.cfg.Buckets).bind λr=>j2 r.2 { p with Hist:=r.1 } else j2 E p) =
  (if E=0∧p.Kind=4 then (m_hist_Fit p.Hist c.cfg.Buckets).bind λr=>some (r.2,{ p with Hist:=r.1 }) else some (E,p)).bind λx=>tailT c (keyR p).1 x.1 x.2:=by
  intro E;rw [jn_eq]
  split
  ·cases m_hist_Fit p.Hist c.cfg.Buckets<;>rfl
  ·rfl
 by_cases h1:(keyR p).2=0∧p.Flags≠0
 ·rw [if_pos h1,if_pos h1]
  exact main 3
 ·rw [if_neg h1,if_neg h1]
  exact main _
def st0:St:=⟨false,0,0,0,0,0,hZ⟩
def stO (c:Cv) (K:List UInt8):Option St:=(lookP K c.states.m).map λx=>x.v.State
theorem get_eq (c:Cv) (K:List UInt8):∃ r,m_table_Table_convert_kept_Get c.states K=some r∧r.1.State=(stO c K).getD st0∧r.2=(stO c K).isSome:=by
 unfold m_table_Table_convert_kept_Get stO;refine ⟨_,rfl,?_⟩
 cases lookP K c.states.m with
 | none=>exact ⟨rfl,rfl⟩
 | some x=>exact ⟨rfl,rfl⟩
theorem putP_len {α:Type} (k:List UInt8) (x:α):∀ l:Kv α,(putP k x l).length≤l.length+1
 | []=>by simp [putP]
 | p::r=>by
  unfold putP
  split
  ·simp
  ·have:=putP_len k x r
   simp only [List.length_cons]
   omega
theorem lookP_put {α:Type} (k k':List UInt8) (x:α):∀ l:Kv α,lookP k' (putP k x l)=if k=k' then some x else lookP k' l
 | []=>by
  unfold putP lookP
  by_cases h:k=k'
  ·rw [if_pos h];simp [h]
  ·rw [if_neg h];simp [h]
 | p::r=>by
  have ih:=lookP_put k k' x r;unfold putP
  by_cases h1:p.1=k
  ·rw [if_pos h1]
   unfold lookP
   by_cases h:k=k'
   ·rw [if_pos h];simp [h]
   ·have h2:¬p.1=k':=λhh=>h (h1.symm.trans hh)
    rw [if_neg h];simp [h,h2]
  ·rw [if_neg h1]
   unfold lookP at ih ⊢
   by_cases h2:p.1=k'
   ·have h:¬k=k':=λhh=>h1 (h2.trans hh.symm)
    rw [if_neg h];simp [h2]
   ·simp only [List.find?_cons,h2,decide_false]
    exact ih
theorem bare_tot {p:Pt} (hp:Few p):∃ r,m_convert_bare p=some r:=by
 unfold m_convert_bare;rw [clone_pt p hp,bndS];exact ⟨_,rfl⟩
theorem scan_totM {α S R:Type} {l:List α} {s:S} {B:Nat→α→S→(S→Option R)→Option R} {J:S→Option R} {Q:R→Prop} (I:Nat→S→Prop) (h0:I 0 s) (hJ:∀ s,I l.length s→Tot Q (J s))
 (hB:∀ i x s k,i<l.length→x∈l→I i s→(∀ s',I (i+1) s'→Tot Q (k s'))→Tot Q (B i x s k)):Tot Q (scanL l s B J):=by
 have key:∀ (m:List α) (i:Nat) (s:S),(∀ x∈m,x∈l)→i+m.length=l.length→I i s→Tot Q (scan B J i m s):=by
  intro m
  induction m with
  | nil=>
   intro i s _ hi hI;exact hJ s (by rw [← hi];exact hI)
  | cons x m ih=>
   intro i s hm hi hI;rw [List.length_cons] at hi
   exact hB i x s _ (by omega) (hm x (by simp)) hI λs' hs=>ih (i+1) s' (λy hy=>hm y (by simp [hy])) (by omega) hs
 exact key l 0 s (λ_ h=>h) (by omega) h0
theorem some_tot (l:List Pt) {n:Int} (hn:n≤1000):Tot (λb=>b=true→(l.length:Int)≤n∧∀ p∈l,Few p) (m_limnographref12_Some l n):=by
 unfold m_limnographref12_Some
 refine Tot.ite (λ_=>.some λh=>by simp at h) λh=>?_
 rw [jn_eq,m_limnographref12_Some_L1_scan _ _ (by omega)];have e:(λ(_:Nat) (xx:Pt) (_:Unit) (kk:Unit→Option Bool)=>(some xx).bind λz8=>(m_limnographref12_Light z8).bind λp17=>if (!p17)=true then some false else kk ()) =
  λ_ xx _ kk=>if (decide (xx.Name.length≤100)&&light xx.Attrs&&decide (xx.Hist.Pos.Counts.length≤300∧xx.Hist.Neg.Counts.length≤300))=true then kk () else some false:=by
  funext _ xx _ kk
  rw [bndS,light12,bndS]
  cases (decide (xx.Name.length≤100)&&light xx.Attrs&&decide (xx.Hist.Pos.Counts.length≤300∧xx.Hist.Neg.Counts.length≤300))<;>rfl
 rw [e,scanL_all (λxx:Pt=>decide (xx.Name.length≤100)&&light xx.Attrs&&decide (xx.Hist.Pos.Counts.length≤300∧xx.Hist.Neg.Counts.length≤300)) (some false) (λ_ _ _ _=>rfl)]
 split
 ·rename_i h1
  refine .some λ_=>⟨by omega,λp hp=>?_⟩
  exact (light_few (List.all_eq_true.1 h1 p hp)).1
 ·exact .some λh=>by simp at h
theorem awake_eq:m_limnographlaw17_awake=some true:=by decide +kernel
theorem new_eq (cfg:T_api_Config):m_convert_New cfg=some (if decide ((((((cfg.Out≥0)∧(cfg.Out≤2))∧(cfg.Series≥1))∧(cfg.Series≤16))∧(cfg.Buckets≥1))∧(cfg.Buckets≤160))=true then some ⟨cfg,⟨max cfg.Series 0,0,[]⟩⟩ else none):=by
 unfold m_convert_New m_convert_Good m_table_New_convert_kept;rw [bndS];generalize decide ((((((cfg.Out≥0)∧(cfg.Out≤2))∧(cfg.Series≥1))∧(cfg.Series≤16))∧(cfg.Buckets≥1))∧(cfg.Buckets≤160))=d
 cases d<;>rfl
end Go.Proofs.YtaikmpmokihciaaGreat
set_option maxRecDepth 20000
set_option linter.unusedVariables false
set_option linter.unusedSimpArgs false
namespace Go.Proofs.YtaikmpmokihciaaGreat
open Go Go.RowKit Go.Wk
theorem sumN_app (a b:List UInt64):sumN (a++b)=sumN a+sumN b:=by simp [sumN]
theorem sumN_rep (k:Nat):sumN (List.replicate k 0)=0:=by
 induction k with
 | zero=>rfl
 | succ k ih=>rw [List.replicate_succ,sumN_cons,ih];rfl
theorem sumN_le {l:List UInt64} {j:Nat} {z:UInt64} (h:l[j]?=some z):z.toNat≤sumN l:=by
 induction l generalizing j with
 | nil=>simp at h
 | cons a l ih=>
  rw [sumN_cons]
  cases j with
  | zero=>simp at h;subst h;omega
  | succ j=>have:=ih (by simpa using h);omega
theorem sumN_set {l:List UInt64} {j:Nat} {z:UInt64} (h:l[j]?=some z) (y:UInt64):sumN (l.set j y)+z.toNat=sumN l+y.toNat:=by
 induction l generalizing j with
 | nil=>simp at h
 | cons a l ih=>
  cases j with
  | zero=>simp at h;subst h;rw [List.set_cons_zero,sumN_cons,sumN_cons];omega
  | succ j=>rw [List.set_cons_succ,sumN_cons,sumN_cons];have:=ih (j:=j) (by simpa using h);omega
theorem u64_add {x y:UInt64} (h:x.toNat+y.toNat<2^64):(x+y).toNat=x.toNat+y.toNat:=by
 rw [UInt64.toNat_add];exact Nat.mod_eq_of_lt h
theorem u64_nz {x:UInt64}:x≠0↔0<x.toNat:=by
 constructor
 ·intro h
  rcases Nat.eq_zero_or_pos x.toNat with h0|h0
  ·exact absurd (UInt64.toNat_inj.1 h0) h
  ·exact h0
 ·rintro h rfl
  exact absurd h (by decide)
structure RS (s:T_api_Side):Prop where
 b:BS s
 z:s.Counts=[]→s.Offset=0
 e:s.Counts≠[]→s.Offset+s.Counts.length-1≤1073741824
 f:∀ x,s.Counts[0]?=some x→x≠0
 g:∀ x,s.Counts[s.Counts.length-1]?=some x→x≠0
theorem headD_get (l:List UInt64):l.headD 0=(l[0]?).getD 0:=by cases l<;>rfl
theorem lastD_get (l:List UInt64):l.getLastD 0=(l[l.length-1]?).getD 0:=by
 rw [← List.getLast?_eq_getElem?]
 cases l with
 | nil=>rfl
 | cons a t=>rw [List.getLastD_cons,List.getLast?_eq_some_getLast (by simp),List.getLast_eq_getLastD];rfl
theorem RS.of {s:T_api_Side} (h:sdE s=0):RS s:=by
 have ⟨hb,he⟩:=sd_ok h;unfold sdE at h
 split at h
 ·simp at h
 rename_i h1
 split at h
 ·rename_i h2
  have hz:s.Offset=0:=by
   split at h
   ·simp at h
   ·rename_i h3;exact Decidable.not_not.1 h3
  exact ⟨hb,λ_=>hz,λhn=>absurd h2 hn,λx hx=>by rw [h2] at hx;simp at hx,λx hx=>by rw [h2] at hx;simp at hx⟩
 ·rename_i h2
  split at h
  ·simp at h
  rename_i h3
  refine ⟨hb,λhn=>absurd hn h2,he,λx hx hx0=>h3 (.inl ?_),λx hx hx0=>h3 (.inr ?_)⟩
  ·rw [headD_get,hx];exact hx0
  ·rw [lastD_get,hx];exact hx0
theorem RS.to {s:T_api_Side} (h:RS s):sdE s=0:=by
 have:=h.b.l;have:=h.b.a;have:=h.b.b;unfold sdE;rw [if_neg (by omega)]
 by_cases h2:s.Counts=[]
 ·rw [if_pos h2,if_neg (by rw [h.z h2];simp)]
 ·have hl:0<s.Counts.length:=List.length_pos_iff.2 h2
  have he:=h.e h2;rw [if_neg h2,if_neg,if_neg (by omega)];rintro (h3|h3)
  ·rw [headD_get,List.getElem?_eq_getElem hl] at h3
   exact h.f _ (List.getElem?_eq_getElem hl) h3
  ·rw [lastD_get,List.getElem?_eq_getElem (by omega)] at h3
   exact h.g _ (List.getElem?_eq_getElem (by omega)) h3
structure RH (h:T_api_Hist):Prop where
 lo:-10≤h.Scale
 hi:h.Scale≤20
 p:RS h.Pos
 n:RS h.Neg
 t:totN h<2^64
theorem RH.of {h:T_api_Hist} (hh:hcE h=0):RH h:=by
 obtain ⟨a,b,c,d⟩:=hc_ok hh;refine ⟨a,b,.of c,.of d,?_⟩;unfold hcE at hh;rw [if_neg (by omega),if_neg (λk=>k c),if_neg (λk=>k d)] at hh
 split at hh
 ·assumption
 ·simp at hh
theorem RH.to {h:T_api_Hist} (r:RH h):hcE h=0:=by
 have:=r.lo;have:=r.hi;unfold hcE;rw [if_neg (by omega),if_neg (λk=>k r.p.to),if_neg (λk=>k r.n.to),if_pos r.t]
theorem RS.nil:RS ⟨0,[]⟩:=⟨.z,λ_=>rfl,λh=>absurd rfl h,λx hx=>by simp at hx,λx hx=>by simp at hx⟩
theorem RH.zero:RH hZ:=⟨by decide,by decide,.nil,.nil,by decide⟩
theorem RH.l {h:T_api_Hist} (r:RH h):LH h:=⟨by have:=r.p.b.l;omega,by have:=r.n.b.l;omega⟩
structure DnR (s r:T_api_Side):Prop where
 ok:RS r
 le:r.Counts.length≤s.Counts.length
 sm:sumN r.Counts=sumN s.Counts
theorem take_sum {l:List UInt64} {i:Nat} {x:UInt64} (h:l[i]?=some x):sumN (l.take (i+1))=sumN (l.take i)+x.toNat:=by
 rw [List.take_add_one,h,sumN_app];simp [sumN]
theorem take_le (l:List UInt64) (i:Nat):sumN (l.take i)≤sumN l:=by
 have:=sumN_app (l.take i) (l.drop i);rw [List.take_append_drop] at this
 omega
theorem getE {α:Type} {l:List α} {i:Int} {z:α} (h:idx l i=some z):0≤i∧l[i.toNat]?=some z:=by
 unfold idx at h
 split at h
 ·rename_i h0;exact ⟨h0,h⟩
 ·cases h
theorem idx_get {α:Type} {l:List α} {i:Int} (h0:0≤i) (h1:i<l.length):Tot (λx=>l[i.toNat]?=some x) (idx l i):=by
 obtain ⟨x,hx⟩:=idx_lt h0 h1;exact ⟨x,hx,(getE hx).2⟩
structure DnI (s:T_api_Side) (P:Nat) (i:Nat) (y:T_api_Side):Prop where
 o:y.Offset=s.Offset/(P:Int)
 l:(y.Counts.length:Int)=(s.Offset+(s.Counts.length-1:Nat))/(P:Int)-s.Offset/(P:Int)+1
 sm:sumN y.Counts=sumN (s.Counts.take i)
 f:0<i→∀ x,y.Counts[0]?=some x→x≠0
 g:i=s.Counts.length→∀ x,y.Counts[y.Counts.length-1]?=some x→x≠0
theorem dn_L1 {s:T_api_Side} (hs:RS s) (hn:s.Counts≠[]) (ht:sumN s.Counts<2^64) {k:Nat} (hk:k≤30) {β:Type} {Q:T_api_Side→Prop} (j:T_api_Side→Option T_api_Side)
 (hj:∀ y:T_api_Side,DnI s (2^k) s.Counts.length y→Tot Q (j y)) :
 ∀ m i n (y:T_api_Side),i+m=s.Counts.length→DnI s (2^k) i y→Tot Q (m_hist_down_L1 s (toU64 (k:Int)) j (n+m+1) (i:Int) y):=by
 obtain ⟨h1,h2,h3⟩:=hs.b;have h4':=hs.e hn;have hP:0<2^k:=Nat.pow_pos (by omega);obtain ⟨d3,d4⟩:=div_small (o:=s.Offset) hP h2 h3;intro m
 induction m with
 | zero=>
  intro i n y hi hI;rw [Nat.add_zero,m_hist_down_L1,if_neg (by omega)];exact hj y (by rw [← hi];exact hI)
 | succ m ih=>
  intro i n y hi hI;have ho:=hI.o;have hl:=hI.l;rw [m_hist_down_L1,if_pos (by omega),W64_id (z:=s.Offset+(i:Int)) (by omega) (by omega),shr_div _ hk];obtain ⟨d5,d6⟩:=div_add (o:=s.Offset) hP i;have d7:(s.Offset+(i:Int))/((2^k:Nat):Int)≤(s.Offset+(s.Counts.length-1:Nat))/((2^k:Nat):Int):=Int.ediv_le_ediv (by omega) (by omega);rw [ho,W64_id (z:=(s.Offset+(i:Int))/((2^k:Nat):Int)-_) (by omega) (by omega)]
  refine (idx_get (by omega) (by omega)).bind λx hx=>(idx_get (by omega) (by omega)).bind λz hz=>(idx_get (by omega) (by omega)).bind λz2 _=>?_
  rw [show W64 ((i:Int)+1)=((i+1:Nat):Int) by rw [W64_id (by omega) (by omega)];rfl]
  have hxi:s.Counts[i]?=some x:=by simpa using hx
  have t1:=take_sum hxi;have t2:=take_le s.Counts (i+1);have t3:=sumN_le hz;have hsm:=hI.sm;have hadd:(z+x).toNat=z.toNat+x.toNat:=u64_add (by omega);obtain ⟨jj,hjj⟩:∃ jj:Nat,(s.Offset+(i:Int))/((2^k:Nat):Int)-s.Offset/((2^k:Nat):Int)=(jj:Int):=⟨((s.Offset+(i:Int))/((2^k:Nat):Int)-s.Offset/((2^k:Nat):Int)).toNat,by omega⟩;rw [hjj] at hz ⊢;rw [Int.toNat_natCast] at hz;refine ih (i+1) n _ (by omega) ⟨rfl,by dsimp only;rw [setI_len];exact hl,?_,?_,?_⟩
  ·show sumN (setI y.Counts (jj:Int) (z+x))=_
   unfold setI;rw [Int.toNat_natCast];have:=sumN_set hz (z+x)
   omega
  ·intro _ w hw
   have hw':(y.Counts.set jj (z+x))[0]?=some w:=by simpa [setI] using hw
   rw [List.getElem?_set] at hw'
   by_cases h0:jj=0
   ·rw [if_pos h0] at hw'
    split at hw'
    ·obtain rfl:=Option.some.inj hw'
     rw [u64_nz,hadd]
     by_cases hi0:i=0
     ·have:x≠0:=hs.f x (by rw [← hxi,hi0])
      rw [u64_nz] at this;omega
     ·have:=hI.f (by omega) z (by rw [← hz,h0])
      rw [u64_nz] at this;omega
    ·cases hw'
   ·rw [if_neg h0] at hw'
    by_cases hi0:i=0
    ·exfalso
     apply h0
     have:(s.Offset+(i:Int))=s.Offset:=by rw [hi0];simp
     rw [this] at hjj
     omega
    ·exact hI.f (by omega) w hw'
  ·intro hin w hw
   have hlen:(setI y.Counts (jj:Int) (z+x)).length=y.Counts.length:=setI_len _ _ _
   have hw':(y.Counts.set jj (z+x))[y.Counts.length-1]?=some w:=by
    have:(setI y.Counts (jj:Int) (z+x))[(setI y.Counts (jj:Int) (z+x)).length-1]?=some w:=hw;rw [hlen] at this;simpa [setI] using this
   have hjl:jj=y.Counts.length-1:=by
    have:(s.Counts.length-1:Nat)=i:=by omega
    rw [this] at hl
    omega
   rw [List.getElem?_set,if_pos hjl] at hw'
   split at hw'
   ·obtain rfl:=Option.some.inj hw'
    have:x≠0:=hs.g x (by rw [← hxi];congr 1;omega);rw [u64_nz] at this ⊢;rw [hadd];omega
   ·cases hw'
theorem dn_tot {s:T_api_Side} (hs:RS s) (ht:sumN s.Counts<2^64) {k:Nat} (hk:k≤30):Tot (DnR s) (m_hist_down s (toU64 (k:Int))):=by
 obtain ⟨h1,h2,h3⟩:=hs.b;unfold m_hist_down
 refine Tot.ite (λhl=>.some ⟨.nil,Nat.zero_le _,?_⟩) λhl=>?_
 ·have:s.Counts=[]:=List.eq_nil_of_length_eq_zero (by omega)
  rw [this]
 have hn:s.Counts≠[]:=λh=>hl (by rw [h];rfl)
 have hP:0<2^k:=Nat.pow_pos (by omega);have h0:0<s.Counts.length:=List.length_pos_iff.2 hn;have h4':=hs.e hn;obtain ⟨d1,d2⟩:=div_add (o:=s.Offset) hP (s.Counts.length-1);obtain ⟨d3,d4⟩:=div_small (o:=s.Offset) hP h2 h3;obtain ⟨_,d8⟩:=div_small (o:=s.Offset+(s.Counts.length-1:Nat)) hP (by omega) (by omega);rw [jn_eq,span_eq hs.to hn hk,bndS];unfold mkL;rw [if_pos (by omega),bndS,shr_div _ hk];dsimp only;rw [jn_eq];obtain ⟨f,hf⟩:=fuelS (s.Counts.length+1) (by omega);rw [hf];refine dn_L1 (β:=Unit) hs hn ht hk (Q:=DnR s) _ (λy hy=>?_) s.Counts.length 0 f _ (by omega) ⟨rfl,?_,?_,λh=>absurd h (by omega),λh=>by omega⟩
 ·have a1:=hy.o;have a2:=hy.l;have a3:=hy.sm
  rw [List.take_length] at a3;refine .some ⟨⟨⟨by omega,by omega,by omega⟩,λhe=>?_,λ_=>by omega,hy.f h0,hy.g rfl⟩,by omega,a3⟩;rw [he] at a2;simp only [List.length_nil] at a2
  omega
 ·dsimp only
  rw [List.length_replicate];omega
 ·dsimp only
  rw [sumN_rep];rfl
structure DownV (h:T_api_Hist) (b:Int) (r:T_api_Hist×Int):Prop where
 v:RH r.1
 e:r.2=0
 s:r.1.Scale=h.Scale-b
 p:r.1.Pos.Counts.length≤h.Pos.Counts.length
 n:r.1.Neg.Counts.length≤h.Neg.Counts.length
theorem DownV_tot {h:T_api_Hist} (r:RH h) {b:Int} (h0:0≤b) (h1:b≤h.Scale+10):Tot (DownV h b) (m_hist_Down h b):=by
 have s1:=r.lo;have s2:=r.hi;have ht:=r.t;unfold totN at ht;unfold m_hist_Down;rw [HCheck_eq h r.l.p r.l.n,bndS,r.to,if_neg (by simp),jn_eq,if_neg (by omega)];dsimp only;rw [W64_id (z:=h.Scale - -10) (by omega) (by omega),if_neg (by simp;omega)];obtain ⟨k,rfl⟩:∃ k:Nat,b=(k:Int):=⟨b.toNat,by omega⟩
 refine (dn_tot r.p (by omega) (k:=k) (by omega)).bind λp hp=>(dn_tot r.n (by omega) (k:=k) (by omega)).bind λq hq=>.some ?_
 rw [W64_id (by omega) (by omega)];refine ⟨⟨by dsimp only;omega,by dsimp only;omega,hp.ok,hq.ok,?_⟩,rfl,rfl,hp.le,hq.le⟩;show h.Zero.toNat+sumN p.Counts+sumN q.Counts<2^64;rw [hp.sm,hq.sm];exact ht
end Go.Proofs.YtaikmpmokihciaaGreat
set_option maxRecDepth 20000
set_option linter.unusedVariables false
set_option linter.unusedSimpArgs false
namespace Go.Proofs.YtaikmpmokihciaaGreat
open Go Go.RowKit Go.Wk
def gA (s:T_api_Side) (x:Int):UInt64:=if s.Offset≤x then (s.Counts[(x-s.Offset).toNat]?).getD 0 else 0
theorem At_gA {s:T_api_Side} (hs:BS s) {x:Int} (h1:-4000000000≤x) (h2:x≤4000000000):m_hist_At s x=some (gA s x):=by
 have:=hs.l;have:=hs.a;have:=hs.b;unfold m_hist_At gA;rw [jn_eq]
 by_cases h:x<s.Offset
 ·rw [if_pos h,if_neg (by omega)]
  rfl
 ·rw [if_neg h,if_pos (by omega)]
  dsimp only
  have hl:((toU64 (s.Counts.length:Int)).toNat:Int)=s.Counts.length:=by
   unfold toU64;rw [UInt64.toNat_ofNat']
   omega
  rw [hl,toU64_sub,W64_id (z:=x-s.Offset) (by omega) (by omega)];have e:(x-s.Offset)%18446744073709551616=x-s.Offset:=Int.emod_eq_of_lt (by omega) (by omega);rw [e]
  by_cases h3:x-s.Offset≥s.Counts.length
  ·rw [if_pos (by simpa using h3),List.getElem?_eq_none (by omega)]
   rfl
  ·rw [if_neg (by simpa using h3)]
   obtain ⟨k,hk⟩:∃ k:Nat,x-s.Offset=(k:Int):=⟨(x-s.Offset).toNat,by omega⟩;rw [hk,Int.toNat_natCast,idx_nat,List.getElem?_eq_getElem (by omega),bndS]
   rfl
theorem gA_nil {s:T_api_Side} (h:s.Counts=[]) (x:Int):gA s x=0:=by
 unfold gA
 split
 ·rw [h];rfl
 ·rfl
theorem pad_eq {s:T_api_Side} {f:Int} {n:Nat} (h:s.Counts=[]∨(f≤s.Offset∧s.Offset+s.Counts.length≤f+n)) :
 sumN ((List.range n).map λ(j:Nat)=>gA s (f+(j:Int)))=sumN s.Counts:=by
 rcases h with h|⟨h1,h2⟩
 ·have:((List.range n).map λ(j:Nat)=>gA s (f+(j:Int)))=List.replicate n 0:=by
   rw [List.eq_replicate_iff];refine ⟨by simp,λb hb=>?_⟩;obtain ⟨j,_,rfl⟩:=List.mem_map.1 hb;exact gA_nil h _
  rw [this,sumN_rep,h];rfl
 ·have:((List.range n).map λ(j:Nat)=>gA s (f+(j:Int)))=List.replicate (s.Offset-f).toNat 0++(s.Counts++List.replicate (f+n-(s.Offset+s.Counts.length)).toNat 0):=by
   apply List.ext_getElem?
   intro j;rw [List.getElem?_map]
   by_cases hj:j<n
   ·rw [List.getElem?_range hj]
    show some (gA s (f+(j:Int)))=_;unfold gA
    by_cases c1:j<(s.Offset-f).toNat
    ·rw [if_neg (by omega),List.getElem?_append_left (by simpa using c1),List.getElem?_replicate,if_pos c1]
    ·rw [if_pos (by omega),List.getElem?_append_right (by simpa using c1),List.length_replicate]
     have e:(f+(j:Int)-s.Offset).toNat=j-(s.Offset-f).toNat:=by omega
     rw [e]
     by_cases c2:j-(s.Offset-f).toNat<s.Counts.length
     ·rw [List.getElem?_append_left c2,List.getElem?_eq_getElem c2];rfl
     ·rw [List.getElem?_append_right (by omega),List.getElem?_eq_none (by omega),List.getElem?_replicate,if_pos (by omega)]
      rfl
   ·rw [List.getElem?_eq_none (by simpa using hj),List.getElem?_eq_none (by simp;omega)]
    rfl
  rw [this,sumN_app,sumN_app,sumN_rep,sumN_rep];omega
structure CovR (u v:T_api_Side) (q:Int) (n:Nat):Prop where
 a:u.Counts=[]∨(q≤u.Offset∧u.Offset+u.Counts.length≤q+n)
 b:v.Counts=[]∨(q≤v.Offset∧v.Offset+v.Counts.length≤q+n)
 z:n=0→u.Counts=[]∧v.Counts=[]
 f:0<n→(u.Counts≠[]∧q=u.Offset)∨(v.Counts≠[]∧q=v.Offset)
 g:0<n→(u.Counts≠[]∧q+n=u.Offset+u.Counts.length)∨(v.Counts≠[]∧q+n=v.Offset+v.Counts.length)
 lo:-1073741824≤q
 hi:q≤1073741824
 e:0<n→q+n-1≤1073741824
theorem cover_ok {a b:T_api_Side} (ha:RS a) (hb:RS b):Tot (λr:Int×Int=>∃ n:Nat,r.2=n∧CovR a b r.1 n) (m_fold_cover a b):=by
 have:=ha.b.l;have:=ha.b.a;have:=ha.b.b;have:=hb.b.l;have:=hb.b.a;have:=hb.b.b
 have ne:∀ l:List UInt64,l≠[]↔0<l.length:=λl=>List.length_pos_iff.symm
 unfold m_fold_cover
 refine Tot.ite (λh1=>?_) λh1=>?_
 ·have h1':a.Counts=[]:=List.eq_nil_of_length_eq_zero (by omega)
  refine .some ⟨b.Counts.length,rfl,.inl h1',.inr ⟨by dsimp only;omega,by dsimp only;omega⟩,λh=>⟨h1',List.eq_nil_of_length_eq_zero h⟩,λh=>.inr ⟨(ne _).2 h,rfl⟩,λh=>.inr ⟨(ne _).2 h,rfl⟩,by dsimp only;omega,by dsimp only;omega,λh=>by have:=hb.e ((ne _).2 h);dsimp only;omega⟩
 ·have n1:a.Counts≠[]:=λh=>h1 (by rw [h];rfl)
  have e1:=ha.e n1
  refine Tot.ite (λh2=>?_) λh2=>?_
  ·have h2':b.Counts=[]:=List.eq_nil_of_length_eq_zero (by omega)
   refine .some ⟨a.Counts.length,rfl,.inr ⟨by dsimp only;omega,by dsimp only;omega⟩,.inl h2',λh=>absurd (List.eq_nil_of_length_eq_zero h) n1,λh=>.inl ⟨n1,rfl⟩,λh=>.inl ⟨n1,rfl⟩,by dsimp only;omega,by dsimp only;omega,λh=>by dsimp only;omega⟩
  ·have n2:b.Counts≠[]:=λh=>h2 (by rw [h];rfl)
   have e2:=hb.e n2;have l1:=(ne _).1 n1;have l2:=(ne _).1 n2;unfold m_fold_ends;rw [bndS,bndS];dsimp only;rw [W64_id (z:=a.Offset+_) (by omega) (by omega),W64_id (z:=b.Offset+_) (by omega) (by omega),W64_id (by omega) (by omega)];refine .some ⟨(max (a.Offset+a.Counts.length) (b.Offset+b.Counts.length)-min a.Offset b.Offset).toNat,by dsimp only;omega,.inr ⟨by dsimp only;omega,by dsimp only;omega⟩,.inr ⟨by dsimp only;omega,by dsimp only;omega⟩,λh=>by exfalso;omega,λh=>?_,λh=>?_,by dsimp only;omega,by dsimp only;omega,λh=>by dsimp only;omega⟩
   ·dsimp only
    rcases Int.le_total a.Offset b.Offset with c|c
    ·exact .inl ⟨n1,by omega⟩
    ·exact .inr ⟨n2,by omega⟩
   ·dsimp only
    rcases Int.le_total (a.Offset+a.Counts.length) (b.Offset+b.Counts.length) with c|c
    ·exact .inr ⟨n2,by omega⟩
    ·exact .inl ⟨n1,by omega⟩
theorem gA_get {s:T_api_Side} {k:Nat} {x:UInt64} (h:s.Counts[k]?=some x):gA s (s.Offset+k)=x:=by
 unfold gA;rw [if_pos (by omega),show (s.Offset+(k:Int)-s.Offset).toNat=k by omega,h];rfl
theorem gA_le (s:T_api_Side) (x:Int):(gA s x).toNat≤sumN s.Counts:=by
 unfold gA
 split
 ·cases h:s.Counts[(x-s.Offset).toNat]? with
  | none=>exact Nat.zero_le _
  | some y=>exact sumN_le h
 ·exact Nat.zero_le _
theorem both_ok {a b:T_api_Side} (ha:RS a) (hb:RS b) {f:Int} {n:Nat} (hc:CovR a b f n) (hn:0<n) (h160:n≤160) (ht:sumN a.Counts+sumN b.Counts<2^64) :
 RS ⟨f,(List.range n).map λ(j:Nat)=>gA a (f+(j:Int))+gA b (f+(j:Int))⟩∧sumN ((List.range n).map λ(j:Nat)=>gA a (f+(j:Int))+gA b (f+(j:Int)))=sumN a.Counts+sumN b.Counts:=by
 have add:∀ x:Int,(gA a x+gA b x).toNat=(gA a x).toNat+(gA b x).toNat:=λx=>by
  have:=gA_le a x;have:=gA_le b x;exact u64_add (by omega)
 have nz:∀ x:Int,gA a x≠0∨gA b x≠0→gA a x+gA b x≠0:=λx h=>by
  rw [u64_nz,add]
  rcases h with h|h
  ·rw [u64_nz] at h;omega
  ·rw [u64_nz] at h;omega
 have hsum:∀ l:List Nat,sumN (l.map λ(j:Nat)=>gA a (f+(j:Int))+gA b (f+(j:Int)))=sumN (l.map λ(j:Nat)=>gA a (f+(j:Int)))+sumN (l.map λ(j:Nat)=>gA b (f+(j:Int))):=by
  intro l
  induction l with
  | nil=>rfl
  | cons x l ih=>simp only [List.map_cons,sumN_cons];rw [ih,add];omega
 have first:∀ s:T_api_Side,RS s→s.Counts≠[]→f=s.Offset→gA s (f+((0:Nat):Int))≠0:=λs hs h1 h2=>by
  have hl:0<s.Counts.length:=List.length_pos_iff.2 h1;rw [h2,gA_get (List.getElem?_eq_getElem hl)];exact hs.f _ (List.getElem?_eq_getElem hl)
 have last:∀ s:T_api_Side,RS s→s.Counts≠[]→f+n=s.Offset+s.Counts.length→gA s (f+((n-1:Nat):Int))≠0:=λs hs h1 h2=>by
  have hl:0<s.Counts.length:=List.length_pos_iff.2 h1;rw [show f+((n-1:Nat):Int)=s.Offset+((s.Counts.length-1:Nat):Int) by omega,gA_get (List.getElem?_eq_getElem (by omega:s.Counts.length-1<s.Counts.length))];exact hs.g _ (List.getElem?_eq_getElem (by omega))
 have hlo:=hc.lo;have hhi:=hc.hi;have he:=hc.e hn;refine ⟨⟨⟨by simpa using h160,hlo,hhi⟩,λh=>?_,λ_=>by simp only [List.length_map,List.length_range];omega,λx hx=>?_,λx hx=>?_⟩,?_⟩
 ·have:=congrArg List.length h
  simp only [List.length_map,List.length_range,List.length_nil] at this
  omega
 ·simp only [List.getElem?_map,List.getElem?_range hn,Option.map_some] at hx
  obtain rfl:=Option.some.inj hx;refine nz _ ?_
  rcases hc.f hn with ⟨h1,h2⟩|⟨h1,h2⟩
  ·exact .inl (first a ha h1 h2)
  ·exact .inr (first b hb h1 h2)
 ·simp only [List.length_map,List.length_range] at hx
  simp only [List.getElem?_map,List.getElem?_range (by omega:n-1<n),Option.map_some] at hx;obtain rfl:=Option.some.inj hx;refine nz _ ?_
  rcases hc.g hn with ⟨h1,h2⟩|⟨h1,h2⟩
  ·exact .inl (last a ha h1 h2)
  ·exact .inr (last b hb h1 h2)
 ·rw [hsum,pad_eq hc.a,pad_eq hc.b]
structure LevV (x y:T_api_Hist) (r:T_api_Hist×T_api_Hist×Int):Prop where
 l:LevR r
 a:r.2.2=0→RH r.1
 b:r.2.2=0→RH r.2.1
 s:r.2.2=0→r.1.Scale=r.2.1.Scale
 p:r.2.2=0→r.1.Pos.Counts.length≤x.Pos.Counts.length
 n:r.2.2=0→r.1.Neg.Counts.length≤x.Neg.Counts.length
 z:RH x→RH y→r.2.2=0
theorem LevV_tot {x y:T_api_Hist} (hx:LH x) (hy:LH y):Tot (LevV x y) (m_fold_Level x y):=by
 unfold m_fold_Level;obtain ⟨f,hf⟩:=fuelS 3 (by omega);rw [jn_eq,hf];rw [m_fold_Level_L1,if_pos (by omega)];rw [show idx ([x,y]:List T_api_Hist) 0=some x from rfl,bndS,HCheck_eq x hx.p hx.n,bndS]
 refine Tot.ite (λh=>.some ⟨⟨.z,.z,.z,.z,.z,.z⟩,λh2=>absurd h2 h,λh2=>absurd h2 h,λh2=>absurd h2 h,λh2=>absurd h2 h,λh2=>absurd h2 h,λh2 _=>absurd h2.to h⟩) λh1=>?_
 rw [show W64 (0+1)=1 from rfl,m_fold_Level_L1,if_pos (by omega),show idx ([x,y]:List T_api_Hist) 1=some y from rfl,bndS,HCheck_eq y hy.p hy.n,bndS]
 refine Tot.ite (λh=>.some ⟨⟨.z,.z,.z,.z,.z,.z⟩,λh2=>absurd h2 h,λh2=>absurd h2 h,λh2=>absurd h2 h,λh2=>absurd h2 h,λh2=>absurd h2 h,λ_ h2=>absurd h2.to h⟩) λh2=>?_
 rw [show W64 (1+1)=2 from rfl,m_fold_Level_L1,if_neg (by omega)];have rx:=RH.of (Decidable.not_not.1 h1);have ry:=RH.of (Decidable.not_not.1 h2);have:=rx.lo;have:=rx.hi;have:=ry.lo;have:=ry.hi;rw [W64_id (z:=x.Scale-_) (by omega) (by omega),W64_id (z:=y.Scale-_) (by omega) (by omega)]
 refine (DownV_tot rx (by omega) (by omega)).bind λp hp=>(DownV_tot ry (by omega) (by omega)).bind λq hq=>.some ⟨⟨hp.v.l,hq.v.l,hp.v.p.b,hp.v.n.b,hq.v.p.b,hq.v.n.b⟩,λ_=>hp.v,λ_=>hq.v,λ_=>?_,λ_=>hp.p,λ_=>hp.n,λ_ _=>rfl⟩
 show p.1.Scale=q.1.Scale;rw [hp.s,hq.s];omega
theorem merge_L {a b:T_api_Side} (ha:BS a) (hb:BS b) {f:Int} (h1:-1073741824≤f) (h2:f≤1073741824) (i:Nat) (hi:i<1000) :
 m_hist_At a (W64 (f+(i:Int)))=some (gA a (f+(i:Int)))∧m_hist_At b (W64 (f+(i:Int)))=some (gA b (f+(i:Int))):=by
 rw [W64_id (by omega) (by omega)];exact ⟨At_gA ha (by omega) (by omega),At_gA hb (by omega) (by omega)⟩
theorem done_map {l:List UInt64} {n:Nat} {g:Nat→UInt64} (hl:l.length=n) (h:∀ j,j<n→l[j]?=some (g j)):l=(List.range n).map g:=by
 apply List.ext_getElem?
 intro j;rw [List.getElem?_map]
 by_cases hj:j<n
 ·rw [h j hj,List.getElem?_range hj];rfl
 ·rw [List.getElem?_eq_none (by omega),List.getElem?_eq_none (by simpa using hj)];rfl
theorem Merge_ok {x y:T_api_Hist} (hx:LH x) (hy:LH y):Tot (λr=>r.2=0→RH r.1) (m_fold_Merge x y):=by
 unfold m_fold_Merge
 refine (LevV_tot hx hy).bind λp hv=>Tot.ite (λh=>.some λh2=>absurd h2 h) λh0=>?_
 have h0':p.2.2=0:=Decidable.not_not.1 h0;have hp:=hv.l;have ra:=hv.a h0';have rb:=hv.b h0';rw [Total_eq _ hp.a.p hp.a.n,bndS,Total_eq _ hp.b.p hp.b.n,bndS];have ta:=ra.t;have tb:=rb.t
 refine Tot.ite (λ_=>.some λh=>by simp at h) λhcy=>?_
 have htt:totN p.1+totN p.2.1<2^64:=by
  unfold totE cry at hcy;rw [if_pos ta,if_pos tb] at hcy;dsimp only at hcy;rw [UInt64.toNat_ofNat',UInt64.toNat_ofNat',Nat.mod_eq_of_lt ta,Nat.mod_eq_of_lt tb] at hcy
  split at hcy
  ·exact absurd (by decide) hcy
  ·omega
 have hz:(p.1.Zero+p.2.1.Zero).toNat=p.1.Zero.toNat+p.2.1.Zero.toNat:=u64_add (by unfold totN at htt;omega);have hS:=ra.lo;have hS2:=ra.hi;have ht:=htt;unfold totN at ht
 refine Tot.jn (R:=RH) (λy hy=>.some λ_=>hy) λj hj=>?_
 refine Tot.jn (R:=λy=>y.Scale=p.1.Scale∧y.Zero=p.1.Zero+p.2.1.Zero∧RS y.Pos∧sumN y.Pos.Counts=sumN p.1.Pos.Counts+sumN p.2.1.Pos.Counts∧y.Neg=⟨0,[]⟩) (λy hy=>?_) λj2 hj2=>?_
 ·obtain ⟨y1,y2,y3,y4,y5⟩:=hy
  refine Tot.jn (R:=RH) (λz hz=>hj z hz) λj3 hj3=>?_
  refine (cover_ok ra.n rb.n).bind λc hc=>?_
  obtain ⟨n,hcn,hc⟩:=hc;rw [hcn]
  refine Tot.ite (λ_=>.some λh=>by simp at h) λh1=>Tot.ite (λhz0=>?_) λhn0=>?_
  ·obtain ⟨za,zb⟩:=hc.z (by omega)
   refine hj3 _ ⟨by omega,by omega,y3,by rw [y5];exact .nil,?_⟩;unfold totN;rw [y2,hz,y4,y5];show _+_+0<_
   omega
  ·have hn:0<n:=by omega
   obtain ⟨b1,b2⟩:=both_ok ra.n rb.n hc hn (by omega) (by omega)
   refine Tot.jn (R:=λz=>z={ y with Neg:=⟨c.1,List.replicate n 0⟩ }) (λz hzz=>?_) λj4 hj4=>?_
   ·refine Tot.jn (R:=RH) (λv hv=>hj3 _ hv) λj5 hj5=>?_
    have hzl:z.Neg.Counts.length=n:=by rw [hzz];simp
    rw [m_fold_Merge_L1_scan _ _ _ _ _ (by omega)]
    refine scan_tot (λi s=>s.Scale=y.Scale∧s.Zero=y.Zero∧s.Pos=y.Pos∧s.Neg.Offset=c.1∧s.Neg.Counts.length=n∧∀ j,j<i→s.Neg.Counts[j]?=some (gA p.1.Neg (c.1+(j:Int))+gA p.2.1.Neg (c.1+(j:Int)))) ⟨by rw [hzz],by rw [hzz],by rw [hzz],by rw [hzz],hzl,λj h=>absurd h (by omega)⟩ (λs hs=>?_) λi x s k hi hs hk=>?_
    ·obtain ⟨s1,s2,s3,s4,s5,s6⟩:=hs
     rw [hzl] at s6;have e:=done_map s5 s6;have e2:s.Neg=⟨c.1,(List.range n).map λ(j:Nat)=>gA p.1.Neg (c.1+(j:Int))+gA p.2.1.Neg (c.1+(j:Int))⟩:=(side_ext _ _).2 ⟨s4,e⟩;refine hj5 _ ⟨by omega,by omega,by rw [s3];exact y3,by rw [e2];exact b1,?_⟩;unfold totN;rw [s2,y2,hz,s3,y4,e2,b2]
     omega
    ·obtain ⟨s1,s2,s3,s4,s5,s6⟩:=hs
     obtain ⟨m1,m2⟩:=merge_L ra.n.b rb.n.b hc.lo hc.hi i (by omega);rw [m1,bndS,m2,bndS]
     refine (idx_some (by omega) (by omega)).bind λ_ _=>hk _ ⟨s1,s2,s3,s4,?_,λj hji=>?_⟩
     ·show (setI s.Neg.Counts (i:Int) _).length=n
      rw [setI_len];exact s5
     ·show (setI s.Neg.Counts (i:Int) _)[j]?=_
      unfold setI;rw [Int.toNat_natCast,List.getElem?_set]
      by_cases hij:i=j
      ·rw [if_pos hij,if_pos (by omega),hij]
      ·rw [if_neg hij];exact s6 j (by omega)
   ·unfold mkL
    rw [if_pos (by omega),bndS];refine hj4 _ ?_;rw [Int.toNat_natCast]
 ·have nil0:RS (⟨0,[]⟩:T_api_Side):=.nil
  refine (cover_ok ra.p rb.p).bind λc hc=>?_
  obtain ⟨n,hcn,hc⟩:=hc;rw [hcn]
  refine Tot.ite (λ_=>.some λh=>by simp at h) λh1=>Tot.ite (λhz0=>?_) λhn0=>?_
  ·obtain ⟨za,zb⟩:=hc.z (by omega)
   refine hj2 _ ⟨rfl,rfl,nil0,by rw [za,zb];rfl,rfl⟩
  ·have hn:0<n:=by omega
   obtain ⟨b1,b2⟩:=both_ok ra.p rb.p hc hn (by omega) (by omega)
   refine Tot.jn (R:=λz=>z=⟨p.1.Scale,p.1.Zero+p.2.1.Zero,⟨c.1,List.replicate n 0⟩,⟨0,[]⟩⟩) (λz hzz=>?_) λj4 hj4=>?_
   ·refine Tot.jn (R:=λy=>y.Scale=p.1.Scale∧y.Zero=p.1.Zero+p.2.1.Zero∧RS y.Pos∧sumN y.Pos.Counts=sumN p.1.Pos.Counts+sumN p.2.1.Pos.Counts∧y.Neg=⟨0,[]⟩) (λv hv=>hj2 _ hv) λj5 hj5=>?_
    have hzl:z.Pos.Counts.length=n:=by rw [hzz];simp
    rw [m_fold_Merge_L2_scan _ _ _ _ _ (by omega)]
    refine scan_tot (λi s=>s.Scale=p.1.Scale∧s.Zero=p.1.Zero+p.2.1.Zero∧s.Neg=⟨0,[]⟩∧s.Pos.Offset=c.1∧s.Pos.Counts.length=n∧∀ j,j<i→s.Pos.Counts[j]?=some (gA p.1.Pos (c.1+(j:Int))+gA p.2.1.Pos (c.1+(j:Int)))) ⟨by rw [hzz],by rw [hzz],by rw [hzz],by rw [hzz],hzl,λj h=>absurd h (by omega)⟩ (λs hs=>?_) λi x s k hi hs hk=>?_
    ·obtain ⟨s1,s2,s3,s4,s5,s6⟩:=hs
     rw [hzl] at s6;have e:=done_map s5 s6;have e2:s.Pos=⟨c.1,(List.range n).map λ(j:Nat)=>gA p.1.Pos (c.1+(j:Int))+gA p.2.1.Pos (c.1+(j:Int))⟩:=(side_ext _ _).2 ⟨s4,e⟩;exact hj5 _ ⟨s1,s2,by rw [e2];exact b1,by rw [e2];exact b2,s3⟩
    ·obtain ⟨s1,s2,s3,s4,s5,s6⟩:=hs
     obtain ⟨m1,m2⟩:=merge_L ra.p.b rb.p.b hc.lo hc.hi i (by omega);rw [m1,bndS,m2,bndS]
     refine (idx_some (by omega) (by omega)).bind λ_ _=>hk _ ⟨s1,s2,s3,s4,?_,λj hji=>?_⟩
     ·show (setI s.Pos.Counts (i:Int) _).length=n
      rw [setI_len];exact s5
     ·show (setI s.Pos.Counts (i:Int) _)[j]?=_
      unfold setI;rw [Int.toNat_natCast,List.getElem?_set]
      by_cases hij:i=j
      ·rw [if_pos hij,if_pos (by omega),hij]
      ·rw [if_neg hij];exact s6 j (by omega)
   ·unfold mkL
    rw [if_pos (by omega),bndS];refine hj4 _ ?_;rw [Int.toNat_natCast]
end Go.Proofs.YtaikmpmokihciaaGreat
set_option maxRecDepth 20000
set_option linter.unusedVariables false
set_option linter.unusedSimpArgs false
namespace Go.Proofs.YtaikmpmokihciaaGreat
open Go Go.RowKit Go.Wk
theorem scan_totE {α S R:Type} {l:List α} {s:S} {B:Nat→α→S→(S→Option R)→Option R} {J:S→Option R} {Q:R→Prop} (I:Nat→S→Prop) (h0:I 0 s) (hJ:∀ s,I l.length s→Tot Q (J s))
 (hB:∀ i x s k,l[i]?=some x→I i s→(∀ s',I (i+1) s'→Tot Q (k s'))→Tot Q (B i x s k)):Tot Q (scanL l s B J):=by
 have key:∀ (m:List α) (i:Nat) (s:S),m=l.drop i→i≤l.length→I i s→Tot Q (scan B J i m s):=by
  intro m
  induction m with
  | nil=>
   intro i s hm hi hI
   have:i=l.length:=by
    have:=congrArg List.length hm;simp at this
    omega
   exact hJ s (by rw [← this];exact hI)
  | cons x m ih=>
   intro i s hm hi hI
   have hx:l[i]?=some x:=by
    have:=congrArg (·[0]?) hm;simpa using this.symm
   have hlt:=(List.getElem?_eq_some_iff.1 hx).1
   refine hB i x s _ hx hI λs' hs=>ih (i+1) s' ?_ (by omega) hs
   have:=congrArg (List.drop 1) hm;simpa [List.drop_drop,Nat.add_comm] using this
 exact key l 0 s rfl (Nat.zero_le _) h0
theorem sumN_drop (l:List UInt64) (i:Nat):sumN (l.drop i)≤sumN l:=by
 have:=sumN_app (l.take i) (l.drop i);rw [List.take_append_drop] at this
 omega
structure TrimV (s q:T_api_Side):Prop where
 ok:RS q
 le:q.Counts.length≤s.Counts.length
 sm:sumN q.Counts≤sumN s.Counts
theorem Trim_ok {s:T_api_Side} (hs:BS s) (he:s.Counts≠[]→s.Offset+s.Counts.length-1≤1073741824):Tot (TrimV s) (m_hist_Trim s):=by
 have hl:=hs.l;have ha:=hs.a;have hb:=hs.b;unfold m_hist_Trim;have u1:∀ (a:Nat) (j:Int→Option T_api_Side),(∀ b:Nat,a≤b→b≤s.Counts.length→(a<b→∀ x,s.Counts[b-1]?=some x→x≠0)→Tot (TrimV s) (j (b:Int)))→∀ m b n,a+m=b→b≤s.Counts.length →
  Tot (TrimV s) (m_hist_Trim_L1 s (a:Int) j (n+m+1) (b:Int)):=by
  intro a j hj m
  induction m with
  | zero=>
   intro b n hb hl;rw [Nat.add_zero,m_hist_Trim_L1,jn_eq,if_neg (by omega)];dsimp only;rw [if_neg (by decide)];exact hj b (by omega) hl (λh=>absurd h (by omega))
  | succ m ih=>
   intro b n hb hl;rw [m_hist_Trim_L1,jn_eq,if_pos (by omega),show W64 ((b:Int)-1)=((b-1:Nat):Int) by rw [W64_id (by omega) (by omega)];omega]
   refine (idx_get (by omega) (by omega)).bind λz hz=>?_
   rw [Int.toNat_natCast] at hz;dsimp only
   refine Tot.ite (λ_=>ih (b-1) n (by omega) (by omega)) λh=>hj b (by omega) hl λ_ x hx=>?_
   rw [hz] at hx;obtain rfl:=Option.some.inj hx;rintro rfl;exact h (by decide)
 have u2:∀ (j:Int→Option T_api_Side),(∀ b:Nat,b≤s.Counts.length→(b<s.Counts.length→∀ x,s.Counts[b]?=some x→x≠0)→Tot (TrimV s) (j (b:Int)))→∀ m b n,b+m=s.Counts.length →
  Tot (TrimV s) (m_hist_Trim_L2 s j (n+m+1) (b:Int)):=by
  intro j hj m
  induction m with
  | zero=>
   intro b n hb;rw [Nat.add_zero,m_hist_Trim_L2,jn_eq,if_neg (by omega)];dsimp only;rw [if_neg (by decide)];exact hj b (by omega) (λh=>absurd h (by omega))
  | succ m ih=>
   intro b n hb;rw [m_hist_Trim_L2,jn_eq,if_pos (by omega)]
   refine (idx_get (by omega) (by omega)).bind λz hz=>?_
   rw [Int.toNat_natCast] at hz;dsimp only;rw [show W64 ((b:Int)+1)=((b+1:Nat):Int) by rw [W64_id (by omega) (by omega)];rfl]
   refine Tot.ite (λ_=>ih (b+1) n (by omega)) λh=>hj b (by omega) λ_ x hx=>?_
   rw [hz] at hx;obtain rfl:=Option.some.inj hx;rintro rfl;exact h (by decide)
 rw [jn_eq];obtain ⟨f,hf⟩:=fuelS (s.Counts.length+1) (by omega);rw [hf];refine u2 _ (λa ha1 ha2=>?_) s.Counts.length 0 f (by omega);rw [jn_eq];rw [show f+(s.Counts.length+1)=(f+a)+(s.Counts.length-a)+1 by omega];refine u1 a _ (λb hb1 hb2 hb3=>?_) (s.Counts.length-a) s.Counts.length _ (by omega) (by omega)
 refine Tot.ite (λ_=>.some ⟨.nil,Nat.zero_le _,Nat.zero_le _⟩) λhab=>?_
 unfold cutL m_slices_Clone_uint64_uint64;rw [if_pos (by omega),bndS]
 have hlt:a<b:=by omega
 have hlen:((s.Counts.take (b:Int).toNat).drop (a:Int).toNat).length=b-a:=by
  rw [List.length_drop,List.length_take];omega
 rw [app_some (by simpa using (by omega)),bndS,List.nil_append,W64_id (by omega) (by omega)]
 have hget:∀ k,k<b-a→((s.Counts.take (b:Int).toNat).drop (a:Int).toNat)[k]?=s.Counts[a+k]?:=by
  intro k hk;rw [List.getElem?_drop,Int.toNat_natCast,Int.toNat_natCast,List.getElem?_take_of_lt (by omega)]
 have hne:=he (λh=>by rw [h] at hb2;simp at hb2;omega);refine .some ⟨⟨⟨by show _≤_;rw [hlen];omega,by show _≤s.Offset+(a:Int);omega,by show s.Offset+(a:Int)≤_;omega⟩,λh=>?_,λ_=>?_,λx hx=>?_,λx hx=>?_⟩,by show _≤_;rw [hlen];omega,?_⟩
 ·have:=congrArg List.length h
  dsimp only at this;rw [hlen] at this;simp at this
  omega
 ·show s.Offset+(a:Int)+(((s.Counts.take (b:Int).toNat).drop (a:Int).toNat).length:Int)-1≤_
  rw [hlen];omega
 ·dsimp only at hx
  rw [hget 0 (by omega)] at hx;exact ha2 (by omega) x hx
 ·dsimp only at hx
  rw [hlen,hget _ (by omega)] at hx;exact hb3 hlt x (by rw [← hx];congr 1;omega)
 ·exact Nat.le_trans (sumN_drop _ _) (take_le _ _)
theorem gA_cases (s:T_api_Side) (x:Int):gA s x=0∨∃ k:Nat,x=s.Offset+k∧s.Counts[k]?=some (gA s x):=by
 unfold gA
 split
 ·rename_i h
  cases hk:s.Counts[(x-s.Offset).toNat]? with
  | none=>exact .inl rfl
  | some y=>exact .inr ⟨(x-s.Offset).toNat,by omega,hk⟩
 ·exact .inl rfl
theorem left_ok {a b:T_api_Side} (ha:RS a) (hb:RS b):Tot (λr=>r.2=true→TrimV a r.1) (m_fold_left a b):=by
 have:=ha.b.l;have:=ha.b.a;have:=ha.b.b;have:=hb.b.l;have:=hb.b.a;have:=hb.b.b;unfold m_fold_left
 refine Tot.jn (R:=λ_=>∀ (k:Nat) (y:UInt64),b.Counts[k]?=some y→y.toNat≤(gA a (b.Offset+(k:Int))).toNat) (λ_ hc=>?_) λj hj=>?_
 ·refine Tot.jn (R:=λy=>y.Offset=a.Offset∧y.Counts.length=a.Counts.length∧sumN y.Counts≤sumN a.Counts) (λy hy=>?_) λj hj=>?_
  ·obtain ⟨y1,y2,y3⟩:=hy
   refine (Trim_ok ⟨by omega,by omega,by omega⟩ (λh=>?_)).bind λr hr=>.some λ_=>⟨hr.ok,by have:=hr.le;dsimp only;omega,by have:=hr.sm;dsimp only;omega⟩
   have:=ha.e (λh2=>h (List.eq_nil_of_length_eq_zero (by rw [y2,h2];rfl)))
   omega
  ·rw [m_fold_left_L1_scan _ _ _ _ (by omega)]
   refine scan_totE (λi s=>s.Offset=a.Offset∧s.Counts.length=i∧sumN s.Counts≤sumN (a.Counts.take i)) ⟨rfl,rfl,Nat.zero_le _⟩ (λs hs=>hj _ ⟨hs.1,hs.2.1,by have:=hs.2.2;rw [List.take_length] at this;exact this⟩) λi x s k hx hs hk=>?_
   have hlt:=(List.getElem?_eq_some_iff.1 hx).1;obtain ⟨s1,s2,s3⟩:=hs;rw [bndS,W64_id (by omega) (by omega),At_gA hb.b (by omega) (by omega),bndS,app_some (by simp;omega),bndS];refine hk _ ⟨s1,by simp;omega,?_⟩;have t1:=take_sum hx
   have hle:(gA b (a.Offset+(i:Int))).toNat≤x.toNat:=by
    rcases gA_cases b (a.Offset+(i:Int)) with h|⟨k,h1,h2⟩
    ·rw [h];exact Nat.zero_le _
    ·have:=hc k _ h2
     rw [← h1,gA_get hx] at this;exact this
   have hsub:(x-gA b (a.Offset+(i:Int))).toNat=x.toNat-(gA b (a.Offset+(i:Int))).toNat:=UInt64.toNat_sub_of_le _ _ (UInt64.le_iff_toNat_le.2 hle);show sumN (s.Counts++[x-gA b (a.Offset+(i:Int))])≤_;rw [sumN_app,t1];simp only [sumN,List.map_cons,List.map_nil,List.sum_cons,List.sum_nil];rw [hsub];have s3':sumN s.Counts≤sumN (a.Counts.take i):=s3;unfold sumN at s3'
   omega
 ·rw [m_fold_left_L2_scan _ _ _ (by omega)]
  refine scan_totE (λi _=>∀ (k:Nat) (y:UInt64),k<i→b.Counts[k]?=some y→y.toNat≤(gA a (b.Offset+(k:Int))).toNat) (λk y h=>absurd h (by omega)) (λs hs=>hj _ λk y hy=>hs k y (List.getElem?_eq_some_iff.1 hy).1 hy) λi x s k hx hs hk=>?_
  have hlt:=(List.getElem?_eq_some_iff.1 hx).1;rw [bndS,W64_id (by omega) (by omega),At_gA ha.b (by omega) (by omega),bndS]
  refine Tot.ite (λ_=>.some λh=>by simp at h) λh=>hk _ λq y hq hy=>?_
  by_cases hqi:q=i
  ·subst hqi
   rw [hx] at hy;obtain rfl:=Option.some.inj hy
   omega
  ·exact hs q y (by omega) hy
structure SubV (x q:T_api_Hist):Prop where
 ok:RH q
 p:q.Pos.Counts.length≤x.Pos.Counts.length
 n:q.Neg.Counts.length≤x.Neg.Counts.length
theorem Sub_ok {x y:T_api_Hist} (hx:LH x) (hy:LH y):Tot (λr=>LH r.1∧(r.2=0→SubV x r.1)) (m_fold_Sub x y):=by
 unfold m_fold_Sub
 refine (LevV_tot hx hy).bind λp hv=>Tot.ite (λh=>.some ⟨.z,λh2=>absurd h2 h⟩) λh0=>?_
 have h0':p.2.2=0:=Decidable.not_not.1 h0;have ra:=hv.a h0';have rb:=hv.b h0';have hp:=hv.p h0';have hn:=hv.n h0';have ta:=ra.t;have s1:=ra.lo;have s2:=ra.hi;unfold totN at ta
 refine (left_ok ra.p rb.p).bind λu hu=>(left_ok ra.n rb.n).bind λv hv=>Tot.ite (λ_=>.some ⟨.z,λh=>by simp at h⟩) λh=>?_
 simp only [not_or] at h;obtain ⟨⟨g1,g2⟩,g3⟩:=h;have u1:=hu (by simpa using g2);have v1:=hv (by simpa using g3);have hz:(p.1.Zero-p.2.1.Zero).toNat=p.1.Zero.toNat-p.2.1.Zero.toNat:=UInt64.toNat_sub_of_le _ _ (UInt64.le_iff_toNat_le.2 (by omega));have a1:=u1.le;have a2:=v1.le;have a3:=u1.sm;have a4:=v1.sm;have a5:=u1.ok.b.l;have a6:=v1.ok.b.l;have ok:RH ⟨p.1.Scale,p.1.Zero-p.2.1.Zero,u.1,v.1⟩:=⟨s1,s2,u1.ok,v1.ok,by unfold totN;dsimp only;rw [hz];omega⟩;exact .some ⟨ok.l,λ_=>⟨ok,by dsimp only;omega,by dsimp only;omega⟩⟩
theorem span_len {s:T_api_Side} (hs:RS s) {k:Nat} (hk:k≤30):Tot (λv:Int=>∀ r,m_hist_down s (toU64 (k:Int))=some r→DnR s r→(r.Counts.length:Int)=v) (m_hist_span s (toU64 (k:Int))):=by
 obtain ⟨h1,h2,h3⟩:=hs.b
 by_cases hn:s.Counts=[]
 ·unfold m_hist_span
  rw [if_pos (by rw [hn];rfl)]
  refine .some λr _ hr=>?_
  have:=hr.le;rw [hn] at this;simp at this;rw [this];rfl
 ·rw [span_eq hs.to hn hk]
  refine .some λr hr _=>?_
  have hP:0<2^k:=Nat.pow_pos (by omega);have h0:0<s.Counts.length:=List.length_pos_iff.2 hn;have h4':=hs.e hn;obtain ⟨d1,d2⟩:=div_add (o:=s.Offset) hP (s.Counts.length-1)
  have key:Tot (λr:T_api_Side=>(r.Counts.length:Int)=(s.Offset+(s.Counts.length-1:Nat))/(2^k:Nat)-s.Offset/(2^k:Nat)+1) (m_hist_down s (toU64 (k:Int))):=by
   unfold m_hist_down;rw [if_neg (by omega),jn_eq,span_eq hs.to hn hk,bndS];unfold mkL;rw [if_pos (by omega),bndS,shr_div _ hk];dsimp only;rw [jn_eq];obtain ⟨f,hf⟩:=fuelS (s.Counts.length+1) (by omega);rw [hf];refine down_L1 (β:=Unit) hs.to hn hk _ (λy _ hy=>.some hy) s.Counts.length 0 f _ (by omega) rfl ?_;dsimp only;rw [List.length_replicate];omega
  obtain ⟨r',e,hr'⟩:=key;rw [e] at hr;obtain rfl:=Option.some.inj hr;exact hr'
structure FitV (b:Int) (r:T_api_Hist×Int):Prop where
 l:LH r.1
 v:r.2=0→RH r.1
 p:r.2=0→(r.1.Pos.Counts.length:Int)≤b
 n:r.2=0→(r.1.Neg.Counts.length:Int)≤b
theorem Fit_ok {h:T_api_Hist} (hl:LH h) (b:Int):Tot (FitV b) (m_hist_Fit h b):=by
 unfold m_hist_Fit;rw [HCheck_eq h hl.p hl.n,bndS]
 refine Tot.ite (λh1=>.some ⟨.z,λh2=>absurd h2 h1,λh2=>absurd h2 h1,λh2=>absurd h2 h1⟩) λh1=>?_
 have hh:hcE h=0:=Decidable.not_not.1 h1;have rh:=RH.of hh;have s1:=rh.lo;have s2:=rh.hi;have ht:=rh.t;unfold totN at ht
 have e1:W64 (h.Scale - -10)=h.Scale+10:=by rw [W64_id (by omega) (by omega)];omega
 rw [jn_eq]
 have key:∀ (j:Unit→Option (T_api_Hist×Int)),Tot (FitV b) (j ())→∀ m i n:Nat,(i:Int)+m=h.Scale+11→Tot (FitV b) (m_hist_Fit_L1 h b j (n+m+1) (i:Int)):=by
  intro j hj m
  induction m with
  | zero=>
   intro i n hi;rw [Nat.add_zero,m_hist_Fit_L1,e1,if_neg (by omega)];exact hj
  | succ m ih=>
   intro i n hi;rw [m_hist_Fit_L1,e1,if_pos (by omega)]
   refine (span_len rh.p (k:=i) (by omega)).bind λv hv=>(span_len rh.n (k:=i) (by omega)).bind λw hw=>?_
   refine Tot.ite (λhvw=>?_) λ_=>?_
   ·obtain ⟨p,hp,hpv⟩:=dn_tot rh.p (by omega) (k:=i) (by omega)
    obtain ⟨q,hq,hqv⟩:=dn_tot rh.n (by omega) (k:=i) (by omega);have l1:=hv p hp hpv;have l2:=hw q hq hqv;obtain ⟨r,hr,hrv⟩:=DownV_tot rh (b:=(i:Int)) (by omega) (by omega)
    have e2:r.1.Pos=p∧r.1.Neg=q:=by
     unfold m_hist_Down at hr;rw [HCheck_eq h hl.p hl.n,bndS,hh,if_neg (by simp),jn_eq,if_neg (by omega)] at hr;dsimp only at hr;rw [e1,if_neg (by simp;omega),hp,bndS,hq,bndS] at hr;obtain rfl:=Option.some.inj hr;exact ⟨rfl,rfl⟩
    rw [hr,bndS];refine .some ⟨hrv.v.l,λ_=>hrv.v,λ_=>?_,λ_=>?_⟩
    ·show (r.1.Pos.Counts.length:Int)≤b
     rw [e2.1];omega
    ·show (r.1.Neg.Counts.length:Int)≤b
     rw [e2.2];omega
   ·rw [show W64 ((i:Int)+1)=((i+1:Nat):Int) by rw [W64_id (by omega) (by omega)];rfl]
    exact ih (i+1) n (by omega)
 obtain ⟨f,hf⟩:=fuelS 50 (by omega);obtain ⟨m,hm⟩:∃ m:Nat,h.Scale+11=m:=⟨(h.Scale+11).toNat,by omega⟩;rw [hf,show f+50=(f+49-m)+m+1 by omega];exact key (λ_=>some (hZ,4)) (Tot.some (r:=(hZ,4)) ⟨.z,λh=>by simp at h,λh=>by simp at h,λh=>by simp at h⟩) m 0 _ (by omega)
structure TogV (b:Int) (r:T_api_Hist×Bool):Prop where
 l:LH r.1
 v:r.2=true→RH r.1
 p:r.2=true→(r.1.Pos.Counts.length:Int)≤b
 n:r.2=true→(r.1.Neg.Counts.length:Int)≤b
theorem TogV.no (b:Int):TogV b (hZ,false):=⟨.z,λh=>by simp at h,λh=>by simp at h,λh=>by simp at h⟩
theorem MergeV {x y:T_api_Hist} (hx:LH x) (hy:LH y):Tot (λr=>LH r.1∧(r.2=0→RH r.1)) (m_fold_Merge x y):=by
 obtain ⟨r,h1,h2⟩:=Merge_tot hx hy;obtain ⟨r',h3,h4⟩:=Merge_ok hx hy;rw [h1] at h3;obtain rfl:=Option.some.inj h3;exact ⟨r,h1,h2,h4⟩
theorem Together_ok (b:Int):∀ m n x y,LH x→LH y→stepsH x m→Tot (TogV b) (m_tocum_Together_L1 b (n+m+1) x y):=by
 intro m
 induction m with
 | zero=>
  intro n x y hx hy hs;rw [Nat.add_zero,m_tocum_Together_L1]
  have e:x.Scale=-10:=by
   rcases hs with ⟨k,h1,rfl,h2⟩|⟨_,h⟩|⟨h,h2⟩
   ·show -(k:Int)=-10;omega
   ·omega
   ·have:=(hc_ok h).1;omega
  refine (MergeV hx hy).bind λp hp=>Tot.ite (λ_=>.some (.no b)) λ_=>?_
  refine Tot.jn (R:=λv=>v=true→p.2=0∧max (p.1.Pos.Counts.length:Int) (p.1.Neg.Counts.length:Int)≤b) (λv hv=>Tot.ite (λh=>?_) λ_=>?_) λj hj=>Tot.ite (λh=>hj _ λh2=>⟨h,by simpa using h2⟩) λ_=>hj _ λh=>by simp at h
  ·obtain ⟨h1,h2⟩:=hv h
   exact .some ⟨hp.1,λ_=>hp.2 h1,λ_=>by dsimp only;omega,λ_=>by dsimp only;omega⟩
  ·rw [if_pos e]
   exact .some (.no b)
 | succ m ih=>
  intro n x y hx hy hs;rw [m_tocum_Together_L1]
  refine (MergeV hx hy).bind λp hp=>Tot.ite (λ_=>.some (.no b)) λ_=>?_
  refine Tot.jn (R:=λv=>v=true→p.2=0∧max (p.1.Pos.Counts.length:Int) (p.1.Neg.Counts.length:Int)≤b) (λv hv=>Tot.ite (λh=>?_) λ_=>?_) λj hj=>Tot.ite (λh=>hj _ λh2=>⟨h,by simpa using h2⟩) λ_=>hj _ λh=>by simp at h
  ·obtain ⟨h1,h2⟩:=hv h
   exact .some ⟨hp.1,λ_=>hp.2 h1,λ_=>by dsimp only;omega,λ_=>by dsimp only;omega⟩
  ·refine Tot.ite (λ_=>.some (.no b)) λe=>?_
   rcases hs with ⟨k,h1,rfl,h2⟩|⟨h,h2⟩|⟨h,h2⟩
   ·have hk:k<10:=by
     have:¬(-(k:Int)=-10):=e
     omega
    obtain ⟨r,hr⟩:=hE_down hk;rw [hr,bndS]
    refine (Down_tot hy _).bind λq hq=>ih n _ _ ⟨Nat.zero_le _,Nat.zero_le _⟩ hq.l (.inl ⟨k+1,by omega,rfl,by omega⟩)
   ·refine (Down_tot hx _).bind λp hp=>(Down_tot hy _).bind λq hq=>ih n _ _ hp.l hq.l (.inl ⟨0,by omega,?_,by omega⟩)
    rw [hp.bad h];rfl
   ·have hb:=(hc_ok h).1
    refine (Down_tot hx _).bind λp hp=>(Down_tot hy _).bind λq hq=>ih n _ _ hp.l hq.l ?_
    have hsc:=hp.good h (by omega) (by omega)
    by_cases h3:hcE p.1=0
    ·exact .inr (.inr ⟨h3,by omega⟩)
    ·exact .inr (.inl ⟨h3,by omega⟩)
theorem Tog_ok {x y:T_api_Hist} (hx:LH x) (hy:LH y) (b:Int):Tot (TogV b) (m_tocum_Together x y b):=by
 unfold m_tocum_Together
 refine (Level_tot hx hy).bind λp hp=>Tot.ite (λ_=>.some (.no b)) λ_=>?_
 obtain ⟨f,hf⟩:=fuelS 50 (by omega);rw [hf];refine Together_ok b 49 f _ _ hp.a hp.b ?_
 by_cases h:hcE p.1=0
 ·exact .inr (.inr ⟨h,by have:=(hc_ok h).2.1;omega⟩)
 ·exact .inr (.inl ⟨h,by omega⟩)
end Go.Proofs.YtaikmpmokihciaaGreat
set_option maxRecDepth 20000
set_option linter.unusedVariables false
set_option linter.unusedSimpArgs false
namespace Go.Proofs.YtaikmpmokihciaaGreat
open Go Go.RowKit Go.Wk
theorem fin_read {x:UInt64} (h:finB x=true):∃ (m k:Nat),Ieee.Format.read Ieee.double x.toNat=.number (x.toNat/9223372036854775808%2==1) m (-1074+(k:Int))∧(x.toNat%9223372036854775808=0→m=0):=by
 unfold finB at h;rw [decide_eq_true_iff] at h;unfold Ieee.Format.read
 have sw:Ieee.double.signWeight=9223372036854775808:=by decide
 have bn:Ieee.double.binade=4503599627370496:=by decide
 have ir:Ieee.double.infRung=9218868437227405312:=by decide
 have lp:Ieee.double.leastPlace=-1074:=by decide
 dsimp only;rw [sw,bn,ir,lp]
 by_cases h1:x.toNat%9223372036854775808<4503599627370496
 ·rw [if_pos h1]
  exact ⟨_,0,rfl,λh=>h⟩
 ·rw [if_neg h1,if_pos (by omega)]
  exact ⟨_,_,rfl,λh=>by omega⟩
theorem nn_read {x:UInt64} (h:finB x=true) (h2:ltZ x=false):∃ (s:Bool) (m k:Nat),Ieee.Format.read Ieee.double x.toNat=.number s m (-1074+(k:Int))∧(s=true→m=0):=by
 obtain ⟨m,k,h3,h4⟩:=fin_read h;refine ⟨_,m,k,h3,λhs=>h4 ?_⟩;unfold ltZ at h2;unfold finB at h;rw [decide_eq_true_iff] at h;rw [decide_eq_false_iff_not] at h2;have hx:=x.toNat_lt
 have:x.toNat/9223372036854775808%2=1:=by simpa using hs
 omega
theorem sg_nn {s:Bool} {m:Nat} (h:s=true→m=0) (u:Nat):0≤Ieee.signed s m u:=by
 unfold Ieee.signed
 cases s with
 | false=>rw [if_neg (by decide)];exact Int.natCast_nonneg _
 | true=>rw [h rfl];simp
theorem sg_op (s:Bool) (m u:Nat):Ieee.signed (!s) m u=- Ieee.signed s m u:=by
 unfold Ieee.signed
 cases s<;>simp
theorem ltZ_small {n:Nat} (h:n<9223372036854775808):ltZ (UInt64.ofNat n)=false:=by
 unfold ltZ;rw [decide_eq_false_iff_not,UInt64.toNat_ofNat']
 omega
theorem write_nn {t:Int} (h:0≤t) (z:Bool) (pl:Int):ltZ (UInt64.ofNat (Ieee.Format.write Ieee.double (.number (if t=0 then z else decide (t<0)) t.natAbs pl)))=false:=by
 have sw:Ieee.double.signWeight=9223372036854775808:=by decide
 have ir:Ieee.double.infRung=9218868437227405312:=by decide
 show ltZ (UInt64.ofNat (Ieee.Format.nearest Ieee.double _ _ _))=false;unfold Ieee.Format.nearest
 by_cases h0:t=0
 ·rw [if_pos h0,if_pos (by rw [h0];rfl)]
  unfold Ieee.Format.word;rw [sw]
  cases z with
  | false=>rfl
  | true=>decide
 ·rw [if_neg h0,if_neg (by omega),decide_eq_false (by omega)]
  unfold Ieee.Format.word;dsimp only;rw [if_neg (by decide),ir];exact ltZ_small (Nat.lt_of_le_of_lt (Nat.min_le_right _ _) (by decide))
theorem sum_eq (s t:Bool) (m n i j:Nat):∃ b:Int,Ieee.Datum.sum (.number s m (-1074+(i:Int))) (.number t n (-1074+(j:Int))) =
 some (.number (if Ieee.signed s m (i-min i j)+Ieee.signed t n (j-min i j)=0 then s&&t else decide (Ieee.signed s m (i-min i j)+Ieee.signed t n (j-min i j)<0)) (Ieee.signed s m (i-min i j)+Ieee.signed t n (j-min i j)).natAbs b):=by
 refine ⟨min (-1074+(i:Int)) (-1074+(j:Int)),?_⟩
 have e1:((-1074+(i:Int))-min (-1074+(i:Int)) (-1074+(j:Int))).toNat=i-min i j:=by omega
 have e2:((-1074+(j:Int))-min (-1074+(i:Int)) (-1074+(j:Int))).toNat=j-min i j:=by omega
 unfold Ieee.Datum.sum;dsimp only;rw [e1,e2]
theorem fadd_nn {a b:UInt64} (fa:finB a=true) (fb:finB b=true) (za:ltZ a=false) (zb:ltZ b=false):ltZ (fadd a b)=false:=by
 obtain ⟨s,m,i,h1,h2⟩:=nn_read fa za;obtain ⟨t,n,j,h3,h4⟩:=nn_read fb zb;unfold fadd Ieee.Format.add;rw [h1,h3];obtain ⟨pl,e⟩:=sum_eq s t m n i j;rw [e];have p1:=sg_nn h2 (i-min i j);have p2:=sg_nn h4 (j-min i j);exact write_nn (by omega) _ _
theorem fsub_nn {a b:UInt64} (fa:finB a=true) (fb:finB b=true) (h:fltLt a b=false):ltZ (fsub a b)=false:=by
 obtain ⟨m,i,h1,_⟩:=fin_read fa;obtain ⟨n,j,h3,_⟩:=fin_read fb;unfold fltLt at h;unfold fsub Ieee.Format.sub;have h':(Ieee.Datum.order (Ieee.Format.read Ieee.double a.toNat) (Ieee.Format.read Ieee.double b.toNat)==some .lt)=false:=h;rw [h1,h3] at h' ⊢;generalize (a.toNat/9223372036854775808%2==1)=s at *;generalize (b.toNat/9223372036854775808%2==1)=t at *
 have e1:((-1074+(i:Int))-min (-1074+(i:Int)) (-1074+(j:Int))).toNat=i-min i j:=by omega
 have e2:((-1074+(j:Int))-min (-1074+(i:Int)) (-1074+(j:Int))).toNat=j-min i j:=by omega
 have h5:(some (compare (Ieee.signed s m (i-min i j)) (Ieee.signed t n (j-min i j)))==some Ordering.lt)=false:=by
  unfold Ieee.Datum.order at h';dsimp only at h';rw [e1,e2] at h';exact h'
 have h6:¬(Ieee.signed s m (i-min i j)<Ieee.signed t n (j-min i j)):=by
  intro hlt
  have:compare (Ieee.signed s m (i-min i j)) (Ieee.signed t n (j-min i j))=.lt:=by
   simp only [compare,compareOfLessAndEq];rw [if_pos hlt]
  rw [this] at h5;exact absurd h5 (by decide)
 show ltZ (fltO (((Ieee.Datum.sum (.number s m (-1074+(i:Int))) (.number (!t) n (-1074+(j:Int)))).map Ieee.double.write)))=false;obtain ⟨pl,e⟩:=sum_eq s (!t) m n i j;rw [e];refine write_nn ?_ _ _;rw [sg_op]
 omega
theorem bits_nn (x:UInt64):Tot (λy=>ltZ x=false→ltZ y=false) (m_num_bits x):=by
 unfold m_num_bits m_num_Canon m_num_Odd;rw [bndS]
 split
 ·exact .some λ_=>by decide
 ·exact .some λh=>h
theorem nless_eq (x y:UInt64):m_num_Less x y=some (fltLt x y):=by
 unfold m_num_Less m_num_of;rw [bndS,bndS]
theorem nsub_ok (x y:UInt64):Tot (λz=>finB x=true→finB y=true→fltLt x y=false→ltZ z=false) (m_num_Sub x y):=by
 unfold m_num_Sub m_num_of;rw [bndS,bndS]
 exact (bits_nn _).bind λz hz=>.some λa b c=>hz (fsub_nn a b c)
theorem naddp_ok (a b c d:UInt64):Tot (λz=>finB a=true→finB c=true→ltZ a=false→ltZ c=false→ltZ z.1=false) (m_num_AddPhasor a b c d):=by
 unfold m_num_AddPhasor m_num_phasor m_num_of;simp only [bndS];unfold m_num_parts
 refine Tot.bind (P:=λp:UInt64×UInt64=>finB a=true→finB c=true→ltZ a=false→ltZ c=false→ltZ p.1=false) ((bits_nn _).bind λy hy=>(bits_nn _).bind λw _=>.some λh1 h2 h3 h4=>hy (fadd_nn h1 h2 h3 h4)) λp hp=>.some hp
theorem dfin_eq {l:List UInt64} (hl:l.length≤10):m_todelta_finite l=some (l.all finB):=by
 unfold m_todelta_finite;rw [jn_eq,m_todelta_finite_L1_scan _ _ (by omega)]
 have e:(λ(_:Nat) (xx:UInt64) (_:Unit) (kk:Unit→Option Bool)=>(some xx).bind λz7=>(m_num_Finite z7).bind λp9=>if (!p9)=true then some false else kk ())=λ_ xx _ kk=>if finB xx=true then kk () else some false:=by
  funext _ xx _ kk
  rw [bndS,fin_eq,bndS]
  cases finB xx<;>rfl
 rw [e,scanL_all finB (some false) (λ_ _ _ _=>rfl)]
 cases l.all finB<;>rfl
theorem cfin_eq {l:List UInt64} (hl:l.length≤10):m_tocum_finite l=some (l.all finB):=by
 unfold m_tocum_finite;rw [jn_eq,m_tocum_finite_L1_scan _ _ (by omega)]
 have e:(λ(_:Nat) (xx:UInt64) (_:Unit) (kk:Unit→Option Bool)=>(some xx).bind λz7=>(m_num_Finite z7).bind λp9=>if (!p9)=true then some false else kk ())=λ_ xx _ kk=>if finB xx=true then kk () else some false:=by
  funext _ xx _ kk
  rw [bndS,fin_eq,bndS]
  cases finB xx<;>rfl
 rw [e,scanL_all finB (some false) (λ_ _ _ _=>rfl)]
 cases l.all finB<;>rfl
structure PV (p:Pt):Prop where
 c:check p.Name p.Attrs=0
 k:(p.Kind=3∧p.Temp=0)∨((p.Kind=1∨p.Kind=2∨p.Kind=4∨p.Kind=5)∧(p.Temp=1∨p.Temp=2))
 ms:p.Mono=true→p.Kind=1∨p.Kind=2
 t0:0≤p.Start
 t1:p.Time≤4503599627370496
 t2:p.Kind=3→p.Start=p.Time
 t3:p.Kind≠3→p.Start<p.Time
 oi:p.Kind≠1→p.Int_=0
 re:¬(p.Kind=2∨p.Kind=3∨p.Kind=5)→p.Re=0
 im:p.Kind≠5→p.Im=0
 oh:p.Kind≠4→p.Hist=hZ
 f0:0≤p.Flags
 f1:p.Flags≤31
 ff:p.Mono=true→p.Kind=2→finB p.Re=true
 mi:p.Mono=true→0≤p.Int_
 mr:p.Mono=true→ltZ p.Re=false
 h:p.Kind=4→RH p.Hist
theorem bare_iff (h:T_api_Hist):bareB h=true↔h=hZ:=by
 unfold bareB;rw [decide_eq_true_iff];obtain ⟨a,b,⟨c,d⟩,⟨e,f⟩⟩:=h;simp only [T_api_Hist.mk.injEq,T_api_Side.mk.injEq]
 constructor
 ·rintro ⟨h1,h2,h3,h4,h5,h6⟩;exact ⟨h1,h2,⟨h3,h5⟩,h4,h6⟩
 ·rintro ⟨h1,h2,⟨h3,h5⟩,h4,h6⟩;exact ⟨h1,h2,h3,h4,h5,h6⟩
theorem PV.of {p:Pt} (hp:pcE p=0):PV p:=by
 have hr:=pcE_ok hp;obtain ⟨c,hk,ht,ho,hh⟩:=hr;unfold kindsB at hk;unfold timesB at ht;unfold ownB at ho;rw [decide_eq_true_iff] at ht ho;obtain ⟨t1,t2,t3⟩:=ht;obtain ⟨o1,o2,o3,o4,o5,o6⟩:=ho
 have hk':(p.Kind=3∧p.Temp=0)∨((p.Kind=1∨p.Kind=2∨p.Kind=4∨p.Kind=5)∧(p.Temp=1∨p.Temp=2)):=by
  by_cases h3:p.Kind=3
  ·rw [if_pos h3,decide_eq_true_iff] at hk;exact .inl ⟨h3,hk⟩
  ·rw [if_neg h3] at hk
   simp only [Bool.and_eq_true,decide_eq_true_iff] at hk;exact .inr ⟨by omega,hk.2⟩
 unfold pcE at hp;rw [if_neg (λh=>h c),if_neg (by unfold kindsB;rw [hk];decide)] at hp
 by_cases m1:p.Mono=true∧p.Kind≠1∧p.Kind≠2
 ·rw [if_pos m1] at hp;simp at hp
 rw [if_neg m1,if_neg (by unfold timesB;rw [decide_eq_true ⟨t1,t2,t3⟩];decide),if_neg (by unfold ownB;rw [decide_eq_true ⟨o1,o2,o3,o4,o5,o6⟩];decide)] at hp
 by_cases m2:(p.Mono=true∧p.Kind=2)∧finB p.Re=false
 ·rw [if_pos m2] at hp;simp at hp
 rw [if_neg m2] at hp
 by_cases m3:p.Mono=true∧(p.Int_<0∨ltZ p.Re=true)
 ·rw [if_pos m3] at hp;simp at hp
 refine ⟨c,hk',λh=>?_,t1,t2,λh=>by rw [if_pos h] at t3;exact t3,λh=>by rw [if_neg h] at t3;exact t3,o1,o2,o3,λh=>(bare_iff _).1 (o4 h),o5,o6,λh1 h2=>?_,λh=>?_,λh=>?_,λh=>.of (hh h)⟩
 ·by_cases e:p.Kind=1∨p.Kind=2
  ·exact e
  ·exact absurd ⟨h,by omega⟩ m1
 ·cases hf:finB p.Re with
  | true=>rfl
  | false=>exact absurd ⟨⟨h1,h2⟩,hf⟩ m2
 ·rcases Int.lt_or_le p.Int_ 0 with e | e
  ·exact absurd ⟨h,.inl e⟩ m3
  ·exact e
 ·cases hf:ltZ p.Re with
  | false=>rfl
  | true=>exact absurd ⟨h,.inr hf⟩ m3
theorem PV.to {p:Pt} (v:PV p):pcE p=0:=by
 have hk:kindsB p=true:=by
  unfold kindsB
  rcases v.k with ⟨h1,h2⟩|⟨h1,h2⟩
  ·rw [if_pos h1,decide_eq_true h2]
  ·rw [if_neg (by omega),decide_eq_true (by omega),decide_eq_true h2];rfl
 have ht:timesB p=true:=by
  unfold timesB;rw [decide_eq_true_iff];refine ⟨v.t0,v.t1,?_⟩
  by_cases h:p.Kind=3
  ·rw [if_pos h];exact v.t2 h
  ·rw [if_neg h];exact v.t3 h
 have ho:ownB p=true:=by
  unfold ownB;rw [decide_eq_true_iff];exact ⟨v.oi,v.re,v.im,λh=>(bare_iff _).2 (v.oh h),v.f0,v.f1⟩
 unfold pcE;rw [if_neg (λh=>h v.c),hk,ht,ho,if_neg (by decide),if_neg,if_neg (by decide),if_neg (by decide),if_neg,if_neg]
 ·by_cases h:p.Kind=4
  ·rw [if_pos h];exact (v.h h).to
  ·rw [if_neg h]
 ·rintro ⟨h1,h2 | h2⟩
  ·have:=v.mi h1;omega
  ·rw [v.mr h1] at h2;exact absurd h2 (by decide)
 ·rintro ⟨⟨h1,h2⟩,h3⟩
  rw [v.ff h1 h2] at h3;exact absurd h3 (by decide)
 ·rintro ⟨h1,h2⟩
  have:=v.ms h1;omega
end Go.Proofs.YtaikmpmokihciaaGreat
set_option maxRecDepth 20000
set_option linter.unusedVariables false
set_option linter.unusedSimpArgs false
namespace Go.Proofs.YtaikmpmokihciaaGreat
open Go Go.RowKit Go.Wk
structure IS (mo:Bool) (s:St):Prop where
 l:LH s.Hist
 s0:0≤s.Start
 s1:s.Start≤s.Time
 i:mo=true→0≤s.Int_
 r:mo=true→finB s.Re=true∧ltZ s.Re=false∧finB s.Im=true
theorem IS.zero (mo:Bool):IS mo st0:=⟨.z,by decide,by decide,λ_=>by decide,λ_=>⟨by decide,by decide,by decide⟩⟩
theorem PV.times {p:Pt} (v:PV p):p.Start≤p.Time:=by
 by_cases h:p.Kind=3
 ·have:=v.t2 h;omega
 ·have:=v.t3 h;omega
theorem PV.fin {p:Pt} (v:PV p) (h:p.Mono=true):finB p.Re=true∧ltZ p.Re=false∧finB p.Im=true:=by
 have hk:=v.ms h;refine ⟨?_,v.mr h,?_⟩
 ·by_cases h2:p.Kind=2
  ·exact v.ff h h2
  ·rw [v.re (by omega)];decide
 ·rw [v.im (by omega)];decide
theorem IS.fresh {p:Pt} (v:PV p) (hp:Few p):IS p.Mono ⟨true,p.Start,p.Time,p.Int_,p.Re,p.Im,p.Hist⟩:=
 ⟨hp.h,v.t0,v.times,λh=>v.mi h,λh=>v.fin h⟩
theorem IS.pass {p:Pt} (v:PV p) (mo:Bool):IS mo ⟨true,p.Start,p.Time,0,0,0,hZ⟩:=
 ⟨.z,v.t0,v.times,λ_=>Int.le_refl 0,λ_=>(IS.zero true).r rfl⟩
structure FV (p:Pt) (b:Int) (q:Pt):Prop where
 v:PV q
 w:Few q
 e:∃ h,q={ p with Hist:=h }
 lp:(q.Hist.Pos.Counts.length:Int)≤b
 ln:(q.Hist.Neg.Counts.length:Int)≤b
theorem FV.same {p:Pt} {b:Int} (hb:0≤b) (v:PV p) (w:Few p) (h4:p.Kind≠4):FV p b p:=
 ⟨v,w,⟨_,rfl⟩,by rw [v.oh h4];exact hb,by rw [v.oh h4];exact hb⟩
theorem FV.fit {p:Pt} {b:Int} (v:PV p) (w:Few p) (h4:p.Kind=4) {r:T_api_Hist×Int} (hr:FitV b r) (h0:r.2=0):FV p b { p with Hist:=r.1 }:=
 ⟨⟨v.c,v.k,v.ms,v.t0,v.t1,v.t2,v.t3,v.oi,v.re,v.im,λh=>absurd h4 h,v.f0,v.f1,v.ff,v.mi,v.mr,λ_=>hr.v h0⟩,⟨w.a,hr.l.p,hr.l.n⟩,⟨_,rfl⟩,hr.p h0,hr.n h0⟩
structure NV (p:Pt) (tm b:Int) (r:St×Pt×Int):Prop where
 v:PV r.2.1
 w:Few r.2.1
 nm:r.2.1.Name=p.Name
 at_:r.2.1.Attrs=p.Attrs
 kd:r.2.1.Kind=p.Kind
 mo:r.2.1.Mono=p.Mono
 ti:r.2.1.Time=p.Time
 te:r.2.1.Temp=tm
 lp:(r.2.1.Hist.Pos.Counts.length:Int)≤b
 ln:(r.2.1.Hist.Neg.Counts.length:Int)≤b
 st:IS p.Mono r.1
theorem z31:(0:Int)≤31:=by decide
structure LV (p:Pt) (b:Int) (d:T_todelta_value×Int):Prop where
 l:LH d.1.h
 f0:0≤d.2
 f1:d.2≤31
 i:d.2=0→p.Kind≠1→d.1.i=0
 re:d.2=0→¬(p.Kind=2∨p.Kind=5)→d.1.re=0
 im:d.2=0→p.Kind≠5→d.1.im=0
 h:d.2=0→p.Kind≠4→d.1.h=hZ
 h4:d.2=0→p.Kind=4→RH d.1.h∧(d.1.h.Pos.Counts.length:Int)≤b∧(d.1.h.Neg.Counts.length:Int)≤b
 mi:d.2=0→p.Mono=true→0≤d.1.i
 mr:d.2=0→p.Mono=true→finB d.1.re=true∧ltZ d.1.re=false
theorem LV.flag {p:Pt} {b f:Int} (h0:0<f) (h1:f≤31):LV p b (⟨0,0,0,hZ⟩,f):=
 ⟨.z,by dsimp only;omega,h1,λh=>by dsimp only at h;omega,λh=>by dsimp only at h;omega,λh=>by dsimp only at h;omega,λh=>by dsimp only at h;omega,λh=>by dsimp only at h;omega,λh=>by dsimp only at h;omega,λh=>by dsimp only at h;omega⟩
theorem less_ok {p:Pt} {s:St} {b:Int} (hb:0≤b) (hv:PV p) (hw:Few p) (hi:p.Int_≤9223372036854775807) (hlp:(p.Hist.Pos.Counts.length:Int)≤b) (hln:(p.Hist.Neg.Counts.length:Int)≤b) (hs:IS p.Mono s) (h3:p.Kind≠3) :
 Tot (LV p b) (m_todelta_less p ⟨s.Int_,s.Re,s.Im,s.Hist⟩):=by
 unfold m_todelta_less;have z0:finB 0=true∧ltZ 0=false:=⟨by decide,by decide⟩
 refine Tot.ite (λh1=>?_) λh1=>Tot.ite (λh2=>?_) λh2=>Tot.ite (λh5=>?_) λh5=>?_
 ·refine Tot.ite (λ_=>.some (.flag (by omega) (by omega))) λc1=>Tot.ite (λ_=>.some (.flag (by omega) (by omega))) λc2=>?_
  refine .some ⟨.z,Int.le_refl 0,z31,λ_ h=>absurd h1 h,λ_ _=>rfl,λ_ _=>rfl,λ_ _=>rfl,λ_ h=>by omega,λ_ hm=>?_,λ_ _=>z0⟩;have a1:=hs.i hm
  have a2:s.Int_≤p.Int_:=by
   rcases Int.lt_or_le p.Int_ s.Int_ with h|h
   ·exact absurd ⟨hm,h⟩ c1
   ·exact h
  show 0≤W64 (p.Int_-s.Int_);rw [W64_id (by omega) (by omega)];omega
 ·refine (nsub_ok _ _).bind λz hz=>Tot.jn (R:=λy=>y=false→p.Mono=true→fltLt p.Re s.Re=false) (λy hy=>Tot.ite (λ_=>.some (.flag (by omega) (by omega))) λc1=>?_) λj hj=>?_
  ·rw [dfin_eq (by simp),bndS]
   refine Tot.jn (R:=λy=>y=false→p.Mono=true→finB z=true) (λy2 hy2=>Tot.ite (λ_=>.some (.flag (by omega) (by omega))) λc2=>?_) λj hj=>Tot.ite (λc=>?_) λc=>hj _ λ_ _=>?_
   ·refine .some ⟨.z,Int.le_refl 0,z31,λ_ _=>rfl,λ_ h=>absurd (.inl h2) h,λ_ _=>rfl,λ_ _=>rfl,λ_ h=>by omega,λ_ _=>Int.le_refl 0,λ_ hm=>?_⟩
    obtain ⟨f1,f2,f3⟩:=hs.r hm;refine ⟨hy2 (by simpa using c2) hm,hz (hv.fin hm).1 f1 (hy (by simpa using c1) hm)⟩
   ·rw [dfin_eq (by simp),bndS]
    refine hj _ λh hm=>?_
    obtain ⟨f1,f2,f3⟩:=hs.r hm;have:=(hv.fin hm).1;simp [f1,this] at h
   ·simpa using c
  ·refine Tot.ite (λ_=>?_) λh=>hj _ λ_ hm=>absurd hm h
   rw [nless_eq,bndS]
   exact hj _ λh _=>h
 ·have hm:p.Mono=true→False:=λhm=>by have:=hv.ms hm;omega
  refine (nsubp_tot _ _ _ _).bind λz _=>?_
  rw [dfin_eq (by simp),bndS]
  refine Tot.jn (R:=λ_=>True) (λy2 _=>Tot.ite (λ_=>.some (.flag (by omega) (by omega))) λ_=>?_) λj hj=>Tot.ite (λc=>?_) λc=>hj _ trivial
  ·exact .some ⟨.z,Int.le_refl 0,z31,λ_ _=>rfl,λ_ h=>absurd (.inr h5) h,λ_ h=>absurd h5 h,λ_ _=>rfl,λ_ h=>by omega,λ_ h=>(hm h).elim,λ_ h=>(hm h).elim⟩
  ·rw [dfin_eq (by simp),bndS]
   exact hj _ trivial
 ·have hm:p.Mono=true→False:=λhm=>by have:=hv.ms hm;omega
  refine (Sub_ok hw.h hs.l).bind λr hr=>Tot.ite (λ_=>.some (.flag (by omega) (by omega))) λc=>?_
  have v:=hr.2 (Decidable.not_not.1 c);refine .some ⟨hr.1,Int.le_refl 0,z31,λ_ _=>rfl,λ_ _=>rfl,λ_ _=>rfl,λ_ h4=>?_,λ_ _=>⟨v.ok,by have:=v.p;dsimp only;omega,by have:=v.n;dsimp only;omega⟩,λ_ h=>(hm h).elim,λ_ h=>(hm h).elim⟩;have:=hv.k;omega
theorem begins_ok (s:St) (p:Pt):Tot (λf=>0≤f∧f≤31) (m_todelta_begins s p):=by
 unfold m_todelta_begins
 exact Tot.ite (λ_=>.some ⟨by decide,by decide⟩) λ_=>Tot.ite (λ_=>.some ⟨by decide,by decide⟩) λ_=>Tot.ite (λ_=>.some ⟨by decide,by decide⟩) λ_=>.some ⟨by decide,by decide⟩
theorem begins_zero {s:St} {p:Pt}:Tot (λf=>f=0→s.Some=true) (m_todelta_begins s p):=by
 unfold m_todelta_begins
 refine Tot.ite (λ_=>.some λh=>by simp at h) λh=>?_
 have hs:s.Some=true:=by simpa using h
 exact Tot.ite (λ_=>.some λ_=>hs) λ_=>Tot.ite (λ_=>.some λ_=>hs) λ_=>.some λ_=>hs
theorem dcheck_ok (s:St) (p:Pt):Tot (λe=>e=0→s.Some=true→s.Time<p.Time) (m_todelta_check s p):=by
 unfold m_todelta_check
 refine Tot.ite (λh=>.some λ_ hs=>by rw [hs] at h;simp at h) λ_=>Tot.ite (λ_=>.some λh=>by simp at h) λh=>?_
 exact Tot.jn (R:=λ_=>True) (λy _=>Tot.ite (λ_=>.some λh=>by simp at h) λ_=>.some λ_ _=>by omega) λj hj=>Tot.ite (λ_=>hj _ trivial) λ_=>hj _ trivial
theorem dNext_ok {s:St} {p:Pt} {b:Int} (hb:0≤b) (hs:IS p.Mono s) (hp:Few p) (hv:PV p) (hi:p.Int_≤9223372036854775807) (hT:p.Temp=1) (hF:p.Flags=0) :
 Tot (λr=>r.2.2=0→NV p 2 b r∧r.1.Int_≤9223372036854775807) (m_todelta_Next s p b):=by
 have h3:p.Kind≠3:=by have:=hv.k;omega
 unfold m_todelta_Next;rw [PCheck_eq p hp.p hp.n,bndS,hv.to]
 refine Tot.jn2 (R:=λe q=>e=0→FV p b q) (λe q hq=>?_) λj hj=>?_
 ·refine Tot.jn (R:=λe2=>e2=0→FV p b q∧(s.Some=true→s.Time<q.Time)) (λe2 he2=>?_) λj hj=>?_
  ·refine Tot.ite (λh=>.some λh2=>absurd h2 h) λh=>?_
   obtain ⟨fv,hlt⟩:=he2 (Decidable.not_not.1 h);obtain ⟨v,w,⟨hh,rfl⟩,lp,ln⟩:=fv;rw [clone_pt _ w,bndS]
   refine Tot.jn (R:=λy=>IS p.Mono y∧y.Int_≤9223372036854775807) (λy hy0=>?_) λj hj=>?_
   ·obtain ⟨hy,hyi⟩:=hy0
    obtain ⟨f,hf1,hf2⟩:=begins_ok s { p with Hist:=hh };obtain ⟨f',hf1',hf3⟩:=begins_zero (s:=s) (p:={ p with Hist:=hh });rw [hf1] at hf1';obtain rfl:=Option.some.inj hf1';rw [hf1,bndS]
    refine Tot.ite (λ_=>.some λ_=>⟨⟨⟨v.c,?_,v.ms,v.t0,v.t1,v.t2,v.t3,v.oi,v.re,v.im,v.oh,hf2.1,hf2.2,v.ff,v.mi,v.mr,v.h⟩,⟨w.a,w.p,w.n⟩,rfl,rfl,rfl,rfl,rfl,rfl,lp,ln,hy⟩,hyi⟩) λh0=>?_
    ·have:=v.k;dsimp only at this ⊢;omega
    have hsome:=hf3 (Decidable.not_not.1 h0);have hlt':=hlt hsome
    refine (less_ok hb v w hi lp ln hs h3).bind λd hd=>?_
    refine Tot.jn2 (R:=λy q=>NV p 2 b (y,q,0)∧y.Int_≤9223372036854775807) (λy q h=>.some λ_=>h) λj hj=>?_
    have vq:∀ (i:Int) (re im:UInt64) (h:T_api_Hist) (f:Int),PV ⟨p.Name,p.Attrs,p.Kind,p.Temp,p.Mono,p.Start,p.Time,i,re,im,h,0⟩→0≤f→f≤31→PV ⟨p.Name,p.Attrs,p.Kind,2,p.Mono,s.Time,p.Time,i,re,im,h,f⟩:=λi re im h f u g0 g1=>
     ⟨u.c,by have:=u.k;dsimp only at this ⊢;omega,u.ms,by have:=hs.s0;have:=hs.s1;dsimp only;omega,u.t1,λe=>absurd e h3,λ_=>hlt',u.oi,u.re,u.im,u.oh,g0,g1,u.ff,u.mi,u.mr,u.h⟩
    refine Tot.ite (λhw0=>?_) λhw0=>?_
    ·have vd:PV ⟨p.Name,p.Attrs,p.Kind,p.Temp,p.Mono,p.Start,p.Time,d.1.i,d.1.re,d.1.im,d.1.h,0⟩:=
      ⟨v.c,v.k,v.ms,v.t0,v.t1,v.t2,v.t3,hd.i hw0,λh=>hd.re hw0 (by dsimp only at h ⊢;omega),hd.im hw0,hd.h hw0,Int.le_refl 0,z31,λh1 _=>(hd.mr hw0 h1).1,λh1=>hd.mi hw0 h1,λh1=>(hd.mr hw0 h1).2,λh4=>(hd.h4 hw0 h4).1⟩
     have lens:(d.1.h.Pos.Counts.length:Int)≤b∧(d.1.h.Neg.Counts.length:Int)≤b:=by
      by_cases h4:p.Kind=4
      ·exact (hd.h4 hw0 h4).2
      ·rw [hd.h hw0 h4];exact ⟨hb,hb⟩
     refine Tot.ite (λh4=>?_) λh4=>hj _ _ ⟨⟨vq _ _ _ _ _ vd hd.f0 hd.f1,⟨w.a,hd.l.p,hd.l.n⟩,rfl,rfl,rfl,rfl,rfl,rfl,lens.1,lens.2,hy⟩,hyi⟩
     refine (LevV_tot w.h hs.l).bind λl hl=>hj _ _ ⟨⟨vq _ _ _ _ _ vd hd.f0 hd.f1,⟨w.a,hd.l.p,hd.l.n⟩,rfl,rfl,rfl,rfl,rfl,rfl,lens.1,lens.2,⟨hl.l.a,hy.s0,hy.s1,hy.i,hy.r⟩⟩,hyi⟩
    ·have v0:PV ⟨p.Name,p.Attrs,p.Kind,p.Temp,p.Mono,p.Start,p.Time,p.Int_,p.Re,p.Im,hh,0⟩:=⟨v.c,v.k,v.ms,v.t0,v.t1,v.t2,v.t3,v.oi,v.re,v.im,v.oh,Int.le_refl 0,z31,v.ff,v.mi,v.mr,v.h⟩
     exact hj _ _ ⟨⟨vq _ _ _ _ _ v0 hd.f0 hd.f1,⟨w.a,w.p,w.n⟩,rfl,rfl,rfl,rfl,rfl,rfl,lp,ln,hy⟩,hyi⟩
   ·rw [hclone_eq _ w.p w.n,bndS]
    exact hj _ ⟨IS.fresh v w,hi⟩
  ·refine Tot.ite (λh0=>?_) λh0=>hj _ λh=>absurd h h0
   exact (dcheck_ok s q).bind λe2 he2=>hj _ λh=>⟨hq h0,he2 h⟩
 ·rw [if_neg (by simp),if_neg (by omega),if_neg (by omega)]
  refine Tot.ite (λh4=>?_) λh4=>hj _ _ λ_=>.same hb hv hp h4
  exact (Fit_ok hp.h b).bind λr hr=>hj _ _ λh0=>.fit hv hp h4 hr h0
theorem ccheck_ok (s:St) (p:Pt):Tot (λe=>e=0→s.Some=true→s.Time<p.Time) (m_tocum_check s p):=by
 unfold m_tocum_check
 refine Tot.jn (R:=λ_=>s.Some=true→s.Time<p.Time) (λ_ h=>.some λ_=>h) λj hj=>Tot.ite (λh=>hj _ λhs=>by rw [hs] at h;simp at h) λ_=>Tot.ite (λ_=>.some λh=>by simp at h) λh=>Tot.ite (λ_=>.some λh=>by simp at h) λ_=>hj _ λ_=>by omega
theorem answer_ok {s:St} {p:Pt} {b f:Int} (hb:0≤b) (hv:PV p) (hp:Few p) (h3:p.Kind≠3) (hs:IS p.Mono s) (f0:0≤f) (f1:f≤31) (hst:s.Start<p.Time) (hh:p.Kind=4→RH s.Hist∧(s.Hist.Pos.Counts.length:Int)≤b∧(s.Hist.Neg.Counts.length:Int)≤b) :
 Tot (λq=>NV p 1 b (s,q,0)) (m_tocum_answer s p f):=by
 unfold m_tocum_answer;rw [clone_pt p hp,bndS];have kk:=hv.k;have mk:∀ (i:Int) (re im:UInt64) (h:T_api_Hist),(p.Kind≠1→i=0)→(¬(p.Kind=2∨p.Kind=3∨p.Kind=5)→re=0)→(p.Kind≠5→im=0)→(p.Kind≠4→h=hZ)→(p.Mono=true→0≤i∧finB re=true∧ltZ re=false)→LH h→(p.Kind=4→RH h)→(h.Pos.Counts.length:Int)≤b→(h.Neg.Counts.length:Int)≤b →
  NV p 1 b (s,⟨p.Name,p.Attrs,p.Kind,1,p.Mono,s.Start,p.Time,i,re,im,h,f⟩,0):=λi re im h a1 a2 a3 a4 a5 a6 a7 a8 a9=>
  ⟨⟨hv.c,by dsimp only;omega,hv.ms,hs.s0,hv.t1,λe=>absurd e h3,λ_=>hst,a1,a2,a3,a4,f0,f1,λm _=>(a5 m).2.1,λm=>(a5 m).1,λm=>(a5 m).2.2,a7⟩,⟨hp.a,a6.p,a6.n⟩,rfl,rfl,rfl,rfl,rfl,rfl,a8,a9,hs⟩
 have z0:finB 0=true∧ltZ 0=false:=⟨by decide,by decide⟩
 refine Tot.jn (R:=λq=>NV p 1 b (s,q,0)) (λy hy=>.some hy) λj hj=>Tot.ite (λh1=>hj _ (mk _ _ _ _ (λh=>absurd h1 h) (λ_=>rfl) (λ_=>rfl) (λ_=>rfl) (λm=>⟨hs.i m,z0⟩) .z (λh=>by omega) hb hb)) λh1=>Tot.ite (λh2=>hj _ (mk _ _ _ _ (λ_=>rfl) (λh=>absurd (.inl h2) h) (λ_=>rfl) (λ_=>rfl) (λm=>⟨by decide,(hs.r m).1,(hs.r m).2.1⟩) .z (λh=>by omega) hb hb)) λh2=>Tot.ite (λh5=>hj _ (mk _ _ _ _ (λ_=>rfl) (λh=>absurd (.inr (.inr h5)) h) (λh=>absurd h5 h) (λ_=>rfl) (λm=>by have:=hv.ms m;omega) .z (λh=>by omega) hb hb)) λh5=>?_
 rw [hclone_eq s.Hist hs.l.p hs.l.n,bndS]
 have h4:p.Kind=4:=by omega
 obtain ⟨g1,g2,g3⟩:=hh h4;exact hj _ (mk _ _ _ _ (λ_=>rfl) (λ_=>rfl) (λ_=>rfl) (λh=>absurd h4 h) (λm=>by have:=hv.ms m;omega) hs.l (λ_=>g1) g2 g3)
structure CS (p:Pt) (b:Int) (s t:St):Prop where
 i:IS p.Mono t
 st:t.Start=s.Start
 ti:t.Time=p.Time
 so:t.Some=true
 h:p.Kind=4→RH t.Hist∧(t.Hist.Pos.Counts.length:Int)≤b∧(t.Hist.Neg.Counts.length:Int)≤b
theorem cNext_ok {s:St} {p:Pt} {b:Int} (hb:0≤b) (hs:IS p.Mono s) (hp:Few p) (hv:PV p) (hi:p.Int_≤9223372036854775807) (hsi:s.Int_≤9223372036854775807) (hT:p.Temp=2) (hF:p.Flags=0) :
 Tot (λr=>r.2.2=0→NV p 1 b r∧r.1.Int_≤9223372036854775807) (m_tocum_Next s p b):=by
 have h3:p.Kind≠3:=by have:=hv.k;omega
 unfold m_tocum_Next;rw [PCheck_eq p hp.p hp.n,bndS,hv.to]
 refine Tot.jn2 (R:=λe q=>e=0→FV p b q) (λe q hq=>?_) λj hj=>?_
 ·refine Tot.jn (R:=λe2=>e2=0→FV p b q∧(s.Some=true→s.Time<q.Time)) (λe2 he2=>?_) λj hj=>?_
  ·refine Tot.ite (λh=>.some λh2=>absurd h2 h) λh=>?_
   obtain ⟨fv,hlt⟩:=he2 (Decidable.not_not.1 h);obtain ⟨v,w,⟨hh,rfl⟩,lp,ln⟩:=fv;have fr:=IS.fresh v w
   refine Tot.jn2 (R:=λf y=>0≤f∧f≤31∧y.Int_≤9223372036854775807∧(f=0→s.Some=true∧CS { p with Hist:=hh } b s y)) (λf y hy=>?_) λj3 hj3=>?_
   ·obtain ⟨f0,f1,fi,fz⟩:=hy
    refine Tot.jn (R:=λy=>IS p.Mono y∧y.Start<p.Time∧y.Int_≤9223372036854775807∧(p.Kind=4→RH y.Hist∧(y.Hist.Pos.Counts.length:Int)≤b∧(y.Hist.Neg.Counts.length:Int)≤b)) (λy hy=>?_) λj hj=>?_
    ·obtain ⟨y1,y2,y3,y4⟩:=hy
     rw [hclone_eq y.Hist y1.l.p y1.l.n,bndS]
     refine (answer_ok (s:=⟨y.Some,y.Start,y.Time,y.Int_,y.Re,y.Im,y.Hist⟩) hb v w h3 ⟨y1.l,y1.s0,y1.s1,y1.i,y1.r⟩ f0 f1 y2 y4).bind λr hr=>.some λ_=>⟨?_,y3⟩
     exact ⟨hr.v,hr.w,hr.nm,hr.at_,hr.kd,hr.mo,hr.ti,hr.te,hr.lp,hr.ln,hr.st⟩
    ·refine Tot.ite (λ_=>hj _ ⟨fr,v.t3 h3,hi,λh4=>⟨v.h h4,lp,ln⟩⟩) λh0=>?_
     obtain ⟨so,cs⟩:=fz (Decidable.not_not.1 h0);have:=hlt so;refine hj _ ⟨cs.i,?_,fi,cs.h⟩;rw [cs.st];have:=hs.s1;show s.Start<p.Time;dsimp only at *
     omega
   ·refine Tot.ite (λ_=>hj3 _ _ ⟨by decide,by decide,hsi,λh=>by simp at h⟩) λhso=>Tot.ite (λ_=>hj3 _ _ ⟨by decide,by decide,hsi,λh=>by simp at h⟩) λ_=>?_
    have so:s.Some=true:=by simpa using hso
    have ht:=hlt so
    have base:∀ (i:Int) (re im:UInt64) (h:T_api_Hist),(p.Mono=true→0≤i)→(p.Mono=true→finB re=true∧ltZ re=false∧finB im=true)→LH h→(p.Kind=4→RH h∧(h.Pos.Counts.length:Int)≤b∧(h.Neg.Counts.length:Int)≤b)→CS { p with Hist:=hh } b s ⟨true,s.Start,p.Time,i,re,im,h⟩:=λi re im h a1 a2 a3 a4=>
     ⟨⟨a3,hs.s0,by have:=hs.s1;dsimp only at *;omega,a1,a2⟩,rfl,rfl,rfl,a4⟩
    refine Tot.jn2 (R:=λf y=>y.Int_≤9223372036854775807∧(f=true→CS { p with Hist:=hh } b s y)) (λf y hy=>Tot.ite (λ_=>hj3 _ _ ⟨by decide,by decide,hy.1,λh=>by simp at h⟩) λh=>hj3 _ _ ⟨by decide,by decide,hy.1,λ_=>⟨so,hy.2 (by simpa using h)⟩⟩) λj5 hj5=>?_
    refine Tot.jn (R:=λy=>y.Int_≤9223372036854775807∧CS { p with Hist:=hh } b s y) (λy hy=>hj5 _ _ ⟨hy.1,λ_=>hy.2⟩) λj6 hj6=>?_
    refine Tot.ite (λk1=>?_) λk1=>Tot.ite (λk4=>?_) λk4=>?_
    ·refine Tot.jn (R:=λy=>y=false→decide (W64 (s.Int_+p.Int_)>s.Int_)=decide (p.Int_>0)∨p.Int_=0) (λy hy=>Tot.ite (λ_=>hj5 _ _ ⟨hsi,λh=>by simp at h⟩) λc=>hj6 _ ⟨?_,base _ _ _ _ (λm=>?_) (λm=>hs.r m) hs.l (λh=>by have k1':p.Kind=1:=k1;omega)⟩) λj hj=>Tot.ite (λc=>hj _ λh=>.inr ?_) λc=>hj _ λ_=>.inl (Decidable.not_not.1 c)
     ·show W64 (s.Int_+p.Int_)≤_
      unfold W64 IntKind.wrap IntKind.signed IntKind.bits;simp
      omega
     ·have a1:=hs.i m;have a2:=v.mi m
      dsimp only at a2
      rcases hy (by simpa using c) with h|h
      ·rw [decide_eq_decide] at h
       by_cases hp0:p.Int_>0
       ·have:=h.2 hp0
        dsimp only;omega
       ·have:p.Int_=0:=by omega
        dsimp only;rw [this,W64_id (by omega) (by omega)];omega
      ·dsimp only
       rw [h,W64_id (by omega) (by omega)];omega
     ·simpa using h
    ·refine Tot.jn2 (R:=λy f=>LH y∧(f=true→RH y∧(y.Pos.Counts.length:Int)≤b∧(y.Neg.Counts.length:Int)≤b)) (λy f hy=>Tot.ite (λ_=>hj5 _ _ ⟨hsi,λh=>by simp at h⟩) λc=>hj6 _ ⟨hsi,base _ _ _ _ (λm=>hs.i m) (λm=>hs.r m) hy.1 λ_=>hy.2 (by simpa using c)⟩) λj hj=>?_
     exact (Tog_ok hs.l w.h b).bind λr hr=>hj _ _ ⟨hr.l,λh=>⟨hr.v h,hr.p h,hr.n h⟩⟩
    ·refine (naddp_ok _ _ _ _).bind λz hz=>Tot.jn (R:=λy=>y=false→p.Mono=true→finB z.1=true∧finB z.2=true) (λy hy=>Tot.ite (λ_=>hj5 _ _ ⟨hsi,λh=>by simp at h⟩) λc=>hj6 _ ⟨hsi,base _ _ _ _ (λm=>hs.i m) (λm=>?_) hs.l (λh=>absurd h k4)⟩) λj hj=>?_
     ·obtain ⟨a1,a2⟩:=hy (by simpa using c) m
      obtain ⟨f1,f2,f3⟩:=hs.r m;obtain ⟨g1,g2,g3⟩:=v.fin m;exact ⟨a1,hz f1 g1 f2 g2,a2⟩
     ·rw [cfin_eq (by simp),bndS]
      refine Tot.ite (λc=>?_) λc=>hj _ λ_ _=>?_
      ·rw [cfin_eq (by simp),bndS]
       refine hj _ λh m=>?_
       obtain ⟨f1,f2,f3⟩:=hs.r m;obtain ⟨g1,g2,g3⟩:=v.fin m;dsimp only at g1 g3;simp [f1,f3,g1,g3] at h
      ·simpa using c
  ·refine Tot.ite (λh0=>?_) λh0=>hj _ λh=>absurd h h0
   exact (ccheck_ok s q).bind λe2 he2=>hj _ λh=>⟨hq h0,he2 h⟩
 ·rw [if_neg (by simp),if_neg (by omega),if_neg (by omega)]
  refine Tot.ite (λh4=>?_) λh4=>hj _ _ λ_=>.same hb hv hp h4
  exact (Fit_ok hp.h b).bind λr hr=>hj _ _ λh0=>.fit hv hp h4 hr h0
theorem pass_ok {s:St} {p:Pt} {b:Int} (hp:Few p) (hv:PV p) (hF:p.Flags=0) (lp:(p.Hist.Pos.Counts.length:Int)≤b) (ln:(p.Hist.Neg.Counts.length:Int)≤b) :
 Tot (λr=>r.2.2=0→NV p p.Temp b r∧r.1.Int_≤9223372036854775807) (m_convert_pass s p b):=by
 unfold m_convert_pass;rw [clone_pt p hp,bndS]
 have mk:∀ f:Int,0≤f→f≤31→NV p p.Temp b (⟨true,p.Start,p.Time,0,0,0,hZ⟩,{ p with Flags:=f },0):=λf f0 f1=>
  ⟨⟨hv.c,hv.k,hv.ms,hv.t0,hv.t1,hv.t2,hv.t3,hv.oi,hv.re,hv.im,hv.oh,f0,f1,hv.ff,hv.mi,hv.mr,hv.h⟩,⟨hp.a,hp.p,hp.n⟩,rfl,rfl,rfl,rfl,rfl,rfl,lp,ln,.pass hv _⟩
 have m0:NV p p.Temp b (⟨true,p.Start,p.Time,0,0,0,hZ⟩,p,0):=by
  have m1:=mk 0 (by decide) (by decide)
  have e:({ p with Flags:=0 }:Pt)=p:=by rw [← hF]
  rw [e] at m1;exact m1
 refine Tot.jn (R:=λy=>NV p p.Temp b (⟨true,p.Start,p.Time,0,0,0,hZ⟩,y,0)) (λy hy=>.some λ_=>⟨hy,by show (0:Int)≤_;omega⟩) λj hj=>Tot.ite (λ_=>hj _ (mk 1 (by decide) (by decide))) λ_=>Tot.ite (λ_=>.some λh=>by simp at h) λ_=>Tot.ite (λ_=>.some λh=>by simp at h) λ_=>Tot.ite (λ_=>hj _ (mk 8 (by decide) (by decide))) λ_=>hj _ m0
end Go.Proofs.YtaikmpmokihciaaGreat
set_option maxRecDepth 20000
set_option linter.unusedVariables false
set_option linter.unusedSimpArgs false
namespace Go.Proofs.YtaikmpmokihciaaGreat
open Go Go.RowKit Go.Wk
abbrev Wr:=T_pack_Writer
theorem num_tot {w:Wr} {k:Nat} (h:w.b.length≤k) (hk:k≤1000000000) (v:UInt64):Tot (λr=>r.b.length≤k+9) (m_pack_Writer_Num w v):=by
 obtain ⟨b⟩:=w;refine ⟨_,wnum_eq b v (Nat.le_trans h hk),?_⟩;have:=oth_le v.toNat;have h':b.length≤k:=h;show (b++enc v).length≤k+9;rw [List.length_append,enc_len];omega
theorem int_tot {w:Wr} {k:Nat} (h:w.b.length≤k) (hk:k≤1000000000) (x:Int):Tot (λr=>r.b.length≤k+9) (m_pack_Writer_Int w x):=by
 unfold m_pack_Writer_Int m_pack_Zig;rw [bndS]
 exact (num_tot h hk _).bind λr hr=>.some hr
theorem fix_tot {w:Wr} {k:Nat} (h:w.b.length≤k) (hk:k≤1000000000) (x:UInt64):Tot (λr=>r.b.length≤k+8) (m_pack_Writer_Fix w x):=by
 unfold m_pack_Writer_Fix;rw [jn_eq]
 have key:∀ m i n (y:Wr),i+m=8→y.b.length≤k+i→Tot (λr=>r.b.length≤k+8) (m_pack_Writer_Fix_L1 x (λy2=>some y2) (n+m+1) (i:Int) y):=by
  intro m
  induction m with
  | zero=>
   intro i n y hi hy;rw [Nat.add_zero,m_pack_Writer_Fix_L1,if_neg (by omega)];exact .some (by omega)
  | succ m ih=>
   intro i n y hi hy;rw [m_pack_Writer_Fix_L1,if_pos (by omega),app_some (by simp;omega),bndS,show W64 ((i:Int)+1)=((i+1:Nat):Int) by rw [W64_id (by omega) (by omega)];rfl];refine ih (i+1) n _ (by omega) ?_;show (y.b++[_]).length≤_;rw [List.length_append];simp;omega
 obtain ⟨f,hf⟩:=fuelS 9 (by omega);rw [hf];exact key 8 0 f w (by omega) (by omega)
theorem wtext_tot {w:Wr} {k:Nat} (h:w.b.length≤k) (hk:k≤1000000000) {s:List UInt8} (hs:s.length≤10000000):Tot (λr=>r.b.length≤k+9+s.length) (m_pack_Writer_Text w s):=by
 unfold m_pack_Writer_Text
 refine (num_tot h hk _).bind λr hr=>?_
 rw [app_some (by omega),bndS];refine .some ?_;show (r.b++s).length≤_;rw [List.length_append];omega
theorem side_tot {w:Wr} {k:Nat} (h:w.b.length≤k) (hk:k≤100000000) {s:T_api_Side} (hs:s.Counts.length≤160):Tot (λr=>r.b.length≤k+1500) (m_point_side w s):=by
 unfold m_point_side
 refine (num_tot h (by omega) _).bind λr hr=>Tot.jn (R:=λy=>y.b.length≤k+18) (λy hy=>?_) λj hj=>Tot.ite (λ_=>(int_tot hr (by omega) _).bind λr2 h2=>hj _ (by omega)) λ_=>hj _ (by omega)
 refine Tot.jn (R:=λy=>y.b.length≤k+1500) (λz hz=>.some hz) λj hj=>?_
 rw [m_point_side_L1_scan _ _ _ (by omega)]
 refine scan_tot (λi s=>s.b.length≤k+18+9*i) (by simpa using hy) (λs2 h2=>hj _ (by have h9:s2.b.length≤k+18+9*s.Counts.length:=h2;omega)) λi x s2 kk hi h2 hk2=>?_
 rw [bndS]
 exact (num_tot h2 (by omega) _).bind λr hr=>hk2 _ (by omega)
theorem pbytes_tot {p:Pt} (hp:LH p.Hist):Tot (λr=>r.1.length≤100000) (m_point_Bytes p):=by
 unfold m_point_Bytes;rw [PCheck_eq p hp.p hp.n,bndS]
 refine Tot.ite (λ_=>.some (Nat.zero_le _)) λh0=>?_
 have v:=PV.of (Decidable.not_not.1 h0);have tl:=text_len v.c;unfold m_pack_NewWriter m_point_bit;rw [bndS,text_eq,bndS]
 have et:(text p.Name p.Attrs).1.length≤400:=by
  unfold text
  split
  ·show (p.Name++texts (srt p.Attrs)).length≤400
   omega
  ·exact Nat.zero_le _
 refine (wtext_tot (w:=⟨[]⟩) (k:=0) (Nat.zero_le _) (by omega) (by omega)).bind λw1 h1=>Tot.bind (P:=λ_=>True) (Tot.ite (λ_=>.some trivial) λ_=>.some trivial) λmb _=>?_
 refine Tot.jn (R:=λy=>y.b.length≤600) (λy hy=>?_) λj hj=>?_
 ·refine Tot.jn (R:=λy=>y.b.length≤100000) (λz hz=>?_) λj2 hj2=>?_
  ·unfold m_pack_Writer_Bytes m_bytes_Clone
   rw [app_some (by simp;omega),bndS,bndS];exact .some (by simpa using hz)
  ·refine Tot.ite (λ_=>(int_tot hy (by omega) _).bind λr hr=>hj2 _ (by omega)) λ_=>Tot.ite (λ_=>(fix_tot hy (by omega) _).bind λr hr=>(fix_tot hr (by omega) _).bind λr2 hr2=>hj2 _ (by omega)) λ_=>Tot.ite (λh4=>?_) λ_=>(fix_tot hy (by omega) _).bind λr hr=>hj2 _ (by omega)
   have rh:=v.h h4
   exact (int_tot hy (by omega) _).bind λr1 g1=>(num_tot g1 (by omega) _).bind λr2 g2=>(side_tot g2 (by omega) rh.p.b.l).bind λr3 g3=>(side_tot g3 (by omega) rh.n.b.l).bind λr4 g4=>hj2 _ (by omega)
 ·have key:∀ m i n (y:Wr),i+m=6→y.b.length≤500+9*i→Tot (λr=>r.1.length≤100000) (m_point_Bytes_L1 p mb j (n+m+1) (i:Int) y):=by
   intro m
   induction m with
   | zero=>
    intro i n y hi hy;rw [Nat.add_zero,m_point_Bytes_L1,if_neg (by simp;omega)];exact hj _ (by omega)
   | succ m ih=>
    intro i n y hi hy;rw [m_point_Bytes_L1,if_pos (by simp;omega)]
    refine (idx_some (by omega) (by simp;omega)).bind λz _=>(num_tot hy (by omega) _).bind λr hr=>?_
    rw [show W64 ((i:Int)+1)=((i+1:Nat):Int) by rw [W64_id (by omega) (by omega)];rfl];exact ih (i+1) n r (by omega) (by omega)
  obtain ⟨f,hf⟩:=fuelS 7 (by omega);rw [hf];exact key 6 0 f w1 (by omega) (by omega)
def okE (e:List UInt8×T_table_slot_convert_kept_):Prop:=e.1.length≤1000000∧LH e.2.v.State.Hist
theorem sortK_mem {α:Type} {ps:Kv α} {ks:List (List UInt8)} (h:keysG ps=some ks):ks.length=ps.length:=by
 obtain ⟨_,_,rfl⟩:=keysGE h;unfold sortK;simp
theorem get_ok (c:Cv) (K:List UInt8) (h:∀ e∈c.states.m,okE e):Tot (λr=>LH r.1.State.Hist) (m_table_Table_convert_kept_Get c.states K):=by
 unfold m_table_Table_convert_kept_Get;refine .some ?_;show LH (((lookP K c.states.m).getD zl136).v).State.Hist
 cases hl:lookP K c.states.m with
 | none=>exact .z
 | some x=>exact (h _ (lookP_mem hl)).2
theorem Save_tot (c:Cv) (h:∀ e∈c.states.m,okE e) (hl:c.states.m.length≤1000):Tot (λ_=>True) (m_convert_Converter_Save c):=by
 unfold m_convert_Converter_Save m_pack_NewWriter m_table_Table_convert_kept_Len m_table_Table_convert_kept_Keys;rw [bndS,bndS]
 refine (num_tot (w:=⟨[]⟩) (k:=0) (Nat.zero_le _) (by omega) _).bind λw1 h1=>?_
 have hk:∃ ks,keysG c.states.m=some ks:=by
  unfold keysG;refine ⟨sortK c.states.m,if_pos ⟨λk hk=>?_,by omega⟩⟩;obtain ⟨e,he,rfl⟩:=List.mem_map.1 hk;exact (h e he).1
 obtain ⟨ks,hks⟩:=hk;have hlen:=sortK_mem hks;rw [hks,bndS,bndS]
 refine Tot.jn (R:=λy=>y.b.length≤200000000) (λy hy=>?_) λj hj=>?_
 ·unfold m_pack_Writer_Bytes m_bytes_Clone
  rw [app_some (by simp;omega),bndS,bndS];exact .some trivial
 ·rw [m_convert_Converter_Save_L1_scan _ _ _ _ (by omega)]
  refine scan_tot (λi s=>s.b.length≤9+100009*i) (by simpa using h1) (λs hs=>hj _ (by have h9:s.b.length≤9+100009*ks.length:=hs;omega)) λi x s kk hi hs hk2=>?_
  rw [bndS]
  refine (get_ok c x h).bind λr hr=>?_
  unfold m_convert_kept_asPoint;rw [bndS]
  exact (pbytes_tot hr).bind λb hb=>(wtext_tot hs (by omega) (by omega)).bind λw hw=>hk2 _ (by omega)
end Go.Proofs.YtaikmpmokihciaaGreat
set_option maxRecDepth 20000
set_option linter.unusedVariables false
set_option linter.unusedSimpArgs false
namespace Go.Proofs.YtaikmpmokihciaaGreat
open Go Go.RowKit Go.Wk
structure GoodC (cfg:T_api_Config):Prop where
 o0:0≤cfg.Out
 o1:cfg.Out≤2
 s0:1≤cfg.Series
 s1:cfg.Series≤16
 b0:1≤cfg.Buckets
 b1:cfg.Buckets≤160
structure InvR (cfg:T_api_Config) (c:Cv):Prop where
 cf:c.cfg=cfg
 mo:c.states.most=cfg.Series
 le:(c.states.m.length:Int)≤cfg.Series
 ok:∀ e∈c.states.m,okE e
 st:∀ p,PV p→∀ s,stO c (keyE p)=some s→IS p.Mono s∧s.Int_≤9223372036854775807
structure OkQ (p:Pt) (cfg:T_api_Config) (q:Pt):Prop where
 v:PV q
 w:Few q
 nm:q.Name=p.Name
 at_:q.Attrs=p.Attrs
 kd:q.Kind=p.Kind
 mo:q.Mono=p.Mono
 ti:q.Time=p.Time
 te:q.Temp=if p.Temp=0∨cfg.Out=0 then p.Temp else cfg.Out
 lp:(q.Hist.Pos.Counts.length:Int)≤cfg.Buckets
 ln:(q.Hist.Neg.Counts.length:Int)≤cfg.Buckets
theorem fc_ok {cfg:T_api_Config} (hg:GoodC cfg) {p:Pt} {s:St} (hs:IS p.Mono s) (hsi:s.Int_≤9223372036854775807) (hp:Few p) (hv:PV p) (hi:p.Int_≤9223372036854775807) (hF:p.Flags=0) (lp:(p.Hist.Pos.Counts.length:Int)≤cfg.Buckets) (ln:(p.Hist.Neg.Counts.length:Int)≤cfg.Buckets) :
 Tot (λr=>r.2.2=0→NV p (if p.Temp=0∨cfg.Out=0 then p.Temp else cfg.Out) cfg.Buckets r∧r.1.Int_≤9223372036854775807) (m_fc_1 (rdN cfg.Out p.Temp) s p cfg.Buckets):=by
 have hb:=hg.b0;have o0:=hg.o0;have o1:=hg.o1;have hk:=hv.k
 by_cases c1:p.Temp=1∧cfg.Out=2
 ·rw [if_neg (by omega:¬(p.Temp=0∨cfg.Out=0))]
  unfold rdN m_fc_1;rw [if_pos c1,if_pos rfl,c1.2];exact dNext_ok (by omega) hs hp hv hi c1.1 hF
 ·by_cases c2:p.Temp=2∧cfg.Out=1
  ·rw [if_neg (by omega:¬(p.Temp=0∨cfg.Out=0))]
   unfold rdN m_fc_1;rw [if_neg c1,if_pos c2,if_neg (by omega),if_pos rfl,c2.2];exact cNext_ok (by omega) hs hp hv hi hsi c2.1 hF
  ·have e:(if p.Temp=0∨cfg.Out=0 then p.Temp else cfg.Out)=p.Temp:=by
    split
    ·rfl
    ·omega
   rw [e];unfold rdN m_fc_1;rw [if_neg c1,if_neg c2,if_neg (by omega),if_neg (by omega),if_pos rfl];exact pass_ok hp hv hF lp ln
theorem putP_len2 {α:Type} (k:List UInt8) (x y:α):∀ l:Kv α,lookP k l=some y→(putP k x l).length=l.length
 | [],h=>by simp [lookP] at h
 | p::r,h=>by
  unfold putP
  split
  ·simp
  ·rename_i h1
   have:lookP k r=some y:=by
    unfold lookP at h ⊢;simpa [List.find?_cons,h1] using h
   rw [List.length_cons,List.length_cons,putP_len2 k x y r this]
theorem putP_mem {α:Type} (k:List UInt8) (x:α):∀ l:Kv α,∀ e∈putP k x l,e=(k,x)∨e∈l
 | [],e,h=>by simp [putP] at h;exact .inl h
 | p::r,e,h=>by
  unfold putP at h
  split at h
  ·rcases List.mem_cons.1 h with h | h
   ·exact .inl h
   ·exact .inr (List.mem_cons_of_mem _ h)
  ·rcases List.mem_cons.1 h with h | h
   ·exact .inr (by rw [h];exact List.mem_cons_self)
   ·rcases putP_mem k x r e h with h | h
    ·exact .inl h
    ·exact .inr (List.mem_cons_of_mem _ h)
theorem PV.r {p:Pt} (v:PV p):PtR p:=pcE_ok v.to
theorem keyE_len {p:Pt} (v:PV p):(keyE p).length≤1000000:=by
 have:=text_len v.c;unfold keyE;rw [List.length_append];simp only [List.length_append,List.length_cons,List.length_nil] at *
 omega
theorem tail_ok {cfg:T_api_Config} (hg:GoodC cfg) {p:Pt} (hp:Few p) (hv:PV p) (hi:p.Int_≤9223372036854775807) (hF:p.Flags=0) (lp:(p.Hist.Pos.Counts.length:Int)≤cfg.Buckets) (ln:(p.Hist.Neg.Counts.length:Int)≤cfg.Buckets) (c:Cv) (hc:InvR cfg c) :
 Tot (λr=>InvR cfg r.2.2∧(r.2.1≠0→r.1=ptZ∧r.2.2=c)∧(r.2.1=0→OkQ p cfg r.1)) (tailT c (keyE p) 0 p):=by
 obtain ⟨r,hr,r1,r2⟩:=get_eq c (keyE p);have s0:=hg.s0
 have hIS:IS p.Mono ((stO c (keyE p)).getD st0)∧((stO c (keyE p)).getD st0).Int_≤9223372036854775807:=by
  cases h:stO c (keyE p) with
  | none=>exact ⟨.zero _,by decide⟩
  | some s=>exact hc.st p hv s h
 unfold tailT;rw [if_neg (by simp),hr,bndS]
 have room:m_table_Table_convert_kept_Room c.states=some (cfg.Series-(c.states.m.length:Int)):=by
  have:=hc.le;have:=hg.s1;unfold m_table_Table_convert_kept_Room;rw [hc.mo,W64_id (by omega) (by omega)]
 have no:∀ e:Int,e≠0→InvR cfg (ptZ,e,c).2.2∧((ptZ,e,c).2.1≠0→(ptZ,e,c).1=ptZ∧(ptZ,e,c).2.2=c)∧((ptZ,e,c).2.1=0→OkQ p cfg (ptZ,e,c).1):=λe he=>⟨hc,λ_=>⟨rfl,rfl⟩,λh=>absurd h he⟩
 refine Tot.jn (R:=λy:Bool=>y=false→(stO c (keyE p)).isSome=true∨(c.states.m.length:Int)<cfg.Series) (λy hy=>Tot.ite (λ_=>.some (no 6 (by decide))) λhy1=>?_) λj hj=>?_
 ·have hroom:=hy (by simpa using hy1)
  rw [jn_eq,road_eq,bndS,r1,hc.cf]
  refine (fc_ok hg hIS.1 hIS.2 hp hv hi hF lp ln).bind λt ht=>Tot.ite (λh=>.some (no _ h)) λh=>?_
  obtain ⟨nv,ti⟩:=ht (Decidable.not_not.1 h);obtain ⟨b,hb⟩:=bare_tot hp;rw [hb,bndS]
  have hput:m_table_Table_convert_kept_Put c.states (keyE p) { State:=t.1,series:=b }=some (true,⟨c.states.most,W64 (c.states.clock+1),putP (keyE p) ⟨⟨t.1,b⟩,W64 (c.states.clock+1)⟩ c.states.m⟩):=by
   unfold m_table_Table_convert_kept_Put;rw [jn_eq,room,bndS]
   by_cases hk:(lookP (keyE p) c.states.m).isSome=true
   ·rw [if_neg (by rw [hk];decide)]
    rfl
   ·have hlt:(c.states.m.length:Int)<cfg.Series:=by
     rcases hroom with h1|h1
     ·unfold stO at h1
      rw [Option.isSome_map] at h1;exact absurd h1 hk
     ·exact h1
    rw [if_pos (by simpa using hk),show decide (cfg.Series-(c.states.m.length:Int)=0)=false by simp only [decide_eq_false_iff_not];omega]
    rfl
  rw [hput,bndS]
  have lk:∀ K',stO ⟨cfg,⟨c.states.most,W64 (c.states.clock+1),putP (keyE p) ⟨⟨t.1,b⟩,W64 (c.states.clock+1)⟩ c.states.m⟩⟩ K'=if keyE p=K' then some t.1 else stO c K':=by
   intro K';unfold stO;dsimp only;rw [lookP_put]
   split<;>rfl
  refine .some ⟨⟨rfl,hc.mo,?_,λe he=>?_,λp2 v2 s h2=>?_⟩,λh=>absurd rfl h,λ_=>⟨nv.v,nv.w,nv.nm,nv.at_,nv.kd,nv.mo,nv.ti,nv.te,nv.lp,nv.ln⟩⟩
  ·show ((putP (keyE p) _ c.states.m).length:Int)≤cfg.Series
   have hle:=hc.le
   rcases hroom with h1|h1
   ·unfold stO at h1
    rw [Option.isSome_map] at h1;obtain ⟨y,hy⟩:=Option.isSome_iff_exists.1 h1;rw [putP_len2 _ _ y _ hy];exact hle
   ·have:=putP_len (keyE p) (⟨⟨t.1,b⟩,W64 (c.states.clock+1)⟩:T_table_slot_convert_kept_) c.states.m
    omega
  ·rcases putP_mem _ _ _ e he with h | h
   ·rw [h]
    exact ⟨keyE_len hv,nv.st.l⟩
   ·exact hc.ok e h
  ·rw [lk] at h2
   split at h2
   ·rename_i hk
    obtain rfl:=Option.some.inj h2;have:=(key_inj hv.r v2.r).1 hk;rw [← this.2.2.2.1];exact ⟨nv.st,ti⟩
   ·exact hc.st p2 v2 s h2
 ·refine Tot.ite (λh=>?_) λh=>hj _ λ_=>.inl ?_
  ·rw [room,bndS]
   refine hj _ λhd=>.inr ?_
   have:=hc.le;simp only [decide_eq_false_iff_not] at hd
   omega
  ·rw [← r2];simpa using h
theorem Take_ok {cfg:T_api_Config} (hg:GoodC cfg) {p:Pt} (hp:Few p) (hi:p.Int_≤9223372036854775807) (c:Cv) (hc:InvR cfg c) :
 Tot (λr=>InvR cfg r.2.2∧(r.2.1≠0→r.1=ptZ∧r.2.2=c)∧(r.2.1=0→OkQ p cfg r.1)) (m_convert_Converter_Take c p):=by
 have hb:=hg.b0;rw [Take_eq c hp,hc.cf]
 refine Tot.bind (P:=λx=>x.1=0→PV p∧p.Flags=0∧FV p cfg.Buckets x.2) ?_ λx hx=>?_
 ·unfold fitT
  have e0:(if (keyR p).2=0∧p.Flags≠0 then (3:Int) else (keyR p).2)=0→PV p∧p.Flags=0:=by
   intro h
   split at h
   ·simp at h
   ·rename_i h1
    have h2:pcE p=0:=by
     unfold keyR at h
     split at h
     ·assumption
     ·exact h
    exact ⟨.of h2,by
     by_cases hf:p.Flags=0
     ·exact hf
     ·exact absurd ⟨h,hf⟩ h1⟩
  generalize (if (keyR p).2=0∧p.Flags≠0 then (3:Int) else (keyR p).2)=E at *
  refine Tot.ite (λh=>?_) λh=>.some λh0=>?_
  ·obtain ⟨v,f⟩:=e0 h.1
   exact (Fit_ok hp.h _).bind λr hr=>.some λh0=>⟨v,f,.fit v hp h.2 hr h0⟩
  ·obtain ⟨v,f⟩:=e0 h0
   exact ⟨v,f,.same (by omega) v hp λh4=>h ⟨h0,h4⟩⟩
 ·by_cases h0:x.1=0
  ·obtain ⟨v,f,fv⟩:=hx h0
   obtain ⟨v2,w2,⟨hh,e2⟩,lp,ln⟩:=fv
   have ek:keyE x.2=(keyR p).1:=by
    unfold keyR;rw [if_pos v.to,e2]
    rfl
   rw [h0,← ek]
   refine (tail_ok hg w2 v2 (by rw [e2];exact hi) (by rw [e2];exact f) lp ln c hc).mono λr hr=>⟨hr.1,hr.2.1,λh=>?_⟩
   obtain ⟨a1,a2,a3,a4,a5,a6,a7,a8,a9,a10⟩:=hr.2.2 h;rw [e2] at a3 a4 a5 a6 a7 a8;exact ⟨a1,a2,a3,a4,a5,a6,a7,a8,a9,a10⟩
  ·unfold tailT
   rw [if_pos h0];exact .some ⟨hc,λ_=>⟨rfl,rfl⟩,λh=>absurd h h0⟩
theorem right_law (x0:T_api_Config) (x1:List Pt) {P0:Prop} (_:P0) {B C D E F G H I J K L:Pt→Prop} (k1:x1.length≤maxLen∧∀ z∈x1,B z∧C z∧D z∧E z∧F z∧G z∧H z∧(Lit.int .i64 z.Int_).wf=true∧I z∧J z∧K z∧L z):m_limnographlaw17_ConvertRight x0 x1=some true:=by
 have main:Tot (λb=>b=true) (m_limnographlaw17_ConvertRight x0 x1):=by
  unfold m_limnographlaw17_ConvertRight;rw [awake_eq,bndS,if_neg (by decide)]
  refine (some_tot x1 (n:=20) (by omega)).bind λb hb=>Tot.ite (λ_=>.some rfl) λh=>?_
  obtain ⟨hl,hf⟩:=hb (by cases b with|true=>rfl|false=>exact absurd rfl h);rw [new_eq]
  by_cases hg:(((((x0.Out≥0)∧(x0.Out≤2))∧(x0.Series≥1))∧(x0.Series≤16))∧(x0.Buckets≥1))∧(x0.Buckets≤160)
  ·have g:GoodC x0:=⟨by omega,by omega,by omega,by omega,by omega,by omega⟩
   rw [if_pos (decide_eq_true hg),bndS]
   refine Tot.ite (λh=>absurd h (by simp)) λ_=>?_
   rw [jn_eq,m_limnographlaw17_ConvertRight_L1_scan _ _ _ _ (by omega)]
   refine scan_totM (λ_ (s:Option Cv)=>∃ c,s=some c∧InvR x0 c) ⟨_,rfl,⟨rfl,by dsimp only;omega,by dsimp only [List.length_nil];omega,λ_ h=>(by cases h),λ_ _ _ h=>(by cases h)⟩⟩ (λ_ _=>.some rfl) λi p s k hi hp hI hk=>?_
   obtain ⟨c,rfl,hc⟩:=hI;have s1:=g.s1
   have hlen:c.states.m.length≤1000:=by have:=hc.le;omega
   have hpi:p.Int_≤9223372036854775807:=by
    have:=(k1.2 p hp).2.2.2.2.2.2.2.1;have h2:(decide (IntKind.i64.min≤p.Int_)&&decide (p.Int_≤IntKind.i64.max))=true:=this;rw [Bool.and_eq_true,decide_eq_true_iff,decide_eq_true_iff] at h2;exact h2.2
   rw [jn_eq,bndS];obtain ⟨sv,hsv,_⟩:=Save_tot c hc.ok hlen;rw [hsv,bndS,bndS]
   refine (Take_ok g (hf p hp) hpi c hc).bind λr hr=>?_
   obtain ⟨i2,i3,i4⟩:=hr;unfold m_convert_Converter_Len m_table_Table_convert_kept_Len;rw [bndS,bndS]
   refine Tot.ite (λh=>absurd i2.le (by omega)) λ_=>Tot.ite (λhe=>?_) λhe=>?_
   ·obtain ⟨q1,q2⟩:=i3 he
    rw [jn_eq,q2,hsv,bndS,if_neg (by simp),q1];rw [rSame_eq few0 few0,bndS]
    have es:decide (sameP ptZ ptZ)=true:=by simp [sameP]
    rw [es];exact hk _ ⟨c,rfl,hc⟩
   ·have q:=i4 (Decidable.not_not.1 he)
    rw [jn_eq]
    have body:∀ tm:Int,tm=(if p.Temp=0∨x0.Out=0 then p.Temp else x0.Out)→Tot (λb=>b=true) ((λ(y104:Int)=>(m_point_Check r.1).bind λp106=>
     if (((((p106≠0)∨(r.1.Name≠p.Name))∨(r.1.Kind≠p.Kind))∨(r.1.Mono≠p.Mono))∨(r.1.Time≠p.Time))∨(r.1.Temp≠y104) then some false
     else jn (λ(y120:Bool)=>if y120=true then some false else (λy23=>k y23) (some r.2.2)) λj5=>(m_limnographref11_Sorted r.1.Attrs).bind λp134=>(m_limnographref11_Sorted p.Attrs).bind λp137=>(m_limnographref11_Same p134 p137).bind λp140=>
      if (!p140)=true then j5 true else if (r.1.Hist.Pos.Counts.length:Int)>x0.Buckets then j5 true else j5 (decide ((r.1.Hist.Neg.Counts.length:Int)>x0.Buckets))) tm):=by
     intro tm htm;dsimp only;have fa:=(hf p hp).a;rw [PCheck_eq _ q.w.p q.w.n,bndS,q.v.to,if_neg (by rw [q.nm,q.kd,q.mo,q.ti,q.te,htm];simp),jn_eq,q.at_,refSorted_eq _ (by omega),bndS,bndS,same_eq _ _ (by rw [srt_len];omega),bndS];rw [if_neg (by simp),if_neg (by have:=q.lp;omega),show decide ((r.1.Hist.Neg.Counts.length:Int)>x0.Buckets)=false by simp only [decide_eq_false_iff_not];have:=q.ln;omega];dsimp only;rw [if_neg (by decide)];exact hk _ ⟨_,rfl,i2⟩
    refine Tot.ite (λh=>body _ (by rw [if_pos h])) λh=>body _ (by rw [if_neg h])
  ·rw [if_neg (by rw [decide_eq_false hg];decide),bndS]
   refine Tot.ite (λ_=>?_) λh=>absurd rfl h
   unfold m_limnographref17_Good;rw [bndS,decide_eq_false hg];exact .some rfl
 obtain ⟨r,h1,rfl⟩:=main;exact h1
end Go.Proofs.YtaikmpmokihciaaGreat
