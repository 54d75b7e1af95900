import Derived.Test.YtaikmpmokihciaaGreatNY
import Derived.Sort.Walk0
import Derived.Test.YtaikmpmokihciaaGreatVY2
set_option maxRecDepth 20000
set_option linter.unusedVariables false
set_option linter.unusedSimpArgs false
namespace Go.Proofs.YtaikmpmokihciaaGreat
open Go Go.RowKit Go.Wk
def rowB (v:Nat):Nat→List Bool
 | 0=>[]
 | n+1=>rowB (v/2) n++[v%2==1]
theorem jn_post {α β:Type} {F:α} {B:α→β} {r:β} (Q:α→Prop) (hF:Q F) (hB:∀ j,Q j→B j=r):jn F B=r:=hB F hF
def bl (n:Nat):Nat:=if n=0 then 0 else n.log2+1
theorem bl_hi (n:Nat):n<2^bl n:=by
 unfold bl;split
 ·rename_i h;subst h;decide
 ·exact Nat.lt_log2_self
theorem bl_lo {n:Nat} (h:n≠0):2^(bl n-1)≤n:=by
 unfold bl;rw [if_neg h];exact Nat.log2_self_le h
theorem bl_of {n L:Nat} (h1:n<2^L) (h2:L=0∨2^(L-1)≤n):bl n=L:=by
 rcases h2 with rfl|h2
 ·have:n=0:=by simpa using h1
  subst this;rfl
 ·have hn:n≠0:=by have:=Nat.two_pow_pos (L-1);omega
  have hl:=bl_lo hn;have hh:=bl_hi n;have a1:L-1<bl n:=(Nat.pow_lt_pow_iff_right (a:=2) (by omega)).1 (by omega);have a2:bl n-1<L:=(Nat.pow_lt_pow_iff_right (a:=2) (by omega)).1 (by omega)
  have a3:0<bl n:=by omega
  omega
theorem bl_shift {n:Nat} (k:Nat) (h:2^k≤n):bl n=bl (n/2^k)+k:=by
 have hp:=Nat.two_pow_pos k;have hq:n/2^k≠0:=Nat.pos_iff_ne_zero.1 (Nat.div_pos h hp);have h1:=bl_hi (n/2^k);have h2:=bl_lo hq
 have h3:0<bl (n/2^k):=by
  rcases Nat.eq_zero_or_pos (bl (n/2^k)) with h0|h0
  ·rw [h0] at h1;exact absurd (by simpa using h1) hq
  ·exact h0
 refine bl_of ?_ (.inr ?_)
 ·rw [Nat.pow_add];exact (Nat.div_lt_iff_lt_mul hp).1 h1
 ·rw [show bl (n/2^k)+k-1=bl (n/2^k)-1+k by omega,Nat.pow_add];exact (Nat.le_div_iff_mul_le hp).1 h2
theorem bl_le {n k:Nat} (h:n<2^k):bl n≤k:=by
 by_cases h0:n=0
 ·subst h0;exact Nat.zero_le _
 ·have:=bl_lo h0
  have:bl n-1<k:=(Nat.pow_lt_pow_iff_right (a:=2) (by omega)).1 (by omega)
  omega
theorem tabL {T:List UInt8} (hT:∀ n,n<256→T[n]?=some (UInt8.ofNat (bl n))) {n:Nat} (h:n<256):idx T (n:Int)=some (UInt8.ofNat (bl n)):=by rw [idx_nat];exact hT n h
theorem ofNat_bl {n:Nat} (h:n<256):(UInt8.ofNat (bl n)).toNat=bl n:=by
 have:bl n≤8:=bl_le h;simp [UInt8.toNat_ofNat'];omega
theorem len64_eq (x:UInt64):m_math_bits_Len64 x=some ((bl x.toNat:Nat):Int):=by
 unfold m_math_bits_Len64
 have hsh:∀ (y:UInt64) (k:Nat),k<64→(y>>>UInt64.ofNat k).toNat=y.toNat/2^k:=λy k hk=>by
  rw [UInt64.toNat_shiftRight,Nat.shiftRight_eq_div_pow];congr 2;simp [UInt64.toNat_ofNat'];omega
 refine jn_post (λj=>∀ (y:UInt64) (a:Int),y.toNat<4294967296→0≤a→a≤32→j y a=some (a+(bl y.toNat:Nat))) (λy a hy h0 h1=>?_) (λj hj=>?_)
 ·refine jn_post (λj=>∀ (y:UInt64) (a:Int),y.toNat<65536→0≤a→a≤48→j y a=some (a+(bl y.toNat:Nat))) (λy a hy h0 h1=>?_) (λj hj=>?_)
  ·refine jn_post (λj=>∀ (y:UInt64) (a:Int),y.toNat<256→0≤a→a≤56→j y a=some (a+(bl y.toNat:Nat))) (λy a hy h0 h1=>?_) (λj hj=>?_)
   ·have hb:bl y.toNat≤8:=bl_le hy
    have e8:(toU8 (y.toNat:Int)).toNat=y.toNat:=by simp [toU8,UInt8.toNat_ofNat'];omega
    dsimp only;rw [e8,tabL ?_ hy]
    ·rw [bndS,ofNat_bl hy,W64_id (by omega) (by omega)]
    ·decide +kernel
   ·by_cases hc:(y.toNat:Int)≥256
    ·rw [if_pos hc,W64_id (by omega) (by omega),hj _ _ (by rw [hsh _ _ (by omega)];omega) (by omega) (by omega),hsh _ _ (by omega),bl_shift (n:=y.toNat) 8 (by omega)]
     congr 1;omega
    ·rw [if_neg hc,hj _ _ (by omega) h0 (by omega)]
  ·by_cases hc:(y.toNat:Int)≥65536
   ·rw [if_pos hc,W64_id (by omega) (by omega),hj _ _ (by rw [hsh _ _ (by omega)];omega) (by omega) (by omega),hsh _ _ (by omega),bl_shift (n:=y.toNat) 16 (by omega)]
    congr 1;omega
   ·rw [if_neg hc,hj _ _ (by omega) h0 (by omega)]
 ·have hx:=x.toNat_lt
  by_cases hc:(x.toNat:Int)≥4294967296
  ·rw [if_pos hc,hj _ _ (by rw [hsh _ _ (by omega)];omega) (by omega) (by omega),hsh _ _ (by omega),bl_shift (n:=x.toNat) 32 (by omega)]
   congr 1;omega
  ·rw [if_neg hc,hj _ _ (by omega) (by omega) (by omega)];congr 1;omega
def oth (n:Nat):Nat:=if 56<bl n then 8 else (bl n-1)/7
theorem others_eq (x:UInt64):m_pack_others x=some ((oth x.toNat:Nat):Int):=by
 unfold m_pack_others;have hb:bl x.toNat≤64:=bl_le x.toNat_lt;rw [len64_eq,bndS];unfold oth
 by_cases h:56<bl x.toNat
 ·rw [if_pos h,if_pos (by omega)];rfl
 ·rw [if_neg h,if_neg (by omega),W64_id (by omega) (by omega)]
  unfold quoZ;rw [if_neg (by omega),bndS];rw [Int.tdiv_eq_ediv_of_nonneg (by omega),W64_id (by omega) (by omega)]
  congr 1;omega
theorem oth_le (n:Nat):oth n≤8:=by unfold oth;split<;>omega
theorem oth_hi {n:Nat} (h:oth n<8):n<2^(7*oth n+7):=by
 have h1:=bl_hi n;unfold oth at h ⊢
 split at h
 ·omega
 ·rename_i hb
  rw [if_neg hb];exact Nat.lt_of_lt_of_le h1 (Nat.pow_le_pow_right (by omega) (by omega))
def byt (n:Nat):Nat→List UInt8
 | 0=>[]
 | k+1=>UInt8.ofNat (n/256^k%256)::byt n k
theorem byt_len (n k:Nat):(byt n k).length=k:=by induction k with
 | zero=>rfl
 | succ k ih=>simp [byt,ih]
def fstB (n k:Nat):UInt8:=if k<8 then UInt8.ofNat (256-2^(8-k)+n/256^k) else 255
def enc (v:UInt64):List UInt8:=fstB v.toNat (oth v.toNat)::byt v.toNat (oth v.toNat)
theorem enc_len (v:UInt64):(enc v).length=oth v.toNat+1:=by simp [enc,byt_len]
theorem enc_len_le (v:UInt64):(enc v).length≤9:=by have:=oth_le v.toNat;rw [enc_len];omega
theorem pow256 (k:Nat):256^k=2^(8*k):=by rw [Nat.pow_mul]
theorem shr_nat (x:UInt64) (k:Nat) (hk:k<8):(shr64 x (8*k)).toNat=x.toNat/256^k:=by
 unfold shr64;rw [if_pos (by omega),UInt64.toNat_shiftRight,Nat.shiftRight_eq_div_pow,pow256]
 congr 2
 simp [UInt64.toNat_ofNat'];omega
theorem toU8_nat (n:Nat):toU8 (n:Int)=UInt8.ofNat (n%256):=by unfold toU8;congr 1
theorem u64cnt (k:Nat) (h:k≤64):(toU64 (k:Int)).toNat=k:=by
 simp [toU64,UInt64.toNat_ofNat'];omega
theorem top_small {n:Nat} (h:oth n<8):n/256^oth n<2^(7-oth n):=by
 have h1:=oth_hi h;rw [Nat.div_lt_iff_lt_mul (Nat.pow_pos (by omega)),pow256,← Nat.pow_add];rw [show 7-oth n+8*oth n=7*oth n+7 by omega];exact h1
theorem first_or:∀ k,k<8→∀ t,t<2^(7-k)→shl8 (255:UInt8) (8-k)|||UInt8.ofNat (t%256)=UInt8.ofNat (256-2^(8-k)+t):=by
 decide +kernel
theorem wnumL (x:UInt64) (j:T_pack_Writer→Option T_pack_Writer):∀ (k n:Nat) (b:List UInt8),k<n→k≤8→b.length+k≤1073741824→m_pack_Writer_Num_L1 x j n (k:Int) ⟨b⟩=j ⟨b++byt x.toNat k⟩
 | 0,n,b,hn,_,_=>by
  obtain ⟨n,rfl⟩:∃ m,n=m+1:=⟨n-1,by omega⟩;rw [m_pack_Writer_Num_L1,if_neg (by omega)];simp [byt]
 | k+1,n,b,hn,hk,hb=>by
  obtain ⟨n,rfl⟩:∃ m,n=m+1:=⟨n-1,by omega⟩;rw [m_pack_Writer_Num_L1,if_pos (by omega),W64_id (z:=8*((k+1:Nat):Int)) (by omega) (by omega),W64_id (z:=8*((k+1:Nat):Int)-8) (by omega) (by omega)];rw [show 8*((k+1:Nat):Int)-8=((8*k:Nat):Int) by omega,u64cnt _ (by omega),shr_nat _ _ (by omega),toU8_nat];rw [app_some (by simp;omega),bndS,W64_id (by omega) (by omega),show ((k+1:Nat):Int)-1=(k:Int) by omega];rw [wnumL x j k n _ (by omega) (by omega) (by simp;omega)];simp [byt]
theorem wnum_eq (b:List UInt8) (v:UInt64) (h:b.length≤1000000000):m_pack_Writer_Num ⟨b⟩ v=some ⟨b++enc v⟩:=by
 unfold m_pack_Writer_Num;have hle:=oth_le v.toNat;rw [others_eq,bndS]
 refine jn_post (λj=>j (fstB v.toNat (oth v.toNat))=some ⟨b++enc v⟩) ?_ λj hj=>?_
 ·rw [app_some (by simp;omega),bndS,jn_eq]
  obtain ⟨m,hm⟩:=fuelS 9 (by omega);rw [wnumL v _ _ _ _ (by omega) hle (by simp;omega)];simp [enc]
 ·by_cases hk:oth v.toNat<8
  ·rw [if_pos (by omega)]
   rw [W64_id (by omega) (by omega),W64_id (by omega) (by omega)];rw [show (8:Int)-(oth v.toNat:Nat)=((8-oth v.toNat:Nat):Int) by omega,show 8*((oth v.toNat:Nat):Int)=((8*oth v.toNat:Nat):Int) by omega,u64cnt _ (by omega),u64cnt _ (by omega),shr_nat _ _ (by omega),toU8_nat];rw [first_or _ hk _ (top_small hk)];unfold fstB at hj;rw [if_pos hk] at hj;exact hj
  ·have:oth v.toNat=8:=by omega
   rw [if_neg (by omega),W64_id (by omega) (by omega)];rw [this] at hj ⊢;exact hj
theorem lead_of:∀ k,k<8→∀ t,t<2^(7-k)→m_math_bits_LeadingZeros8 (~~~ (UInt8.ofNat (256-2^(8-k)+t)))=some ((k:Nat):Int):=by decide +kernel
theorem lead_all:m_math_bits_LeadingZeros8 (~~~ (255:UInt8))=some 8:=by decide +kernel
theorem mask_of:∀ k,k<8→∀ t,t<2^(7-k)→(UInt8.ofNat (256-2^(8-k)+t)&&&shr8 (127:UInt8) k)=UInt8.ofNat t:=by decide +kernel
theorem lead_first (v:UInt64):m_math_bits_LeadingZeros8 (~~~ (fstB v.toNat (oth v.toNat)))=some ((oth v.toNat:Nat):Int):=by
 have hle:=oth_le v.toNat;unfold fstB
 by_cases hk:oth v.toNat<8
 ·rw [if_pos hk];exact lead_of _ hk _ (top_small hk)
 ·rw [if_neg hk,lead_all,show oth v.toNat=8 by omega];rfl
theorem shl_or (y:UInt64) (c:UInt8) (h:y.toNat<2^56):((y<<<UInt64.ofNat 8)|||toU64 (c.toNat:Int)).toNat=y.toNat*256+c.toNat:=by
 have hc:=c.toNat_lt
 have e1:(toU64 (c.toNat:Int)).toNat=c.toNat:=by simp [toU64,UInt64.toNat_ofNat'];omega
 have e2:(y<<<UInt64.ofNat 8).toNat=y.toNat*256:=by
  rw [UInt64.toNat_shiftLeft]
  have:(UInt64.ofNat 8).toNat%64=8:=by decide
  rw [this,Nat.shiftLeft_eq];exact Nat.mod_eq_of_lt (by omega)
 rw [UInt64.toNat_or,e1,e2,show y.toNat*256=y.toNat<<<8 by rw [Nat.shiftLeft_eq],← Nat.shiftLeft_add_eq_or_of_lt (by omega)]
theorem div_step (n k:Nat):n/256^(k+1)*256+n/256^k%256=n/256^k:=by
 rw [Nat.pow_succ,← Nat.div_div_eq_div_mul];omega
theorem rnumL (x:UInt64) (z:List UInt8) (j:UInt64→Option (UInt64×T_pack_Reader)):∀ (k n:Nat) (p:List UInt8) (y:UInt64),z=p++byt x.toNat k→k<n→k≤8→z.length≤1000→y.toNat=x.toNat/256^k→m_pack_Reader_Num_L1 z j n y (p.length:Int)=j x
 | 0,n,p,y,hz,hn,_,_,hy=>by
  obtain ⟨n,rfl⟩:∃ m,n=m+1:=⟨n-1,by omega⟩;rw [m_pack_Reader_Num_L1,if_neg (by rw [hz];simp [byt])]
  congr 1;apply UInt64.toNat_inj.1;rw [hy];simp
 | k+1,n,p,y,hz,hn,hk,hl,hy=>by
  obtain ⟨n,rfl⟩:∃ m,n=m+1:=⟨n-1,by omega⟩;have hzl:=congrArg List.length hz;simp only [List.length_append,byt_len] at hzl
  have hyl:y.toNat<2^56:=by
   rw [hy,Nat.div_lt_iff_lt_mul (Nat.pow_pos (by omega))];refine Nat.lt_of_lt_of_le x.toNat_lt ?_;have:256^1≤256^(k+1):=Nat.pow_le_pow_right (by omega) (by omega)
   calc 2^64=2^56*256^1:=by decide
    _≤2^56*256^(k+1):=Nat.mul_le_mul_left _ this
  rw [m_pack_Reader_Num_L1,if_pos (by omega),hz,byt,idx_mid,bndS,W64_id (by omega) (by omega),← byt,← hz]
  have hc:(UInt8.ofNat (x.toNat/256^k%256)).toNat=x.toNat/256^k%256:=by simp [UInt8.toNat_ofNat']
  have hy':=shl_or y (UInt8.ofNat (x.toNat/256^k%256)) hyl;rw [hy,hc,div_step] at hy';rw [← hc] at hy';have h:=rnumL x z j k n (p++[UInt8.ofNat (x.toNat/256^k%256)]) _ (by rw [hz,byt];simp) (by omega) (by omega) hl hy';rw [show ((p++[UInt8.ofNat (x.toNat/256^k%256)]).length:Int)=(p.length:Int)+1 by simp] at h;exact h
theorem left_eq (b:List UInt8) (at_:Nat) (e:Int) (h:at_≤b.length) (hb:b.length≤1000000000):m_pack_Reader_Left ⟨b,at_,e⟩=some ((b.length-at_:Nat):Int):=by
 unfold m_pack_Reader_Left;rw [W64_id (by dsimp only;omega) (by dsimp only;omega)];congr 1;dsimp only;omega
theorem rnum_eq (pre post:List UInt8) (v:UInt64) {b:List UInt8} {at_:Int} (hb:b=pre++(enc v++post)) (ha:at_=pre.length) (hl:b.length≤1000000000):m_pack_Reader_Num ⟨b,at_,0⟩=some (v,⟨b,((pre++enc v).length:Nat),0⟩):=by
 subst ha;have hle:=oth_le v.toNat;have hlen:=congrArg List.length hb;simp only [List.length_append,enc_len] at hlen
 have hb2:b=pre++fstB v.toNat (oth v.toNat)::(byt v.toNat (oth v.toNat)++post):=by rw [hb];simp [enc]
 have hi:idx b (pre.length:Int)=some (fstB v.toNat (oth v.toNat)):=by rw [hb2];exact idx_mid _ _ _
 unfold m_pack_Reader_Num;rw [jn_eq];dsimp only;rw [if_neg (by omega),left_eq _ _ _ (by omega) hl,bndS,if_neg (by omega),hi,bndS,lead_first,bndS,bndS,if_neg (by omega)]
 have hcut:cutL b ((pre.length:Int)+1) ((pre.length:Int)+1+(oth v.toNat:Nat))=some (byt v.toNat (oth v.toNat)):=by
  rw [cut_some (by omega) (by omega) (by omega)]
  congr 1
  have e1:((pre.length:Int)+1+(oth v.toNat:Nat)).toNat=(pre++enc v).length:=by rw [List.length_append,enc_len];omega
  have e2:((pre.length:Int)+1).toNat=(pre++[fstB v.toNat (oth v.toNat)]).length:=by simp
  rw [e1,e2,hb,← List.append_assoc,List.take_left];unfold enc;rw [show pre++fstB v.toNat (oth v.toNat)::byt v.toNat (oth v.toNat)=(pre++[fstB v.toNat (oth v.toNat)])++byt v.toNat (oth v.toNat) by simp,List.drop_left]
 refine jn_post (λj=>∀ y:UInt64,y.toNat=v.toNat/256^oth v.toNat→j y=some (v,⟨b,((pre++enc v).length:Nat),0⟩)) (λy hy=>?_) λj hj=>?_
 ·rw [W64_id (z:=(pre.length:Int)+1) (by omega) (by omega),W64_id (z:=(pre.length:Int)+1+_) (by omega) (by omega),hcut,bndS]
  refine jn_post (λj=>j v=some (v,⟨b,((pre++enc v).length:Nat),0⟩)) ?_ λj hj=>?_
  ·rw [others_eq,bndS,if_neg (by omega),W64_id (z:=1+((oth v.toNat:Nat):Int)) (by omega) (by omega),W64_id (by omega) (by omega)]
   simp only [List.length_append,enc_len];congr 3;omega
  ·obtain ⟨m,hm⟩:=fuelS 9 (by omega)
   have:=rnumL v (byt v.toNat (oth v.toNat)) j (oth v.toNat) fuel [] y (by simp) (by omega) hle (by rw [byt_len];omega) hy;exact this.trans hj
 ·by_cases hk:oth v.toNat<8
  ·rw [if_pos (by omega),u64cnt _ (by omega)]
   refine hj _ ?_;unfold fstB;rw [if_pos hk,mask_of _ hk _ (top_small hk)];have ht:=top_small hk;have h7:2^(7-oth v.toNat)≤2^7:=Nat.pow_le_pow_right (by omega) (by omega);generalize v.toNat/256^oth v.toNat=t at ht ⊢
   have ht2:t<128:=by omega
   simp [toU64,UInt64.toNat_ofNat',UInt8.toNat_ofNat'];omega
  ·rw [if_neg (by omega)]
   refine hj _ ?_
   have:oth v.toNat=8:=by omega
   rw [this];have:=v.toNat_lt;exact (Nat.div_eq_of_lt (by omega)).symm
abbrev okI (x:Int):Prop:=-9223372036854775808≤x∧x≤9223372036854775807
def zig (x:Int):UInt64:=UInt64.ofNat (if 0≤x then 2*x.toNat else 2*(-1-x).toNat+1)
theorem zig_nat {x:Int} (h:okI x):(zig x).toNat=if 0≤x then 2*x.toNat else 2*(-1-x).toNat+1:=by
 unfold zig;rw [UInt64.toNat_ofNat',Nat.mod_eq_of_lt]
 split<;>omega
theorem xor_all (y:Nat) (h:y<18446744073709551616):y^^^18446744073709551615=18446744073709551615-y:=by
 have e:=congrArg BitVec.toNat (BitVec.xor_allOnes (x:=BitVec.ofNat 64 y));rw [BitVec.toNat_xor,BitVec.toNat_not,BitVec.toNat_ofNat,BitVec.toNat_allOnes,Nat.mod_eq_of_lt (by simpa using h)] at e;simpa using e
theorem W64_big {z:Int} (h0:9223372036854775808≤z) (h1:z<18446744073709551616):W64 z=z-18446744073709551616:=by
 unfold W64 IntKind.wrap;simp [IntKind.signed,IntKind.bits]
 split<;>omega
theorem ofInt_nat (n:Nat) (h:n<18446744073709551616):(BitVec.ofInt 64 (n:Int)).toNat=n:=by
 rw [BitVec.toNat_ofInt];simp;omega
theorem ofInt_m1:BitVec.ofInt 64 (-1)=BitVec.allOnes 64:=by decide
theorem xorZ_zero (n:Nat) (h:n<9223372036854775808):xorZ (n:Int) 0=n:=by
 unfold xorZ;rw [BitVec.toNat_xor,ofInt_nat _ (by omega),show (0:Int)=((0:Nat):Int) from rfl,ofInt_nat _ (by omega),Nat.xor_zero,W64_id (by omega) (by omega)]
theorem xorZ_m1 (n:Nat) (h:n<9223372036854775808):xorZ (n:Int) (-1)=-1-n:=by
 unfold xorZ;rw [BitVec.toNat_xor,ofInt_nat _ (by omega),ofInt_m1,BitVec.toNat_allOnes,show 2^64-1=18446744073709551615 by decide,xor_all _ (by omega),W64_big (by omega) (by omega)]
 omega
theorem zig_eq {x:Int} (h:okI x):m_pack_Zig x=some (zig x):=by
 unfold m_pack_Zig
 congr 1
 apply UInt64.toNat_inj.1
 rw [zig_nat h,UInt64.toNat_xor]
 have e1:(toU64 x<<<UInt64.ofNat 1).toNat=if 0≤x then 2*x.toNat else 18446744073709551616-2*(-x).toNat:=by
  rw [UInt64.toNat_shiftLeft]
  have:(UInt64.ofNat 1).toNat%64=1:=by decide
  rw [this,Nat.shiftLeft_eq];simp only [toU64,UInt64.toNat_ofNat']
  split<;>omega
 have e2:(toU64 (shrZ x 63)).toNat=if 0≤x then 0 else 18446744073709551615:=by
  have:shrZ x 63=if 0≤x then 0 else -1:=by
   unfold shrZ;rw [show min 63 64=63 by decide,Int.fdiv_eq_ediv_of_nonneg _ (by decide)]
   split<;>omega
  rw [this]
  split<;>rfl
 rw [e1,e2]
 by_cases h0:0≤x
 ·rw [if_pos h0,if_pos h0,if_pos h0,Nat.xor_zero]
 ·rw [if_neg h0,if_neg h0,if_neg h0]
  rw [xor_all _ (by omega)];omega
theorem zag_zig {x:Int} (h:okI x):m_pack_Zag (zig x)=some x:=by
 unfold m_pack_Zag
 have e1:((zig x)>>>UInt64.ofNat 1).toNat=if 0≤x then x.toNat else (-1-x).toNat:=by
  rw [UInt64.toNat_shiftRight]
  have:(UInt64.ofNat 1).toNat%64=1:=by decide
  rw [this,Nat.shiftRight_eq_div_pow,zig_nat h]
  split<;>omega
 have e2:((zig x)&&&(1:UInt64)).toNat=if 0≤x then 0 else 1:=by
  rw [UInt64.toNat_and,show (1:UInt64).toNat=1 from rfl,Nat.and_one_is_mod,zig_nat h]
  split<;>omega
 rw [e1,e2]
 by_cases h0:0≤x
 ·rw [if_pos h0,if_pos h0,W64_id (z:=((x.toNat:Nat):Int)) (by omega) (by omega)]
  rw [show IntKind.i64.wrap (0-W64 ((0:Nat):Int))=0 by decide,xorZ_zero _ (by omega)];congr 1;omega
 ·rw [if_neg h0,if_neg h0,W64_id (z:=(((-1-x).toNat:Nat):Int)) (by omega) (by omega)]
  rw [show IntKind.i64.wrap (0-W64 ((1:Nat):Int))=-1 by decide,xorZ_m1 _ (by omega)];congr 1;omega
theorem wint_eq (b:List UInt8) {x:Int} (hx:okI x) (h:b.length≤1000000000):m_pack_Writer_Int ⟨b⟩ x=some ⟨b++enc (zig x)⟩:=by
 unfold m_pack_Writer_Int;rw [zig_eq hx,bndS,wnum_eq _ _ h,bndS]
theorem rint_eq (pre post:List UInt8) {x:Int} (hx:okI x) {b:List UInt8} {at_:Int} (hb:b=pre++(enc (zig x)++post)) (ha:at_=pre.length) (hl:b.length≤1000000000):m_pack_Reader_Int ⟨b,at_,0⟩=some (x,⟨b,((pre++enc (zig x)).length:Nat),0⟩):=by
 unfold m_pack_Reader_Int;rw [rnum_eq pre post _ hb ha hl,bndS,zag_zig hx,bndS]
theorem rcount_eq (pre post:List UInt8) (n most:Nat) {b:List UInt8} {at_:Int} (hb:b=pre++(enc (UInt64.ofNat n)++post)) (ha:at_=pre.length) (hl:b.length≤1000000000) (hn:n≤most) (hm:most<9223372036854775808):m_pack_Reader_Count ⟨b,at_,0⟩ (most:Int)=some ((n:Int),⟨b,((pre++enc (UInt64.ofNat n)).length:Nat),0⟩):=by
 unfold m_pack_Reader_Count
 have e:(UInt64.ofNat n).toNat=n:=by simp [UInt64.toNat_ofNat'];omega
 have e2:(toU64 (most:Int)).toNat=most:=by simp [toU64,UInt64.toNat_ofNat'];omega
 rw [rnum_eq pre post _ hb ha hl,bndS,if_neg,W64_id (by dsimp only;omega) (by dsimp only;omega)]
 ·dsimp only;rw [e]
 ·dsimp only;rw [e,e2];omega
theorem clone_eq (l:List UInt8) (h:l.length≤1073741824):m_bytes_Clone l=some l:=by unfold m_bytes_Clone;rw [app_some (by simpa using h)];rfl
theorem raw_eq (pre s post:List UInt8) {b:List UInt8} {at_:Int} (hb:b=pre++(s++post)) (ha:at_=pre.length) (hl:b.length≤1000000000):m_pack_Reader_Raw ⟨b,at_,0⟩ (s.length:Int)=some (s,⟨b,((pre++s).length:Nat),0⟩):=by
 subst ha;have hlen:=congrArg List.length hb;simp only [List.length_append] at hlen;unfold m_pack_Reader_Raw;dsimp only;rw [if_neg (by omega),if_neg (by omega),left_eq _ _ _ (by omega) hl,bndS,if_neg (by omega)];rw [W64_id (z:=(pre.length:Int)+s.length) (by omega) (by omega),W64_id (by omega) (by omega)]
 have hcut:cutL b ((pre.length:Int)+s.length-s.length) ((pre.length:Int)+s.length)=some s:=by
  rw [cut_some (by omega) (by omega) (by omega)]
  congr 1
  have e1:((pre.length:Int)+s.length).toNat=(pre++s).length:=by rw [List.length_append];omega
  have e2:((pre.length:Int)+s.length-s.length).toNat=pre.length:=by omega
  rw [e1,e2,hb,← List.append_assoc,List.take_left,List.drop_left]
 rw [hcut,bndS,clone_eq _ (by omega),bndS];simp
def encT (s:List UInt8):List UInt8:=enc (UInt64.ofNat s.length)++s
theorem wtext_eq (b s:List UInt8) (h:b.length≤1000000000) (hs:s.length≤10000000):m_pack_Writer_Text ⟨b⟩ s=some ⟨b++encT s⟩:=by
 unfold m_pack_Writer_Text
 have e:toU64 (s.length:Int)=UInt64.ofNat s.length:=by unfold toU64;congr 1;omega
 have:=enc_len_le (UInt64.ofNat s.length);rw [e,wnum_eq _ _ h,bndS,app_some (by simp;omega),bndS];simp [encT]
theorem rtext_eq (pre s post:List UInt8) (most:Nat) {b:List UInt8} {at_:Int} (hb:b=pre++(encT s++post)) (ha:at_=pre.length) (hl:b.length≤1000000000) (hs:s.length≤most) (hm:most<9223372036854775808):m_pack_Reader_Text ⟨b,at_,0⟩ (most:Int)=some (s,⟨b,((pre++encT s).length:Nat),0⟩):=by
 unfold m_pack_Reader_Text;rw [rcount_eq pre (s++post) s.length most (by rw [hb,encT];simp) ha hl hs hm,bndS,raw_eq (pre++enc (UInt64.ofNat s.length)) s post (by rw [hb,encT];simp) rfl hl,bndS,jn_eq];dsimp only;rw [if_neg (by omega)];simp [encT]
def fix (n:Nat):Nat→List UInt8
 | 0=>[]
 | k+1=>UInt8.ofNat (n%256)::fix (n/256) k
def encF (v:UInt64):List UInt8:=fix v.toNat 8
theorem fix_len (n k:Nat):(fix n k).length=k:=by
 induction k generalizing n with
 | zero=>rfl
 | succ k ih=>simp [fix,ih]
theorem wfixL (x:UInt64) (j:T_pack_Writer→Option T_pack_Writer):∀ (k i n:Nat) (b:List UInt8),k<n→k+i=8→b.length≤1073741824-k→m_pack_Writer_Fix_L1 x j n (i:Int) ⟨b⟩=j ⟨b++fix (x.toNat/256^i) k⟩
 | 0,i,n,b,hn,hk,_=>by
  obtain ⟨n,rfl⟩:∃ m,n=m+1:=⟨n-1,by omega⟩;rw [m_pack_Writer_Fix_L1,if_neg (by omega)];simp [fix]
 | k+1,i,n,b,hn,hk,hb=>by
  obtain ⟨n,rfl⟩:∃ m,n=m+1:=⟨n-1,by omega⟩;rw [m_pack_Writer_Fix_L1,if_pos (by omega),W64_id (z:=8*(i:Int)) (by omega) (by omega),show 8*(i:Int)=((8*i:Nat):Int) by omega,u64cnt _ (by omega),shr_nat _ _ (by omega),toU8_nat];rw [app_some (by simp;omega),bndS,W64_id (by omega) (by omega),show (i:Int)+1=((i+1:Nat):Int) by omega];rw [wfixL x j k (i+1) n _ (by omega) (by omega) (by simp;omega)];simp [fix,Nat.div_div_eq_div_mul,Nat.pow_succ]
theorem wfix_eq (b:List UInt8) (v:UInt64) (h:b.length≤1000000000):m_pack_Writer_Fix ⟨b⟩ v=some ⟨b++encF v⟩:=by
 unfold m_pack_Writer_Fix;rw [jn_eq];obtain ⟨m,hm⟩:=fuelS 9 (by omega);have:=wfixL v (λy2=>some y2) 8 0 fuel b (by omega) rfl (by omega);simpa [encF] using this
theorem fix_get (n:Nat):∀ (k i:Nat) (m:Nat),i<k→(fix m k)[i]?=some (UInt8.ofNat (m/256^i%256))
 | 0,i,m,h=>by omega
 | k+1,0,m,h=>by simp [fix]
 | k+1,i+1,m,h=>by
  rw [fix,List.getElem?_cons_succ,fix_get n k i _ (by omega),Nat.div_div_eq_div_mul,Nat.pow_succ,Nat.mul_comm 256]
theorem or_shl (y:UInt64) (c:UInt8) (i:Nat) (hi:i<8) (h:y.toNat<256^i):(y|||shl64 (toU64 (c.toNat:Int)) (8*i)).toNat=y.toNat+c.toNat*256^i:=by
 have hc:=c.toNat_lt
 have e1:(toU64 (c.toNat:Int)).toNat=c.toNat:=by simp [toU64,UInt64.toNat_ofNat'];omega
 have e2:(shl64 (toU64 (c.toNat:Int)) (8*i)).toNat=c.toNat*256^i:=by
  unfold shl64;rw [if_pos (by omega),UInt64.toNat_shiftLeft,e1,Nat.shiftLeft_eq,pow256]
  have:(UInt64.ofNat (8*i)).toNat%64=8*i:=by simp [UInt64.toNat_ofNat'];omega
  rw [this];refine Nat.mod_eq_of_lt ?_;have h2:2^(8*i)≤2^56:=Nat.pow_le_pow_right (by omega) (by omega)
  calc c.toNat*2^(8*i)≤255*2^56:=Nat.mul_le_mul (by omega) h2
   _<2^64:=by decide
 rw [pow256] at h;rw [UInt64.toNat_or,e2,Nat.or_comm,pow256];have:=Nat.shiftLeft_add_eq_or_of_lt h c.toNat;rw [Nat.shiftLeft_eq] at this;rw [← this];omega
theorem mod_step (n i:Nat):n%256^i+n/256^i%256*256^i=n%256^(i+1):=by
 rw [Nat.pow_succ,Nat.mod_mul];rw [Nat.mul_comm (n/256^i%256)]
theorem rfixL (x:UInt64) (rd:T_pack_Reader) (j:UInt64→Option (UInt64×T_pack_Reader)):∀ (k i n:Nat) (y:UInt64),k<n→k+i=8→y.toNat=x.toNat%256^i→m_pack_Reader_Fix_L1 (encF x,rd) j n y (i:Int)=j x
 | 0,i,n,y,hn,hk,hy=>by
  obtain ⟨n,rfl⟩:∃ m,n=m+1:=⟨n-1,by omega⟩
  have:i=8:=by omega
  subst this;rw [m_pack_Reader_Fix_L1,if_neg (by simp [encF,fix_len])]
  congr 1;apply UInt64.toNat_inj.1;rw [hy]
  have:=x.toNat_lt;exact Nat.mod_eq_of_lt (by omega)
 | k+1,i,n,y,hn,hk,hy=>by
  obtain ⟨n,rfl⟩:∃ m,n=m+1:=⟨n-1,by omega⟩
  have hl:y.toNat<256^i:=by rw [hy];exact Nat.mod_lt _ (Nat.pow_pos (by omega))
  rw [m_pack_Reader_Fix_L1,if_pos (by simp [encF,fix_len];omega),idx_nat];dsimp only;rw [encF,fix_get 0 8 i _ (by omega),← encF,bndS,W64_id (z:=8*(i:Int)) (by omega) (by omega),show 8*(i:Int)=((8*i:Nat):Int) by omega,u64cnt _ (by omega),W64_id (by omega) (by omega),show (i:Int)+1=((i+1:Nat):Int) by omega];refine rfixL x rd j k (i+1) n _ (by omega) (by omega) ?_;rw [or_shl _ _ _ (by omega) hl,hy]
  have:(UInt8.ofNat (x.toNat/256^i%256)).toNat=x.toNat/256^i%256:=by simp [UInt8.toNat_ofNat']
  rw [this];exact mod_step _ _
theorem rfix_eq (pre post:List UInt8) (v:UInt64) {b:List UInt8} {at_:Int} (hb:b=pre++(encF v++post)) (ha:at_=pre.length) (hl:b.length≤1000000000):m_pack_Reader_Fix ⟨b,at_,0⟩=some (v,⟨b,((pre++encF v).length:Nat),0⟩):=by
 unfold m_pack_Reader_Fix
 have h8:((encF v).length:Int)=8:=by simp [encF,fix_len]
 have hr:=raw_eq pre (encF v) post hb ha hl;rw [h8] at hr;rw [hr,bndS,jn_eq];obtain ⟨m,hm⟩:=fuelS 9 (by omega);exact rfixL v _ _ 8 0 fuel 0 (by omega) rfl (by simp [Nat.mod_one])
theorem done_eq (b:List UInt8) (hl:b.length≤1000000000):m_pack_Reader_Done ⟨b,(b.length:Nat),0⟩=some 0:=by
 unfold m_pack_Reader_Done;rw [jn_eq];dsimp only;rw [if_pos rfl,left_eq _ _ _ (Nat.le_refl _) hl,bndS];simp
theorem new_eq (b:List UInt8) (hl:b.length≤1000000000):m_pack_NewReader b=some ⟨b,0,0⟩:=by
 unfold m_pack_NewReader;rw [clone_eq _ (by omega),bndS]
def szN (c:Nat):Nat:=if c=0 then 0 else if c=1 then 7 else if c=2 then 20 else 64
def clsN (v:Nat):Nat:=if v<1 then 0 else if v<128 then 1 else if v<1048576 then 2 else 3
def smB (v:Nat):List Bool:=rowB (clsN v) 2++rowB v (szN (clsN v))
theorem ofNat_nat {n:Nat} (h:n<18446744073709551616):(UInt64.ofNat n).toNat=n:=by rw [UInt64.toNat_ofNat'];exact Nat.mod_eq_of_lt h
def sI (u:UInt64):Int:=if u.toNat<9223372036854775808 then (u.toNat:Int) else (u.toNat:Int)-18446744073709551616
def sumN (l:List UInt64):Nat:=(l.map UInt64.toNat).sum
theorem sumN_cons (x:UInt64) (l:List UInt64):sumN (x::l)=x.toNat+sumN l:=by simp [sumN]
theorem or_zero (a b:UInt64):a|||b=0↔a=0∧b=0:=by
 constructor
 ·intro h
  have h1:(a|||b).toNat=0:=by rw [h];rfl
  rw [UInt64.toNat_or] at h1;have:=Nat.or_eq_zero_iff.1 h1;exact ⟨UInt64.toNat_inj.1 this.1,UInt64.toNat_inj.1 this.2⟩
 ·rintro ⟨rfl,rfl⟩;rfl
theorem tot_fold (l:List UInt64):∀ (a b:UInt64),((l.foldl (λ(s:UInt64×UInt64) x=>(s.1+x,s.2|||cry s.1 x)) (a,b)).1.toNat=(a.toNat+sumN l)%2^64) ∧
 ((l.foldl (λ(s:UInt64×UInt64) x=>(s.1+x,s.2|||cry s.1 x)) (a,b)).2=0↔b=0∧a.toNat+sumN l<2^64):=by
 induction l with
 | nil=>intro a b;have:=a.toNat_lt;simp [sumN];omega
 | cons x l ih=>
  intro a b;have ha:=a.toNat_lt;have hx:=x.toNat_lt;obtain ⟨h1,h2⟩:=ih (a+x) (b|||cry a x);rw [List.foldl_cons];dsimp only;rw [h1,h2,or_zero,sumN_cons];have e:(a+x).toNat=(a.toNat+x.toNat)%2^64:=UInt64.toNat_add a x
  constructor
  ·rw [e];omega
  ·unfold cry
   by_cases hc:18446744073709551616≤a.toNat+x.toNat
   ·rw [if_pos hc]
    constructor
    ·rintro ⟨⟨_,h⟩,_⟩;exact absurd h (by decide)
    ·rintro ⟨_,h⟩;omega
   ·rw [if_neg hc,e]
    constructor
    ·rintro ⟨⟨h,_⟩,k⟩;exact ⟨h,by omega⟩
    ·rintro ⟨h,k⟩;exact ⟨⟨h,rfl⟩,by omega⟩
def totN (h:T_api_Hist):Nat:=h.Zero.toNat+sumN h.Pos.Counts+sumN h.Neg.Counts
def totE (h:T_api_Hist):UInt64×Bool:=if totN h<2^64 then (UInt64.ofNat (totN h),true) else (0,false)
theorem Total_eq (h:T_api_Hist) (h1:h.Pos.Counts.length≤1000000) (h2:h.Neg.Counts.length≤1000000):m_hist_Total h=some (totE h):=by
 have hL2:∀ (z:T_api_Side) (j:UInt64→UInt64→Option (UInt64×Bool)) (a b:UInt64),z.Counts.length≤1000000→m_hist_Total_L2 z j fuel a b 0=j (z.Counts.foldl (λ(s:UInt64×UInt64) x=>(s.1+x,s.2|||cry s.1 x)) (a,b)).1 (z.Counts.foldl (λ(s:UInt64×UInt64) x=>(s.1+x,s.2|||cry s.1 x)) (a,b)).2:=by
  intro z j a b h;rw [m_hist_Total_L2_scan _ _ _ _ (by omega),scanL_fold (λ(s:UInt64×UInt64) x=>(s.1+x,s.2|||cry s.1 x)) (λi x s k _=>by rw [bndS])]
 unfold m_hist_Total m_hist_sides;rw [bndS,jn_eq];obtain ⟨m,hm⟩:=fuelS 3 (by omega)
 rw [show m_hist_Total_L1 { a0:=h.Pos,a1:=h.Neg } _ fuel _ _ _=m_hist_Total_L1 { a0:=h.Pos,a1:=h.Neg } _ (m+3) _ _ _ by rw [← hm],m_hist_Total_L1,if_pos (by omega),show idx [h.Pos,h.Neg] 0=some h.Pos from rfl,bndS,jn_eq,hL2 _ _ _ _ h1,W64_id (by omega) (by omega),show (0:Int)+1=1 from rfl,
  m_hist_Total_L1,if_pos (by omega),show idx [h.Pos,h.Neg] 1=some h.Neg from rfl,bndS,jn_eq,hL2 _ _ _ _ h2,W64_id (by omega) (by omega),show (1:Int)+1=2 from rfl,m_hist_Total_L1,if_neg (by omega)]
 obtain ⟨p1,p2⟩:=tot_fold h.Pos.Counts h.Zero 0;generalize h.Pos.Counts.foldl (λ(s:UInt64×UInt64) x=>(s.1+x,s.2|||cry s.1 x)) (h.Zero,0)=P at *;obtain ⟨q1,q2⟩:=tot_fold h.Neg.Counts P.1 P.2;generalize h.Neg.Counts.foldl (λ(s:UInt64×UInt64) x=>(s.1+x,s.2|||cry s.1 x)) (P.1,P.2)=Q at *;unfold totE totN
 by_cases hq:Q.2=0
 ·obtain ⟨a1,a2⟩:=q2.1 hq
  obtain ⟨_,a3⟩:=p2.1 a1;rw [if_neg (by rw [hq];decide),if_pos (by omega)]
  have:Q.1=UInt64.ofNat (h.Zero.toNat+sumN h.Pos.Counts+sumN h.Neg.Counts):=by
   apply UInt64.toNat_inj.1
   rw [q1,ofNat_nat (by omega)];omega
  rw [this]
 ·have hq':Q.2.toNat≠0:=λh=>hq (UInt64.toNat_inj.1 h)
  rw [if_pos (by omega),if_neg];intro h
  apply hq
  rw [q2];exact ⟨p2.2 ⟨rfl,by omega⟩,by omega⟩
def sdE (s:T_api_Side):Int:=
 if s.Counts.length>160 then 4
 else if s.Counts=[] then (if s.Offset≠0 then 3 else 0)
 else if s.Counts.headD 0=0∨s.Counts.getLastD 0=0 then 3
 else if s.Offset < -1073741824∨s.Offset+s.Counts.length-1>1073741824 then 1 else 0
theorem u64z' (x:UInt64):((x.toNat:Nat):Int)=0↔x=0:=by
 constructor
 ·intro h;apply UInt64.toNat_inj.1;show x.toNat=0;omega
 ·rintro rfl;rfl
theorem ends {l:List UInt64} (h:l≠[]) (hl:l.length≤1000000):idx l 0=some (l.headD 0)∧idx l (W64 ((l.length:Int)-1))=some (l.getLastD 0):=by
 have h0:0<l.length:=List.length_pos_iff.2 h
 constructor
 ·cases l with
  | nil=>exact absurd rfl h
  | cons a t=>rfl
 ·rw [W64_id (by omega) (by omega),show (l.length:Int)-1=((l.length-1:Nat):Int) by omega,idx_nat,← List.getLast?_eq_getElem?,List.getLast?_eq_some_getLast h]
  cases l with
  | nil=>exact absurd rfl h
  | cons a t=>rw [List.getLastD_cons,List.getLast_eq_getLastD]
theorem scheck_eq (s:T_api_Side):m_hist_check s=some (sdE s):=by
 unfold m_hist_check sdE
 by_cases h1:s.Counts.length>160
 ·rw [if_pos (by omega),if_pos h1]
 rw [if_neg (by omega),if_neg h1]
 by_cases h2:s.Counts=[]
 ·rw [if_pos h2,h2]
  by_cases h3:s.Offset≠0
  ·rw [if_pos ⟨rfl,h3⟩,if_pos h3]
  ·rw [if_neg (λh=>h3 h.2),if_pos (by rfl),if_neg h3]
 have h0:0<s.Counts.length:=List.length_pos_iff.2 h2;obtain ⟨e1,e2⟩:=ends h2 (by omega);rw [if_neg (by omega),if_neg (by omega),if_neg h2,e1,bndS];simp only [jn_eq]
 by_cases h3:s.Counts.headD 0=0
 ·rw [if_pos ((u64z' _).2 h3),if_pos (by trivial),if_pos (Or.inl h3)]
 rw [if_neg (λh=>h3 ((u64z' _).1 h)),e2,bndS]
 by_cases h4:s.Counts.getLastD 0=0
 ·rw [if_pos (decide_eq_true ((u64z' _).2 h4)),if_pos (Or.inr h4)]
 rw [if_neg (by rw [decide_eq_false (λh=>h4 ((u64z' _).1 h))];decide),if_neg (show ¬(s.Counts.headD 0=0∨s.Counts.getLastD 0=0) from λh=>h.elim h3 h4),W64_id (z:=(s.Counts.length:Int)-1) (by omega) (by omega),W64_id (by omega) (by omega)]
 by_cases h5:s.Offset < -1073741824
 ·rw [if_pos h5,if_pos (by trivial),if_pos (Or.inl h5)]
 rw [if_neg h5]
 by_cases h6:s.Offset>1073741824-((s.Counts.length:Int)-1)
 ·rw [if_pos (decide_eq_true h6),if_pos (by omega)]
 ·rw [if_neg (by rw [decide_eq_false h6];decide),if_neg (by omega)]
def hcE (h:T_api_Hist):Int:=
 if h.Scale < -10∨h.Scale>20 then 1 else if sdE h.Pos≠0 then sdE h.Pos else if sdE h.Neg≠0 then sdE h.Neg else if totN h<2^64 then 0 else 4
theorem HCheck_eq (h:T_api_Hist) (h1:h.Pos.Counts.length≤1000000) (h2:h.Neg.Counts.length≤1000000):m_hist_Check h=some (hcE h):=by
 unfold m_hist_Check m_hist_sides hcE
 by_cases hs:h.Scale < -10∨h.Scale>20
 ·rw [if_pos hs,if_pos hs]
 rw [if_neg hs,if_neg hs,bndS,jn_eq];obtain ⟨m,hm⟩:=fuelS 3 (by omega);rw [hm,m_hist_Check_L1,if_pos (by omega),show idx [h.Pos,h.Neg] 0=some h.Pos from rfl,bndS,scheck_eq,bndS]
 by_cases c1:sdE h.Pos≠0
 ·rw [if_pos c1,if_pos c1]
 rw [if_neg c1,if_neg c1,W64_id (by omega) (by omega),show (0:Int)+1=1 from rfl,m_hist_Check_L1,if_pos (by omega),show idx [h.Pos,h.Neg] 1=some h.Neg from rfl,bndS,scheck_eq,bndS]
 by_cases c2:sdE h.Neg≠0
 ·rw [if_pos c2,if_pos c2]
 rw [if_neg c2,if_neg c2,W64_id (by omega) (by omega),show (1:Int)+1=2 from rfl,m_hist_Check_L1,if_neg (by omega),Total_eq h h1 h2,bndS];unfold totE
 by_cases ht:totN h<2^64
 ·rw [if_pos ht,if_pos ht,if_neg (by simp)]
 ·rw [if_neg ht,if_neg ht,if_pos (by simp)]
def alike (a b:T_api_Hist):Prop:=a.Scale=b.Scale∧a.Pos.Offset=b.Pos.Offset∧a.Neg.Offset=b.Neg.Offset∧a.Pos.Counts.length=b.Pos.Counts.length∧a.Neg.Counts.length=b.Neg.Counts.length
instance (a b:T_api_Hist):Decidable (alike a b):=by unfold alike;exact inferInstance
def allC (h:T_api_Hist):List UInt64:=h.Zero::(h.Pos.Counts++h.Neg.Counts)
def smS (l:List UInt64):List Bool:=l.flatMap λc=>smB c.toNat
def dfS (l m:List UInt64):List Bool:=(l.zip m).flatMap λc=>smB (zig (sI (c.1-c.2))).toNat
def shB (s:T_api_Side):List Bool:=rowB s.Counts.length 8++if s.Counts.length>0 then smB (zig s.Offset).toNat else []
def fullH (h:T_api_Hist):List Bool:=false::(rowB (h.Scale+10).toNat 5++(shB h.Pos++(shB h.Neg++smS (allC h))))
def hB (n:Nat) (last h:T_api_Hist):List Bool:=if 0<n∧alike last h then true::dfS (allC h) (allC last) else fullH h
theorem hclone_eq (h:T_api_Hist) (h1:h.Pos.Counts.length≤1000000) (h2:h.Neg.Counts.length≤1000000):m_hist_Clone h=some h:=by
 unfold m_hist_Clone m_slices_Clone_uint64_uint64;simp only [app_some (show ([]:List UInt64).length+h.Pos.Counts.length≤1073741824 by simp;omega),app_some (show ([]:List UInt64).length+h.Neg.Counts.length≤1073741824 by simp;omega),bndS,List.nil_append]
abbrev Txt:=List UInt8
abbrev Pr:=T_api_Pair
def small (c:UInt8):Bool:=decide (97≤c.toNat)&&decide (c.toNat≤122)
def nmC (c:UInt8):Bool:=small c||(decide (48≤c.toNat)&&decide (c.toNat≤57))||decide (c.toNat=95)||decide (c.toNat=46)
def nameB (s:Txt):Bool:=decide (s.length≤32)&&match s with | []=>false | c::t=>small c&&t.all nmC
def valC (c:UInt8):Bool:=decide (33≤c.toNat)&&decide (c.toNat≤126)&&decide (c.toNat≠61)&&decide (c.toNat≠59)&&decide (c.toNat≠44)
def valB (s:Txt):Bool:=decide (s.length≤32)&&decide (1≤s.length)&&s.all valC
theorem small_eq (c:UInt8):m_label_small c=some (small c):=by unfold m_label_small small;rw [← Bool.decide_and];congr 1;apply decide_eq_decide.2;omega
theorem isName_eq (s:Txt):m_label_isName s=some (nameB s):=by
 unfold m_label_isName;simp only [jn_eq]
 split
 ·rename_i h;rcases h with rfl | h<;>simp [nameB];omega
 ·rename_i h
  match s,h with
  | c::t,h=>
   simp only [not_or] at h;have hb:=h.2;rw [idx0,bndS,small_eq,bndS,len_some (by omega),bndS,m_label_isName_L1_scan _ _ (by omega),scanL_all nmC (some false)]
   ·have:(c::t).length≤32:=by omega
    have hn:small c=true→nmC c=true:=λh=>by simp [nmC,h]
    unfold nameB
    cases hc:small c<;>simp_all
    split<;>simp_all
   ·intro i x k _
    rw [bndS,small_eq,bndS]
    refine ite_neg ?_ (λ_=>rfl) λ_=>rfl
    simp [nmC];grind
theorem isValue_eq (s:Txt):m_label_isValue s=some (valB s):=by
 unfold m_label_isValue;simp only [jn_eq]
 split
 ·rename_i h;rcases h with rfl | h<;>simp [valB];omega
 ·rename_i h
  simp only [not_or] at h;have hb:=h.2;have:=List.length_pos_iff.2 h.1;rw [len_some (by omega),bndS,m_label_isValue_L1_scan _ _ (by omega),scanL_all valC (some false)]
  ·unfold valB;split<;>simp_all<;>omega
  ·intro i x k _
   simp only [bndS,jn_eq,valC]
   grind
def chk:List Pr→List Pr→Int
 | _,[]=>0
 | p,a::l=>if (nameB a.Key&&valB a.Val)=true then (if p.any (λb=>decide (b.Key=a.Key))=true then 8 else chk (p++[a]) l) else 3
def check (name:Txt) (l:List Pr):Int:=if nameB name=true then (if l.length>4 then 4 else chk [] l) else 3
theorem contains_eq (l:List Pr) (a:Pr) (h:l.length<4611686018427387904):m_slices_ContainsFunc_api_Pair_api_Pair_s2 l a=some (l.any λb=>decide (b.Key=a.Key)):=by
 unfold m_slices_ContainsFunc_api_Pair_api_Pair_s2 m_slices_IndexFunc_api_Pair_api_Pair_s1;rw [jn_eq,m_slices_IndexFunc_api_Pair_api_Pair_s1_L1_scan _ _ _ h];rw [scanL_pre (λp q _=>some (if q.any (λb=>decide (b.Key=a.Key))=true then ((p.length+q.findIdx λb=>decide (b.Key=a.Key):Nat):Int) else -1)) ?_ ?_]
 ·cases h:l.any (λb=>decide (b.Key=a.Key))<;>simp [bndS]
 ·intro s;rfl
 ·intro p x q _ k _ hk
  simp only [bndS,m_label_Check_1,hk]
  by_cases hx:x.Key=a.Key
  ·simp [hx,List.findIdx_cons]
  ·simp [hx,List.findIdx_cons];congr 1;omega
theorem check_eq (name:Txt) (l:List Pr):m_label_Check name l=some (check name l):=by
 unfold m_label_Check check;rw [isName_eq,bndS]
 by_cases hn:nameB name=true
 ·rw [hn,if_neg (by simp),if_pos rfl]
  by_cases hl:l.length>4
  ·rw [if_pos (by omega),if_pos hl]
  rw [if_neg (by omega),if_neg hl,jn_eq,m_label_Check_L1_scan _ _ (by omega)];refine scanL_pre (λp q _=>some (chk p q)) (λ_=>rfl) ?_;intro p x q _ k hp hk;subst hp;simp only [bndS,isName_eq,isValue_eq,jn_eq,cut_mid,contains_eq p x (by simp at hl;omega),hk,chk]
  cases nameB x.Key<;>cases valB x.Val<;>simp
  split<;>rfl
 ·simp at hn
  rw [hn];rfl
def insR (a:Pr):List Pr→List Pr
 | []=>[a]
 | b::l=>if Op.bytesLess a.Key b.Key=true then b::insR a l else a::b::l
def srt (l:List Pr):List Pr:=(l.foldl (λacc a=>insR a acc) []).reverse
theorem setI_mid {α:Type} {p:List α} {x y:α} {q:List α} {i:Int} (h:i=p.length):setI (p++x::q) i y=p++y::q:=by subst h;simp [setI]
theorem sorted1_eq (a b:Pr):m_label_Sorted_1 a b=some (if Op.bytesLess a.Key b.Key=true then -1 else if Op.bytesLess b.Key a.Key=true then 1 else 0):=by
 simp [m_label_Sorted_1,m_cmp_Compare_string,m_cmp_isNaN_string];grind
theorem insL2 (j:List Pr→Option (List Pr)) (x:Pr):∀ (pre rest:List Pr) (n:Nat),pre.length<n→pre.length<4611686018427387904 →
 m_slices_insertionSortCmpFunc_api_Pair_s2_L2 0 j n (pre.reverse++x::rest) (pre.length:Int)=j ((insR x pre).reverse++rest)
 | [],rest,n,h,_=>by
  obtain ⟨n,rfl⟩:∃ m,n=m+1:=⟨n-1,by omega⟩;rw [m_slices_insertionSortCmpFunc_api_Pair_s2_L2,jn_eq,if_neg (by simp)];rfl
 | b::pre,rest,n,h,hb=>by
  obtain ⟨n,rfl⟩:∃ m,n=m+1:=⟨n-1,by omega⟩;simp only [List.length_cons] at h hb
  have e1:(b::pre).reverse++x::rest=(pre.reverse++[b])++x::rest:=by simp
  have e2:(b::pre).reverse++x::rest=pre.reverse++b::(x::rest):=by simp
  have e3:pre.reverse++b::b::rest=(pre.reverse++[b])++b::rest:=by simp
  have i1:idx ((b::pre).reverse++x::rest) ((b::pre).length:Int)=some x:=by rw [e1];exact idx_mid' (by simp)
  have w1:W64 (((b::pre).length:Int)-1)=(pre.length:Int):=by rw [List.length_cons,W64_id (by omega) (by omega)];omega
  have i2:idx ((b::pre).reverse++x::rest) (pre.length:Int)=some b:=by rw [e2];exact idx_mid' (by simp)
  rw [m_slices_insertionSortCmpFunc_api_Pair_s2_L2,jn_eq,if_pos (by simp only [List.length_cons];omega),i1,bndS,w1,i2,bndS,sorted1_eq,bndS,bndS,bndS]
  have s1:setI ((b::pre).reverse++x::rest) ((b::pre).length:Int) b=pre.reverse++b::b::rest:=by rw [e1,setI_mid (by simp)];simp
  rw [s1,idx_mid' (by simp),bndS,setI_mid (by simp),show pre.reverse++x::b::rest=pre.reverse++x::(b::rest) from rfl,insL2 j x pre (b::rest) n (by omega) (by omega)];rw [insR]
  by_cases hx:Op.bytesLess x.Key b.Key=true
  ·simp [hx]
  ·simp [hx];grind
theorem insL1 (j:List Pr→Option (List Pr)) (N:Nat) (hN:N<4611686018427387904):∀ (q p:List Pr) (n:Nat),q.length<n→p.length+q.length=N →
 m_slices_insertionSortCmpFunc_api_Pair_s2_L1 0 N j n (p.reverse++q) (p.length:Int)=j (q.foldl (λacc a=>insR a acc) p).reverse
 | [],p,n,h,hl=>by
  obtain ⟨n,rfl⟩:∃ m,n=m+1:=⟨n-1,by omega⟩;rw [m_slices_insertionSortCmpFunc_api_Pair_s2_L1,if_neg (by simp at hl;omega)];simp
 | x::q,p,n,h,hl=>by
  obtain ⟨n,rfl⟩:∃ m,n=m+1:=⟨n-1,by omega⟩;simp only [List.length_cons] at h hl
  have hlen:∀ p:List Pr,(insR x p).length=p.length+1:=by
   intro p
   induction p with
   | nil=>rfl
   | cons b p ih=>unfold insR;split<;>simp [ih]
  rw [m_slices_insertionSortCmpFunc_api_Pair_s2_L1,if_pos (by omega),jn_eq,insL2 _ x p q _ (by unfold fuel;omega) (by omega)];have:=insL1 j N hN q (insR x p) n (by omega) (by rw [hlen];omega);rw [hlen] at this;rw [W64_up (by omega),this,List.foldl_cons]
theorem insSort_eq (l:List Pr) (h:l.length<4611686018427387904):m_slices_insertionSortCmpFunc_api_Pair_s2 l 0 l.length=some (srt l):=by
 unfold m_slices_insertionSortCmpFunc_api_Pair_s2;rw [jn_eq,show W64 (0+1)=1 by decide]
 match l with
 | []=>rfl
 | x::l=>exact insL1 some (x::l).length h l [x] fuel (by unfold fuel;simp at h;omega) (by simp;omega)
theorem insR_len (x:Pr):∀ p:List Pr,(insR x p).length=p.length+1
 | []=>rfl
 | b::p=>by unfold insR;split<;>simp [insR_len x p]
theorem srt_len (l:List Pr):(srt l).length=l.length:=by
 have:∀ (l p:List Pr),(l.foldl (λacc a=>insR a acc) p).length=p.length+l.length:=by
  intro l
  induction l with
  | nil=>intro p;rfl
  | cons x l ih=>intro p;rw [List.foldl_cons,ih,insR_len,List.length_cons];omega
 unfold srt;rw [List.length_reverse,this];simp
theorem stable_eq (l:List Pr) (h:l.length≤20):m_slices_stableCmpFunc_api_Pair_s1 l l.length=some (srt l):=by
 obtain ⟨F,hF⟩:∃ m,fuel=m+2:=fuelS 2 (by omega);unfold m_slices_stableCmpFunc_api_Pair_s1;simp only [jn_eq];rw [hF,m_slices_stableCmpFunc_api_Pair_s1_L3]
 by_cases h20:l.length=20
 ·rw [if_pos (by omega),show (20:Int)=(l.length:Int) by omega,insSort_eq l (by omega),bndS,m_slices_stableCmpFunc_api_Pair_s1_L3,if_neg (by rw [W64_id (by omega) (by omega)];omega)]
  rw [m_slices_insertionSortCmpFunc_api_Pair_s2,jn_eq];rw [hF,m_slices_insertionSortCmpFunc_api_Pair_s2_L1,if_neg (by rw [W64_id (by omega) (by omega)];omega),bndS,m_slices_stableCmpFunc_api_Pair_s1_L1,if_neg (by omega)]
 ·rw [if_neg (by omega),insSort_eq l (by omega),bndS,m_slices_stableCmpFunc_api_Pair_s1_L1,if_neg (by omega)]
theorem sorted_eq (l:List Pr) (h:l.length≤20):m_label_Sorted l=some (srt l):=by
 unfold m_label_Sorted m_slices_Clone_api_Pair_api_Pair m_slices_SortStableFunc_api_Pair_api_Pair_s1;rw [app_some (by simp;omega),bndS,List.nil_append,stable_eq l h];rfl
theorem refL2 (x0:List Pr) (y:Int) (a:Pr) (ha:idx x0 y=some a) (j:Int→Option (List Pr)) (post:List Pr):∀ (pre:List Pr) (n:Nat),pre.length<n→pre.length<4611686018427387904 →
 m_limnographref11_Sorted_L2 x0 (pre.reverse++post) y j n (pre.length:Int)=j ((pre.dropWhile λb=>Op.bytesLess a.Key b.Key).length:Nat)
 | [],n,h,_=>by
  obtain ⟨n,rfl⟩:∃ m,n=m+1:=⟨n-1,by omega⟩;rw [m_limnographref11_Sorted_L2,jn_eq,if_neg (by simp)];rfl
 | b::pre,n,h,hb=>by
  obtain ⟨n,rfl⟩:∃ m,n=m+1:=⟨n-1,by omega⟩;simp only [List.length_cons] at h hb
  have w1:W64 (((b::pre).length:Int)-1)=(pre.length:Int):=by rw [List.length_cons,W64_id (by omega) (by omega)];omega
  have e2:(b::pre).reverse++post=pre.reverse++b::post:=by simp
  rw [m_limnographref11_Sorted_L2,jn_eq,if_pos (by simp only [List.length_cons];omega),w1,e2,idx_mid' (by simp),bndS,ha,bndS];dsimp only
  by_cases hx:Op.bytesLess a.Key b.Key=true
  ·rw [if_pos hx,List.dropWhile_cons,if_pos hx]
   have:=refL2 x0 y a ha j (b::post) pre n (by omega) (by omega);simpa using this
  ·rw [if_neg hx,List.dropWhile_cons,if_neg hx]
theorem insR_split (a:Pr) (p:List Pr):insR a p=(p.takeWhile λb=>Op.bytesLess a.Key b.Key)++a::(p.dropWhile λb=>Op.bytesLess a.Key b.Key):=by
 induction p with
 | nil=>rfl
 | cons b p ih=>unfold insR;split<;>simp_all
theorem refSorted_eq (l:List Pr) (h:l.length≤1048576):m_limnographref11_Sorted l=some (srt l):=by
 unfold m_limnographref11_Sorted;rw [jn_eq,m_limnographref11_Sorted_L1_scan _ _ _ (by omega)];rw [scanL_inv (λp s=>s.length=p.length) (λ_ q s=>some (q.foldl (λacc a=>insR a acc) s.reverse).reverse) rfl (λs _=>by simp)]
 ·rfl
 ·intro p x q s k hp hs hk
  subst hp;have hx:idx (p++x::q) (p.length:Int)=some x:=idx_mid p x q;have hr:=refL2 (p++x::q) (p.length:Int) x hx;obtain ⟨pre,rfl⟩:∃ pre,s=pre.reverse:=⟨s.reverse,by simp⟩
  have hr:=λj=>hr j [] pre fuel (by unfold fuel;simp at hs h;omega) (by simp at hs h;omega)
  simp only [List.append_nil] at hr;rw [jn_eq,List.length_reverse,hr];have hd:pre=(pre.takeWhile λb=>Op.bytesLess x.Key b.Key)++(pre.dropWhile λb=>Op.bytesLess x.Key b.Key):=(List.takeWhile_append_dropWhile ..).symm;have hsp:=insR_split x pre;generalize (pre.takeWhile λb=>Op.bytesLess x.Key b.Key)=u at hd hsp;generalize (pre.dropWhile λb=>Op.bytesLess x.Key b.Key)=v at hd hsp
  have hl:u.length+v.length≤1048576:=by
   have:=congrArg List.length hd;simp at this hs h;omega
  have e1:pre.reverse=v.reverse++u.reverse:=by rw [hd];simp
  have c1:cutL pre.reverse 0 (v.length:Int)=some v.reverse:=by rw [e1];have:=cut_mid v.reverse u.reverse;simpa using this
  have c2:cutL pre.reverse (v.length:Int) (pre.length:Nat)=some u.reverse:=by rw [e1,show pre.length=(v.reverse++u.reverse).length by rw [hd];simp;omega];have:=cut_end v.reverse u.reverse;rw [List.length_reverse] at this;exact this
  rw [c1,bndS,app_some (by simp;omega),bndS,bndS,app_some (by simp;omega),bndS,c2,bndS,app_some (by simp;omega),bndS,hk]
  ·rw [List.foldl_cons];simp [hsp]
  ·have:=congrArg List.length hd;simp at this hs ⊢;omega
def light (l:List Pr):Bool:=decide (l.length≤20)&&l.all λa=>decide (a.Key.length≤100)&&decide (a.Val.length≤100)
theorem light_eq (l:List Pr):m_limnographref11_Light l=some (light l):=by
 unfold m_limnographref11_Light light
 by_cases h:l.length≤20
 ·rw [if_neg (by omega),jn_eq,m_limnographref11_Light_L1_scan _ _ (by omega),scanL_all (λa=>decide (a.Key.length≤100)&&decide (a.Val.length≤100)) (some false)]
  ·simp [h];grind
  ·intro i x k _
   simp only [jn_eq,bndS]
   grind
 ·rw [if_pos (by omega)];simp [h]
def at1 (a:Pr):Txt:=[59]++a.Key++[61]++a.Val
def texts (l:List Pr):Txt:=l.flatMap at1
theorem texts_cons (a:Pr) (l:List Pr):texts (a::l)=at1 a++texts l:=by simp [texts]
theorem at1_len (a:Pr):(at1 a).length=a.Key.length+a.Val.length+2:=by simp [at1];omega
theorem textL (l:List Pr) (h:l.length≤4) (hs:∀ a∈l,a.Key.length≤32∧a.Val.length≤32) (s:Txt) (hs0:s.length≤1000) (j:Txt→Option (Txt×Int)) (hj:∀ s,j s=some (s,0)) :
 m_label_Text_L1 l j fuel 0 s=some (s++texts l,0):=by
 rw [m_label_Text_L1_scan _ _ _ (by omega)];refine scanL_inv (λp t=>t.length≤1000+66*p.length) (λ_ q t=>some (t++texts q,0)) (by simp;omega) (λs _=>by simp [hj,texts]) ?_;intro p x q t k hp ht hk;have hx:=hs x (by simp [← hp])
 have hpl:p.length≤4:=by rw [← hp] at h;simp at h;omega
 rw [bndS,cat_some (by simp;omega),bndS,cat_some (by simp;omega),bndS,cat_some (by simp;omega),bndS,app_some (by simp;omega),bndS,hk]
 ·rw [texts_cons];simp [at1]
 ·simp;omega
theorem nameB_len {s:Txt} (h:nameB s=true):s.length≤32:=by unfold nameB at h;simp at h;exact h.1
theorem valB_len {s:Txt} (h:valB s=true):s.length≤32:=by unfold valB at h;simp at h;exact h.1.1
theorem chk_ok:∀ (l p:List Pr),chk p l=0→∀ a∈l,nameB a.Key=true∧valB a.Val=true∧∀ b∈p,b.Key≠a.Key
 | [],p,_,a,ha=>by cases ha
 | x::l,p,h,a,ha=>by
  rw [chk] at h
  split at h
  ·rename_i hx
   split at h
   ·cases h
   ·rename_i hp
    rcases List.mem_cons.1 ha with rfl|ha
    ·simp at hx hp;exact ⟨hx.1,hx.2,hp⟩
    ·have:=chk_ok l (p++[x]) h a ha
     exact ⟨this.1,this.2.1,λb hb=>this.2.2 b (by simp [hb])⟩
  ·cases h
theorem check_ok {name:Txt} {l:List Pr} (h:check name l=0):nameB name=true∧l.length≤4∧chk [] l=0:=by
 unfold check at h
 split at h
 ·split at h
  ·cases h
  ·exact ⟨by assumption,by omega,h⟩
 ·cases h
theorem insR_mem (x a:Pr):∀ p:List Pr,a∈insR x p↔a=x∨a∈p
 | []=>by simp [insR]
 | b::p=>by unfold insR;split<;>simp [insR_mem x a p];grind
theorem srt_mem (a:Pr) (l:List Pr):a∈srt l↔a∈l:=by
 have:∀ (l p:List Pr),a∈(l.foldl (λacc a=>insR a acc) p)↔a∈p∨a∈l:=by
  intro l
  induction l with
  | nil=>intro p;simp
  | cons x l ih=>intro p;rw [List.foldl_cons,ih,insR_mem];simp;grind
 unfold srt;rw [List.mem_reverse,this];simp
def text (name:Txt) (l:List Pr):Txt×Int:=if check name l=0 then (name++texts (srt l),0) else ([],check name l)
theorem text_eq (name:Txt) (l:List Pr):m_label_Text name l=some (text name l):=by
 unfold m_label_Text text;rw [check_eq,bndS]
 by_cases h:check name l=0
 ·rw [if_neg (by omega),if_pos h]
  obtain ⟨h1,h2,h3⟩:=check_ok h;have h4:=nameB_len h1;rw [app_some (by simp;omega),bndS,sorted_eq l (by omega),bndS,jn_eq,List.nil_append]
  refine textL _ (by rw [srt_len];exact h2) (λa ha=>?_) name (by omega) _ λ_=>rfl
  have:=chk_ok l [] h3 a ((srt_mem a l).1 ha);exact ⟨nameB_len this.1,valB_len this.2.1⟩
 ·rw [if_pos h,if_neg h]
theorem same_eq (a b:List Pr) (h:a.length<4611686018427387904):m_limnographref11_Same a b=some (decide (a=b)):=by
 unfold m_limnographref11_Same
 by_cases hl:a.length=b.length
 ·rw [if_neg (by omega),jn_eq,m_limnographref11_Same_L1_scan _ _ _ h]
  rw [scanL_pre (λp q _=>some (decide (q=b.drop p.length))) ?_ ?_]
  ·simp
  ·intro s;simp [hl]
  ·intro p x q _ k hp hk
   rw [hk]
   have:p.length<b.length:=by rw [← hl,← hp];simp
   rw [idx_at this,bndS,bndS,List.drop_eq_getElem_cons this,List.length_append,List.length_singleton]
   by_cases hx:x=b[p.length]
   ·rw [if_neg (λh=>h hx)];congr 1;apply decide_eq_decide.2;rw [List.cons.injEq];exact ⟨λh=>⟨hx,h⟩,λh=>h.2⟩
   ·rw [if_pos hx,decide_eq_false];rw [List.cons.injEq];exact λh=>hx h.1
 ·rw [if_pos (by omega)]
  have:a≠b:=λh=>hl (by rw [h])
  simp [this]
def cut1 (c:UInt8):Txt→Txt×Txt×Bool
 | []=>([],[],false)
 | x::s=>if x=c then ([],s,true) else (x::(cut1 c s).1,(cut1 c s).2)
theorem cut1_no {c:UInt8}:∀ {s:Txt},(cut1 c s).2.2=false→cut1 c s=(s,[],false)
 | [],_=>rfl
 | x::s,h=>by
  unfold cut1 at h ⊢
  split at h
  ·cases h
  ·rename_i hx;rw [if_neg hx,cut1_no h]
theorem cut1_yes {c:UInt8}:∀ {s:Txt},(cut1 c s).2.2=true→s=(cut1 c s).1++c::(cut1 c s).2.1
 | [],h=>by cases h
 | x::s,h=>by
  unfold cut1 at h ⊢
  split at h
  ·rename_i hx;rw [if_pos hx,hx];rfl
  ·rename_i hx;rw [if_neg hx];have:=cut1_yes h;show x::s=x::((cut1 c s).1++c::(cut1 c s).2.1);rw [← this]
theorem cut1_len {c:UInt8}:∀ {s:Txt},(cut1 c s).1.length+(cut1 c s).2.1.length≤s.length
 | []=>by simp [cut1]
 | x::s=>by
  unfold cut1
  split
  ·simp
  ·have:=cut1_len (c:=c) (s:=s);simp;omega
theorem indexByte_cut (c:UInt8):∀ s:Txt,Lib.indexByte s c=if (cut1 c s).2.2=true then ((cut1 c s).1.length:Int) else -1
 | []=>rfl
 | x::s=>by
  unfold Lib.indexByte cut1
  by_cases hx:x=c
  ·simp [hx]
  ·rw [indexByte_cut c s]
   simp only [hx,beq_iff_eq,if_false]
   split
   ·rw [if_neg (by omega),List.length_cons];simp
   ·simp
theorem strCut_eq (s:Txt) (c:UInt8) (h:s.length<4611686018427387904):m_strings_Cut s [c]=some (cut1 c s):=by
 have key:m_internal_stringslite_Index s [c]=some (if (cut1 c s).2.2=true then ((cut1 c s).1.length:Int) else -1):=by
  unfold m_internal_stringslite_Index
  by_cases hs:[c]=s
  ·rw [if_pos (.inr hs),← hs];simp [cut1]
  ·rw [if_neg (by simp [hs]),if_pos (show (([c]:Txt).length:Int)=1 from rfl),idx0,bndS,m_internal_stringslite_IndexByte,bndS,indexByte_cut]
 unfold m_strings_Cut m_internal_stringslite_Cut;rw [key,bndS]
 by_cases hf:(cut1 c s).2.2=true
 ·have h1:=cut1_yes hf
  have hl:=congrArg List.length h1;simp at hl
  have c1:cutL s 0 ((cut1 c s).1.length:Int)=some (cut1 c s).1:=by
   conv=>lhs;arg 1;rw [h1]
   exact cut_mid _ _
  have c2:cutL s (((cut1 c s).1.length:Int)+1) (s.length:Nat)=some (cut1 c s).2.1:=by
   have:=cut_end ((cut1 c s).1++[c]) (cut1 c s).2.1;rw [List.append_assoc,List.singleton_append,← h1] at this;simpa using this
  rw [if_pos hf,if_pos (by omega),c1,bndS];show ((cutL s (W64 (((cut1 c s).1.length:Int)+1)) (s.length:Nat)).bind _).bind _=_;rw [W64_id (by omega) (by omega),c2,bndS,bndS];simp [← hf]
 ·have h1:=cut1_no (by simpa using hf:(cut1 c s).2.2=false)
  rw [if_neg hf,if_neg (by omega),bndS,h1]
def pairOf (s:Txt):Option Pr:=if ((cut1 61 s).2.2&&nameB (cut1 61 s).1&&valB (cut1 61 s).2.1)=true then some ⟨(cut1 61 s).1,(cut1 61 s).2.1⟩ else none
theorem pair_eq (s:Txt) (h:s.length<4611686018427387904):m_label_pair s=some (match pairOf s with | some a=>(a,0) | none=>(⟨[],[]⟩,3)):=by
 unfold m_label_pair pairOf;rw [strCut_eq s _ h,bndS];simp only [jn_eq,isName_eq,isValue_eq,bndS]
 cases (cut1 61 s).2.2<;>cases nameB (cut1 61 s).1<;>cases valB (cut1 61 s).2.1<;>simp
def foll (l:List Pr) (key:Txt):Int:=if l.any (λb=>decide (b.Key=key))=true then 8 else match l.getLast? with | some b=>if Op.bytesLess key b.Key=true then 9 else 0 | none=>0
theorem follows_eq (l:List Pr) (key:Txt) (h0:l≠[]) (h:l.length<4611686018427387904):m_label_follows l key=some (foll l key):=by
 unfold m_label_follows foll;rw [jn_eq,m_label_follows_L1_scan _ _ _ h,scanL_all (λb=>!decide (b.Key=key)) (some 8)]
 ·obtain ⟨b,hb⟩:∃ b,l.getLast?=some b:=⟨_,List.getLast?_eq_some_getLast h0⟩
  have hp:=List.length_pos_iff.2 h0
  have hi:idx l (W64 ((l.length:Int)-1))=some b:=by
   rw [W64_id (by omega) (by omega),show (l.length:Int)-1=((l.length-1:Nat):Int) by omega,idx_nat,← List.getLast?_eq_getElem?];exact hb
  rw [hi,bndS,hb]
  by_cases ha:l.any (λb=>decide (b.Key=key))=true
  ·rw [if_pos ha,if_neg]
   simp at ha ⊢;exact ha
  ·rw [if_neg ha,if_pos]
   ·show (if _ then _ else _)=some (if _ then _ else _)
    split<;>rfl
   ·simp at ha ⊢;exact ha
 ·intro i x k _
  rw [bndS]
  by_cases hx:x.Key=key<;>simp [hx]
def spl:Txt→Txt×List Txt
 | []=>([],[])
 | x::s=>if x=59 then ([],(spl s).1::(spl s).2) else (x::(spl s).1,(spl s).2)
def partsOf (more:Bool) (rest:Txt):List Txt:=if more=true then (spl rest).1::(spl rest).2 else []
theorem spl_cut:∀ s,(cut1 59 s).1=(spl s).1∧partsOf (cut1 59 s).2.2 (cut1 59 s).2.1=(spl s).2
 | []=>⟨rfl,rfl⟩
 | x::s=>by
  unfold cut1 spl
  by_cases hx:x=59
  ·rw [if_pos hx,if_pos hx];exact ⟨rfl,rfl⟩
  ·rw [if_neg hx,if_neg hx];have:=spl_cut s;exact ⟨by simp [this.1],this.2⟩
theorem spl_join:∀ s,s=(spl s).1++(spl s).2.flatMap (λp=>59::p)
 | []=>rfl
 | x::s=>by
  unfold spl
  by_cases hx:x=59
  ·rw [if_pos hx];show x::s=[]++(59::(spl s).1++(spl s).2.flatMap (λp=>59::p));rw [hx,List.nil_append,List.cons_append,← spl_join s]
  ·rw [if_neg hx];show x::s=x::((spl s).1++_);rw [← spl_join s]
abbrev Res:=Txt×List Pr×Int×Int
def pgo (name:Txt):List Pr→Int→List Txt→Res
 | l,_,[]=>(name,l,0,0)
 | l,at_,p::ps=>
  if l.length=4 then ([],[],at_,4) else
  match pairOf p with
  | none=>([],[],at_,3)
  | some a=>if foll l a.Key=0 then pgo name (l++[a]) (at_+p.length+1) ps else ([],[],at_,foll l a.Key)
def parse (s:Txt):Res:=if nameB (spl s).1=true then pgo (spl s).1 [] ((spl s).1.length+1) (spl s).2 else ([],[],0,3)
theorem parseL (name:Txt) (j:List Pr→Option Res) (hj:∀ l,j l=some (name,l,0,0)):∀ (n:Nat) (l:List Pr) (at_:Int) (rest:Txt) (more:Bool),(if more=true then 1+rest.length else 0)<n→l.length≤4→0≤at_→at_+rest.length≤1000000 →
 m_label_Parse_L1 j n l at_ rest more=some (pgo name l at_ (partsOf more rest)):=by
 intro n
 induction n with
 | zero=>intro l at_ rest more h;omega
 | succ n ih=>
  intro l at_ rest more h hl h0 h1;rw [m_label_Parse_L1]
  cases more with
  | false=>rw [if_neg (by simp),hj];rfl
  | true=>
   rw [if_pos rfl] at h ⊢;obtain ⟨e1,e2⟩:=spl_cut rest;have hcl:=cut1_len (c:=59) (s:=rest)
   have hpo:partsOf true rest=(cut1 59 rest).1::partsOf (cut1 59 rest).2.2 (cut1 59 rest).2.1:=by rw [e1,e2];rfl
   rw [strCut_eq rest _ (by omega),bndS,pair_eq _ (by omega),bndS,hpo,pgo];simp only [jn_eq]
   have hmore:(if (cut1 59 rest).2.2=true then 1+(cut1 59 rest).2.1.length else 0)<n∧((cut1 59 rest).2.2=true→(cut1 59 rest).1.length+(cut1 59 rest).2.1.length+1=rest.length):=by
    by_cases hm:(cut1 59 rest).2.2=true
    ·have hc:=congrArg List.length (cut1_yes hm)
     simp at hc;rw [if_pos hm];omega
    ·rw [if_neg hm];exact ⟨by omega,λh=>absurd h hm⟩
   generalize (cut1 59 rest).1=pt at *;generalize (cut1 59 rest).2.1=rst at *;generalize (cut1 59 rest).2.2=mr at *
   by_cases h4:l.length=4
   ·rw [if_pos (by omega),if_pos h4,if_neg (by simp),if_pos (by simp)]
   ·rw [if_neg (by omega),if_neg h4]
    cases hp:pairOf pt with
    | none=>simp
    | some a=>
     have hnext:m_label_Parse_L1 j n (l++[a]) (W64 (at_+W64 ((pt.length:Int)+1))) rst mr=some (pgo name (l++[a]) (at_+pt.length+1) (partsOf mr rst)):=by
      rw [W64_id (z:=(pt.length:Int)+1) (by omega) (by omega),W64_id (by omega) (by omega),← Int.add_assoc]
      cases mr with
      | false=>
       obtain ⟨m,rfl⟩:∃ m,n=m+1:=⟨n-1,by omega⟩;rw [m_label_Parse_L1,if_neg (by simp),hj];rfl
      | true=>exact ih _ _ _ _ hmore.1 (by simp;omega) (by omega) (by have:=hmore.2 rfl;omega)
     have hap:appL l [(⟨a.Key,a.Val⟩:Pr)]=some (l++[a]):=app_some (by simp;omega);dsimp only
     by_cases hl0:l=[]
     ·subst hl0
      rw [if_neg (by simp),if_neg (by simp),hap,bndS,hnext,if_pos (show foll [] a.Key=0 from rfl)]
     ·have:=List.length_pos_iff.2 hl0
      rw [if_pos ⟨rfl,by omega⟩,follows_eq l a.Key hl0 (by omega),bndS]
      by_cases hf:foll l a.Key=0
      ·rw [if_neg (by omega),hap,bndS,hnext,if_pos hf]
      ·rw [if_pos hf,if_neg hf]
theorem spl_len (s:Txt):(spl s).1.length≤s.length:=by have:=congrArg List.length (spl_join s);simp at this;omega
theorem parse_eq (s:Txt) (h:s.length≤100000):m_label_Parse s=some (parse s):=by
 unfold m_label_Parse parse;obtain ⟨e1,e2⟩:=spl_cut s;have hcl:=cut1_len (c:=59) (s:=s);rw [strCut_eq s _ (by omega),bndS,isName_eq,bndS,e1];have hsl:=spl_len s
 by_cases hn:nameB (spl s).1=true
 ·rw [hn,if_neg (by simp),if_pos rfl,jn_eq,← e2]
  rw [W64_id (by omega) (by omega)];exact parseL _ _ (λl=>rfl) _ _ _ _ _ (by unfold fuel;split<;>omega) (by simp) (by omega) (by rw [← e1];omega)
 ·simp at hn
  rw [hn];rfl
def fall:List Pr→Prop
 | []=>True
 | [_]=>True
 | a::b::l=>Op.bytesLess a.Key b.Key=false∧fall (b::l)
theorem srt_fall:∀ (q p:List Pr),fall (q.reverse++p)→q.foldl (λacc a=>insR a acc) p=q.reverse++p
 | [],p,_=>rfl
 | x::q,p,h=>by
  rw [List.foldl_cons]
  have hx:insR x p=x::p:=by
   cases p with
   | nil=>rfl
   | cons b p=>
    have:∀ u:List Pr,fall (u++(x::b::p))→Op.bytesLess x.Key b.Key=false:=by
     intro u
     induction u with
     | nil=>exact λh=>h.1
     | cons y u ih=>
      intro h
      cases u with
      | nil=>exact h.2.1
      | cons z u=>exact ih h.2
    rw [insR,if_neg (by rw [this q.reverse (by simpa using h)];simp)]
  rw [hx,srt_fall q (x::p) (by simpa using h)];simp
theorem srt_id {l:List Pr} (h:fall l.reverse):srt l=l:=by unfold srt;rw [srt_fall l [] (by simpa using h)];simp
theorem lt_asymm {x y:Txt} (h:Op.bytesLess x y=true):Op.bytesLess y x=false:=by
 rw [bytesLess_eq] at h ⊢;simp at h ⊢;exact List.le_of_lt h
theorem le_trans {x y z:Txt} (h:Op.bytesLess y x=false) (h':Op.bytesLess z y=false):Op.bytesLess z x=false:=by
 rw [bytesLess_eq] at h h' ⊢;simp at h h' ⊢;exact List.le_trans h h'
def ge (a b:Pr):Prop:=Op.bytesLess a.Key b.Key=false
theorem insR_perm (x:Pr):∀ p:List Pr,(insR x p).Perm (x::p)
 | []=>.refl _
 | b::p=>by
  unfold insR;split
  ·exact ((insR_perm x p).cons b).trans (.swap x b p)
  ·exact .refl _
theorem insR_ge (x:Pr):∀ p:List Pr,p.Pairwise ge→(insR x p).Pairwise ge
 | [],_=>by simp [insR]
 | b::p,h=>by
  obtain ⟨h1,h2⟩:=List.pairwise_cons.1 h;unfold insR;split
  ·rename_i hx
   refine List.pairwise_cons.2 ⟨λa ha=>?_,insR_ge x p h2⟩
   rcases (insR_mem x a p).1 ha with rfl|ha
   ·exact lt_asymm hx
   ·exact h1 a ha
  ·rename_i hx
   simp only [Bool.not_eq_true] at hx;refine List.pairwise_cons.2 ⟨λa ha=>?_,h⟩
   rcases List.mem_cons.1 ha with rfl|ha
   ·exact hx
   ·exact le_trans (h1 a ha) hx
theorem fold_ge:∀ (l p:List Pr),p.Pairwise ge→(l.foldl (λacc a=>insR a acc) p).Pairwise ge∧(l.foldl (λacc a=>insR a acc) p).Perm (l.reverse++p)
 | [],p,h=>⟨h,.refl _⟩
 | x::l,p,h=>by
  obtain ⟨h1,h2⟩:=fold_ge l (insR x p) (insR_ge x p h);refine ⟨h1,h2.trans ?_⟩;rw [List.reverse_cons,List.append_assoc];exact (insR_perm x p).append_left _
theorem srt_perm (l:List Pr):(srt l).Perm l:=by
 have:=(fold_ge l [] .nil).2;rw [List.append_nil] at this;exact (List.reverse_perm _).trans (this.trans (List.reverse_perm l))
def le (a b:Pr):Prop:=Op.bytesLess b.Key a.Key=false
theorem srt_le (l:List Pr):(srt l).Pairwise le:=by
 have:=(fold_ge l [] .nil).1;unfold srt;rw [List.pairwise_reverse];exact this
theorem chk_iff:∀ (l p:List Pr),chk p l=0↔(∀ a∈l,nameB a.Key=true∧valB a.Val=true)∧(∀ a∈l,∀ b∈p,b.Key≠a.Key)∧l.Pairwise (λa b=>a.Key≠b.Key)
 | [],p=>by simp [chk]
 | x::l,p=>by
  rw [chk]
  by_cases hx:(nameB x.Key&&valB x.Val)=true
  ·rw [if_pos hx]
   by_cases hp:p.any (λb=>decide (b.Key=x.Key))=true
   ·rw [if_pos hp]
    simp at hp;obtain ⟨b,hb,hk⟩:=hp
    constructor
    ·intro h;cases h
    ·intro h;exact absurd hk (h.2.1 x (by simp) b hb)
   ·rw [if_neg hp,chk_iff l (p++[x])]
    simp at hx hp ⊢
    grind
  ·rw [if_neg hx]
   simp at hx ⊢
   grind
theorem chk_srt {l:List Pr} (h:chk [] l=0):chk [] (srt l)=0:=by
 rw [chk_iff] at h ⊢;refine ⟨λa ha=>h.1 a ((srt_mem a l).1 ha),λ_ _ _ hb=>(by cases hb),?_⟩;exact ((srt_perm l).pairwise_iff (fun {x y} h=>h.symm)).2 h.2.2
theorem spl_body:∀ (p:Txt) (ps:List Txt),(∀ x∈p,x≠59)→(∀ p∈ps,∀ x∈p,x≠59)→spl (p++ps.flatMap (λp=>59::p))=(p,ps)
 | x::p,ps,h,hs=>by
  rw [List.cons_append,spl,if_neg (h x (by simp)),spl_body p ps (λy hy=>h y (by simp [hy])) hs]
 | [],[],_,_=>rfl
 | [],q::ps,_,hs=>by
  rw [List.nil_append,List.flatMap_cons,List.cons_append,spl,if_pos rfl,spl_body q ps (hs q (by simp)) (λp hp=>hs p (by simp [hp]))]
termination_by p ps=>(ps.length,p.length)
def body (a:Pr):Txt:=a.Key++61::a.Val
theorem texts_body (l:List Pr):texts l=(l.map body).flatMap (λp=>59::p):=by
 unfold texts
 induction l with
 | nil=>rfl
 | cons a l ih=>rw [List.flatMap_cons,ih,List.map_cons,List.flatMap_cons];simp [at1,body]
theorem nmC_free {c:UInt8} (h:nmC c=true):c≠59∧c≠61:=by
 constructor
 ·intro e;subst e;revert h;decide
 ·intro e;subst e;revert h;decide
theorem nameB_free {s:Txt} (h:nameB s=true):∀ x∈s,x≠59∧x≠61:=by
 intro x hx;unfold nameB at h
 match s,h,hx with
 | c::t,h,hx=>
  simp at h
  rcases List.mem_cons.1 hx with rfl|hx
  ·exact nmC_free (by simp [nmC,h.2.1])
  ·exact nmC_free (h.2.2 x hx)
theorem valB_free {s:Txt} (h:valB s=true):∀ x∈s,x≠59:=by
 intro x hx e;subst e;unfold valB at h;simp at h;have:=h.2 _ hx
 revert this;decide
theorem cut1_body:∀ (k v:Txt),(∀ x∈k,x≠61)→cut1 61 (k++61::v)=(k,v,true)
 | [],v,_=>rfl
 | x::k,v,h=>by rw [List.cons_append,cut1,if_neg (h x (by simp)),cut1_body k v λy hy=>h y (by simp [hy])]
theorem pairOf_body {a:Pr} (hn:nameB a.Key=true) (hv:valB a.Val=true):pairOf (body a)=some a:=by
 unfold pairOf body;rw [cut1_body _ _ λx hx=>(nameB_free hn x hx).2];simp [hn,hv]
theorem pgo_text (name:Txt):∀ (q p:List Pr) (at_:Int),(p++q).length≤4→chk [] (p++q)=0→(p++q).Pairwise le→pgo name p at_ (q.map body)=(name,p++q,0,0)
 | [],p,at_,_,_,_=>by simp [pgo]
 | a::q,p,at_,h4,hc,hl=>by
  have hc':=(chk_iff _ _).1 hc;obtain ⟨hn,hv⟩:=hc'.1 a (by simp);have ih:=pgo_text name q (p++[a]) (at_+(body a).length+1) (by simpa using h4) (by simpa using hc) (by simpa using hl)
  have hfo:foll p a.Key=0:=by
   unfold foll;rw [if_neg]
   ·cases hb:p.getLast? with
    | none=>rfl
    | some b=>
     have:le b a:=(List.pairwise_append.1 hl).2.2 b (List.mem_of_getLast? hb) a (by simp);dsimp only;rw [if_neg (by rw [this];simp)]
   ·simp
    intro b hb;exact (List.pairwise_append.1 hc'.2.2).2.2 b hb a (by simp)
  rw [List.map_cons,pgo,if_neg (by simp at h4;omega),pairOf_body hn hv];dsimp only;rw [if_pos hfo,ih];simp
theorem parse_text {name:Txt} {l:List Pr} (h:check name l=0):parse (name++texts (srt l))=(name,srt l,0,0):=by
 obtain ⟨h1,h2,h3⟩:=check_ok h;have hcs:=chk_srt h3;have hc:=(chk_iff _ _).1 hcs
 have hsp:spl (name++texts (srt l))=(name,(srt l).map body):=by
  rw [texts_body]
  refine spl_body _ _ (λx hx=>(nameB_free h1 x hx).1) λp hp x hx=>?_
  obtain ⟨a,ha,rfl⟩:=List.mem_map.1 hp;unfold body at hx
  rcases List.mem_append.1 hx with hx|hx
  ·exact (nameB_free (hc.1 a ha).1 x hx).1
  ·rcases List.mem_cons.1 hx with rfl | hx
   ·decide
   ·exact valB_free (hc.1 a ha).2 x hx
 unfold parse;rw [hsp];dsimp only;rw [if_pos h1];have:=pgo_text name (srt l) [] (name.length+1) (by rw [List.nil_append,srt_len];exact h2) (by rw [List.nil_append];exact hcs) (by rw [List.nil_append];exact srt_le l);rw [this];simp
theorem text_inj {n1 n2:Txt} {l1 l2:List Pr} (h1:check n1 l1=0) (h2:check n2 l2=0):n1++texts (srt l1)=n2++texts (srt l2)↔n1=n2∧srt l1=srt l2:=by
 constructor
 ·intro h
  have e1:=parse_text h1;have e2:=parse_text h2;rw [h,e2] at e1;simp at e1;exact ⟨e1.1.symm,e1.2.symm⟩
 ·rintro ⟨rfl,h⟩;rw [h]
theorem light_len {l:List Pr} (h:light l=true):l.length≤20:=by unfold light at h;simp at h;exact h.1
theorem text_len {name:Txt} {l:List Pr} (h:check name l=0):(name++texts (srt l)).length≤32+66*4:=by
 obtain ⟨h1,h2,h3⟩:=check_ok h;have:=nameB_len h1
 have ht:∀ m:List Pr,(∀ a∈m,a.Key.length≤32∧a.Val.length≤32)→(texts m).length≤66*m.length:=by
  intro m
  induction m with
  | nil=>intro _;simp [texts]
  | cons a m ih=>intro hm;have:=ih λb hb=>hm b (by simp [hb]);have:=hm a (by simp);rw [texts_cons,List.length_append,at1_len,List.length_cons];omega
 have hs:=(chk_iff _ _).1 (chk_srt h3)
 have:=ht (srt l) λa ha=>⟨nameB_len (hs.1 a ha).1,valB_len (hs.1 a ha).2⟩
 rw [srt_len] at this;rw [List.length_append];omega
def finB (x:UInt64):Bool:=decide (x.toNat/4503599627370496%2048≠2047)
theorem and_exp (x:Nat):x&&&9218868437227405312=(x/4503599627370496%2048)*4503599627370496:=by
 have e1:x/4503599627370496%2048=(x>>>52)&&&(2^11-1):=by rw [Nat.and_two_pow_sub_one_eq_mod,Nat.shiftRight_eq_div_pow]
 have e2:((x>>>52)&&&(2^11-1))*4503599627370496=((x>>>52)&&&(2^11-1))<<<52:=by rw [Nat.shiftLeft_eq]
 rw [e1,e2]
 apply Nat.eq_of_testBit_eq
 intro i;rw [Nat.testBit_and,Nat.testBit_shiftLeft,Nat.testBit_and,Nat.testBit_shiftRight,Nat.testBit_two_pow_sub_one,show (9218868437227405312:Nat)=(2^11-1)<<<52 by decide,Nat.testBit_shiftLeft,Nat.testBit_two_pow_sub_one]
 by_cases h:i≥52
 ·rw [show 52+(i-52)=i by omega]
  simp [h]
 ·simp [h]
theorem fin_eq (x:UInt64):m_num_Finite x=some (finB x):=by
 unfold m_num_Finite finB
 congr 1
 apply decide_eq_decide.2
 rw [UInt64.toNat_and,show (9218868437227405312:UInt64).toNat=9218868437227405312 by rfl,and_exp]
 omega
def ltZ (x:UInt64):Bool:=decide (9223372036854775808≤x.toNat∧x.toNat%9223372036854775808≠0∧x.toNat%9223372036854775808≤9218868437227405312)
theorem less_eq (x:UInt64):m_num_Less x 0=some (ltZ x):=by
 have hx:=x.toNat_lt;unfold m_num_Less m_num_of fltLt ltZ;rw [bndS,bndS]
 congr 1
 have r0:Ieee.Format.read Ieee.double (0:UInt64).toNat=.number false 0 (-1074):=by decide
 show (Ieee.Datum.order (Ieee.Format.read Ieee.double x.toNat) (Ieee.Format.read Ieee.double (0:UInt64).toNat)==some .lt)=_;rw [r0];generalize x.toNat=v at *;unfold Ieee.Format.read
 have sw:Ieee.double.signWeight=9223372036854775808:=by decide
 have bn:Ieee.double.binade=4503599627370496:=by decide
 have ir:Ieee.double.infRung=9218868437227405312:=by decide
 have lp:Ieee.double.leastPlace=-1074:=by decide
 dsimp only;rw [sw,bn,ir,lp]
 have hs:(v/9223372036854775808%2==1)=decide (9223372036854775808≤v):=by
  by_cases h:9223372036854775808≤v
  ·rw [decide_eq_true h];have:v/9223372036854775808%2=1:=by omega
   rw [this];rfl
  ·rw [decide_eq_false h];have:v/9223372036854775808%2=0:=by omega
   rw [this];rfl
 rw [hs];generalize hb:decide (9223372036854775808≤v)=s
 have hb':s=true↔9223372036854775808≤v:=by rw [← hb];exact decide_eq_true_iff
 have cmp:∀ (m k:Nat),(Ieee.Datum.order (.number s m (-1074+(k:Int))) (.number false 0 (-1074))==some .lt)=decide (s=true∧m≠0):=by
  intro m k
  have e1:min (-1074+(k:Int)) (-1074)=-1074:=by omega
  show (some (compare (Ieee.signed s m ((-1074+(k:Int))-min (-1074+(k:Int)) (-1074)).toNat) (Ieee.signed false 0 ((-1074:Int)-min (-1074+(k:Int)) (-1074)).toNat))==some .lt)=_;rw [e1,show ((-1074+(k:Int))-(-1074)).toNat=k by omega,show ((-1074:Int)-(-1074)).toNat=0 by rfl];unfold Ieee.signed;rw [if_neg (show ¬(false=true) by decide),show ((0<<<0:Nat):Int)=0 by rfl,Nat.shiftLeft_eq];have hp:=Nat.two_pow_pos k
  cases s with
  | false=>
   have:¬(((m*2^k:Nat):Int)<0):=by omega
   simp only [compare,compareOfLessAndEq];rw [if_neg (show ¬(if false=true then -((m*2^k:Nat):Int) else ((m*2^k:Nat):Int))<0 from this)]
   (repeat' split)<;>first | rfl | (exfalso;simp_all) | simp
  | true=>
   by_cases hm:m=0
   ·subst hm;simp [compare,compareOfLessAndEq]
   ·have h0:0<m*2^k:=Nat.mul_pos (by omega) hp
    have:(-((m*2^k:Nat):Int)<0):=by omega
    simp only [compare,compareOfLessAndEq];rw [if_pos (show (if True then -((m*2^k:Nat):Int) else ((m*2^k:Nat):Int))<0 by rw [if_pos trivial];exact this)];simp [hm]
 by_cases h1:v%9223372036854775808<4503599627370496
 ·rw [if_pos h1]
  refine (cmp (v%9223372036854775808) 0).trans ?_
  apply decide_eq_decide.2;rw [hb'];omega
 ·rw [if_neg h1]
  by_cases h2:v%9223372036854775808<9218868437227405312
  ·rw [if_pos h2]
   refine (cmp (4503599627370496+v%9223372036854775808%4503599627370496) _).trans ?_
   apply decide_eq_decide.2;rw [hb'];omega
  ·rw [if_neg h2]
   by_cases h3:v%9223372036854775808=9218868437227405312
   ·rw [if_pos h3]
    show (some (if s=true then Ordering.lt else .gt)==some .lt)=_
    have:decide (s=true)=decide (9223372036854775808≤v∧v%9223372036854775808≠0∧v%9223372036854775808≤9218868437227405312):=by apply decide_eq_decide.2;rw [hb'];omega
    rw [← this];cases s<;>rfl
   ·rw [if_neg h3]
    show false=_
    symm;rw [decide_eq_false_iff_not];omega
abbrev Pt:=T_api_Point
def kindsB (p:Pt):Bool:=if p.Kind=3 then decide (p.Temp=0) else decide (1≤p.Kind∧p.Kind≤5)&&decide (p.Temp=1∨p.Temp=2)
theorem kinds_eq (p:Pt):m_point_kinds p=some (kindsB p):=by
 unfold m_point_kinds kindsB;rw [jn_eq]
 by_cases h3:p.Kind=3
 ·rw [if_pos h3,if_pos h3]
 ·rw [if_neg h3,if_neg h3]
  by_cases h1:p.Kind=1
  ·simp [h1]
  ·by_cases h2:p.Kind=2
   ·simp [h2]
   ·by_cases h4:p.Kind=4
    ·simp [h4]
    ·by_cases h5:p.Kind=5
     ·simp [h5]
     ·have:¬(1≤p.Kind∧p.Kind≤5):=by omega
      simp [h1,h2,h4,h5,this]
def timesB (p:Pt):Bool:=decide (0≤p.Start∧p.Time≤4503599627370496∧(if p.Kind=3 then p.Start=p.Time else p.Start<p.Time))
theorem times_eq (p:Pt):m_point_times p=some (timesB p):=by
 unfold m_point_times timesB
 by_cases h:p.Start<0∨p.Time>4503599627370496
 ·rw [if_pos h];congr 1;symm;rw [decide_eq_false_iff_not];omega
 ·rw [if_neg h]
  split<;>(congr 1;apply decide_eq_decide.2;omega)
def bareB (h:T_api_Hist):Bool:=decide (h.Scale=0∧h.Zero=0∧h.Pos.Offset=0∧h.Neg.Offset=0∧h.Pos.Counts=[]∧h.Neg.Counts=[])
theorem u64z (x:UInt64):((x.toNat:Nat):Int)=0↔x=0:=by
 constructor
 ·intro h;apply UInt64.toNat_inj.1;simp;omega
 ·rintro rfl;rfl
theorem bare_eq (h:T_api_Hist) (h1:h.Pos.Counts.length≤1000000) (h2:h.Neg.Counts.length≤1000000):m_point_bare h=some (bareB h):=by
 unfold m_point_bare bareB;rw [jn_eq,W64_id (by omega) (by omega)];simp only [u64z]
 have e:((h.Pos.Counts.length:Int)+(h.Neg.Counts.length:Int)=0)↔h.Pos.Counts=[]∧h.Neg.Counts=[]:=by
  rw [← List.length_eq_zero_iff,← List.length_eq_zero_iff];omega
 simp only [e]
 split
 ·rename_i hh;congr 1;apply decide_eq_decide.2;simp [hh]
 ·rename_i hh;congr 1;symm;rw [decide_eq_false_iff_not];intro hc;exact hh ⟨⟨⟨hc.1,hc.2.1⟩,hc.2.2.1⟩,hc.2.2.2.1⟩
def ownB (p:Pt):Bool:=decide ((p.Kind≠1→p.Int_=0)∧(¬(p.Kind=2∨p.Kind=3∨p.Kind=5)→p.Re=0)∧(p.Kind≠5→p.Im=0)∧(p.Kind≠4→bareB p.Hist=true)∧0≤p.Flags∧p.Flags≤31)
theorem own_eq (p:Pt) (h1:p.Hist.Pos.Counts.length≤1000000) (h2:p.Hist.Neg.Counts.length≤1000000):m_point_own p=some (ownB p):=by
 unfold m_point_own ownB;rw [jn_eq,bare_eq _ h1 h2,jn_eq];simp only [u64z,ne_eq]
 by_cases a1:¬p.Kind=1∧¬p.Int_=0
 ·rw [if_pos a1,decide_eq_true a1,if_pos rfl];congr 1;symm;rw [decide_eq_false_iff_not];intro hc;exact a1.2 (hc.1 a1.1)
 ·rw [if_neg a1]
  by_cases a2:(¬((p.Kind=2∨p.Kind=3)∨p.Kind=5))∧¬p.Re=0
  ·rw [if_pos a2,decide_eq_true a2,if_pos rfl];congr 1;symm;rw [decide_eq_false_iff_not];intro hc;exact a2.2 (hc.2.1 (by intro h;exact a2.1 (by omega)))
  ·rw [if_neg a2]
   by_cases a3:¬p.Kind=5∧¬p.Im=0
   ·rw [if_pos a3,decide_eq_true a3,if_pos rfl];congr 1;symm;rw [decide_eq_false_iff_not];intro hc;exact a3.2 (hc.2.2.1 a3.1)
   ·rw [if_neg a3]
    have b1:¬p.Kind=1→p.Int_=0:=λh=>Classical.byContradiction λh'=>a1 ⟨h,h'⟩
    have b2:¬(p.Kind=2∨p.Kind=3∨p.Kind=5)→p.Re=0:=λh=>Classical.byContradiction λh'=>a2 ⟨by omega,h'⟩
    have b3:¬p.Kind=5→p.Im=0:=λh=>Classical.byContradiction λh'=>a3 ⟨h,h'⟩
    by_cases a4:p.Kind=4
    ·rw [if_neg (by simpa using a4)]
     simp only [Bool.false_eq_true,if_false]
     by_cases a5:p.Flags<0∨p.Flags>31
     ·rw [decide_eq_true a5,if_pos rfl];congr 1;symm;rw [decide_eq_false_iff_not];omega
     ·rw [decide_eq_false a5];simp only [Bool.false_eq_true,if_false];congr 1;symm;rw [decide_eq_true_iff];exact ⟨b1,b2,b3,λh=>(h a4).elim,by omega,by omega⟩
    ·rw [if_pos a4,bndS]
     cases hb:bareB p.Hist with
     | false=>simp only [Bool.not_false,if_true];congr 1;symm;rw [decide_eq_false_iff_not];intro hc;have:=hc.2.2.2.1 a4;cases this
     | true=>
      simp only [Bool.not_true,Bool.false_eq_true,if_false]
      by_cases a5:p.Flags<0∨p.Flags>31
      ·rw [decide_eq_true a5,if_pos rfl];congr 1;symm;rw [decide_eq_false_iff_not];omega
      ·rw [decide_eq_false a5];simp only [Bool.false_eq_true,if_false];congr 1;symm;rw [decide_eq_true_iff];exact ⟨b1,b2,b3,λ_=>by first | rfl | trivial,by omega,by omega⟩
def pcE (p:Pt):Int:=
 if check p.Name p.Attrs≠0 then check p.Name p.Attrs
 else if kindsB p=false then 14
 else if p.Mono=true∧p.Kind≠1∧p.Kind≠2 then 1
 else if timesB p=false then 1
 else if ownB p=false then 3
 else if (p.Mono=true∧p.Kind=2)∧finB p.Re=false then 11
 else if p.Mono=true∧(p.Int_<0∨ltZ p.Re=true) then 1
 else if p.Kind=4 then hcE p.Hist else 0
theorem PCheck_eq (p:Pt) (h1:p.Hist.Pos.Counts.length≤1000000) (h2:p.Hist.Neg.Counts.length≤1000000):m_point_Check p=some (pcE p):=by
 unfold m_point_Check pcE m_point_sum;rw [check_eq,bndS]
 by_cases c:check p.Name p.Attrs≠0
 ·rw [if_pos c,if_pos c]
 rw [if_neg c,if_neg c,kinds_eq,bndS]
 cases hk:kindsB p with
 | false=>rw [if_pos (by rfl),if_pos rfl]
 | true=>
  rw [if_neg (by decide),if_neg (show ¬(true=false) by decide)];simp only [jn_eq,bndS,times_eq,own_eq p h1 h2,fin_eq,less_eq,HCheck_eq p.Hist h1 h2]
  have e1:(p.Mono=true∧p.Kind≠1∧p.Kind≠2)↔(if p.Mono=true then (!decide ((p.Kind=1)∨(p.Kind=2))) else false)=true:=by
   cases p.Mono<;>simp
  cases hm:p.Mono with
  | false=>
   simp only [Bool.false_eq_true,if_false,false_and]
   cases timesB p<;>simp
   cases ownB p<;>simp
   split<;>rfl
  | true=>
   simp only [if_true,true_and]
   by_cases hs:p.Kind=1∨p.Kind=2
   ·rw [decide_eq_true hs]
    simp only [Bool.not_true,Bool.false_eq_true,if_false];rw [if_neg (show ¬(p.Kind≠1∧p.Kind≠2) by omega)]
    cases timesB p<;>simp
    cases ownB p<;>simp
    have h4:¬p.Kind=4:=by omega
    by_cases h2:p.Kind=2
    ·simp only [h2,if_true,true_and]
     cases finB p.Re<;>simp
     by_cases hi:p.Int_<0
     ·simp [hi]
     ·simp [hi];split<;>rfl
    ·simp only [h2,if_false,false_and]
     by_cases hi:p.Int_<0
     ·simp [hi]
     ·simp [hi,h4];split<;>rfl
   ·rw [decide_eq_false hs,if_pos (show p.Kind≠1∧p.Kind≠2 by omega)]
    simp
theorem u64ne (x y:UInt64):(((x.toNat:Nat):Int)≠((y.toNat:Nat):Int))↔x≠y:=by
 constructor
 ·rintro h rfl;exact h rfl
 ·intro h hh;exact h (UInt64.toNat_inj.1 (by omega))
theorem u64eq (x y:UInt64):(((x.toNat:Nat):Int)=((y.toNat:Nat):Int))↔x=y:=by
 constructor
 ·intro hh;exact UInt64.toNat_inj.1 (by omega)
 ·rintro rfl;rfl
theorem scan_same {α:Type} [DecidableEq α] (a b:List α) (hl:a.length=b.length) (B:Nat→α→Unit→(Unit→Option Bool)→Option Bool) (J:Unit→Option Bool) (hJ:J ()=some true)
 (hB:∀ i x k,B i x () k=(idx b (i:Int)).bind λy=>if x≠y then some false else k ()):scanL a () B J=some (decide (a=b)):=by
 rw [scanL_pre (λp q _=>some (decide (q=b.drop p.length))) ?_ ?_]
 ·simp
 ·intro s;rw [hJ];simp [hl]
 ·intro p x q _ k hp hk
  rw [hB,hk]
  have:p.length<b.length:=by rw [← hl,← hp];simp
  rw [idx_at this,bndS,List.drop_eq_getElem_cons this,List.length_append,List.length_singleton]
  by_cases hx:x=b[p.length]
  ·rw [if_neg (λh=>h hx)];congr 1;apply decide_eq_decide.2;rw [List.cons.injEq];exact ⟨λh=>⟨hx,h⟩,λh=>h.2⟩
  ·rw [if_pos hx,decide_eq_false];rw [List.cons.injEq];exact λh=>hx h.1
theorem side_ext (a b:T_api_Side):a=b↔a.Offset=b.Offset∧a.Counts=b.Counts:=by cases a;cases b;simp
theorem rsame_eq (a b:T_api_Side) (h:a.Counts.length≤1000000):m_limnographref08_SameSide a b=some (decide (a=b)):=by
 unfold m_limnographref08_SameSide
 by_cases hc:a.Offset≠b.Offset∨(a.Counts.length:Int)≠(b.Counts.length:Int)
 ·rw [if_pos hc];congr 1;symm;rw [decide_eq_false_iff_not,side_ext];rintro ⟨h1,h2⟩;rw [h1,h2] at hc;simp at hc
 ·rw [if_neg hc,jn_eq,m_limnographref08_SameSide_L1_scan _ _ _ (by omega)]
  have:=scan_same a.Counts b.Counts (by omega) (λii xx ss kk=>(some xx).bind λz21=>(idx b.Counts (ii:Int)).bind λz24=>if ((z21).toNat:Int)≠((z24).toNat:Int) then (some false) else (kk ())) (λ_=>some true) rfl λi x k=>by rw [bndS];simp only [u64ne]
  refine this.trans ?_
  congr 1;apply decide_eq_decide.2;rw [side_ext];constructor
  ·intro h;exact ⟨by omega,h⟩
  ·exact λh=>h.2
theorem hist_ext (a b:T_api_Hist):a=b↔(a.Scale=b.Scale∧a.Zero=b.Zero)∧a.Pos=b.Pos∧a.Neg=b.Neg:=by cases a;cases b;simp [and_assoc]
theorem rHist_eq (a b:T_api_Hist) (h1:a.Pos.Counts.length≤1000000) (h2:a.Neg.Counts.length≤1000000):m_limnographref08_Same a b=some (decide (a=b)):=by
 unfold m_limnographref08_Same;rw [rsame_eq _ _ h1,rsame_eq _ _ h2];simp only [u64eq,bndS,jn_eq]
 by_cases hc:a.Scale=b.Scale∧a.Zero=b.Zero
 ·rw [if_pos hc]
  by_cases hp:a.Pos=b.Pos
  ·rw [decide_eq_true hp,if_pos rfl];congr 1;apply decide_eq_decide.2;rw [hist_ext];simp [hc,hp]
  ·rw [decide_eq_false hp];simp only [Bool.false_eq_true,if_false];congr 1;symm;rw [decide_eq_false_iff_not,hist_ext];exact λh=>hp h.2.1
 ·rw [if_neg hc];simp only [Bool.false_eq_true,if_false];congr 1;symm;rw [decide_eq_false_iff_not,hist_ext];exact λh=>hc h.1
def sameP (a b:Pt):Prop:=a.Name=b.Name∧srt a.Attrs=srt b.Attrs∧a.Hist=b.Hist∧a.Kind=b.Kind∧a.Temp=b.Temp∧a.Mono=b.Mono∧a.Start=b.Start∧a.Time=b.Time∧a.Int_=b.Int_∧a.Re=b.Re∧a.Im=b.Im∧a.Flags=b.Flags
instance (a b:Pt):Decidable (sameP a b):=by unfold sameP;infer_instance
structure Few (x:Pt):Prop where
 a:x.Attrs.length≤20
 p:x.Hist.Pos.Counts.length≤1000000
 n:x.Hist.Neg.Counts.length≤1000000
theorem rSame_eq {a b:Pt} (ha:Few a) (hb:Few b):m_limnographref12_Same a b=some (decide (sameP a b)):=by
 unfold m_limnographref12_Same
 have e:∀ l:List Pr,l.length≤20→(srt l).length<4611686018427387904:=λl hl=>by rw [srt_len];omega
 have ea:=ha.a;have eb:=hb.a;rw [jn_eq,refSorted_eq _ (by omega),refSorted_eq _ (by omega),bndS,bndS,same_eq _ _ (e _ ha.a),bndS,rHist_eq _ _ ha.p ha.n];simp only [bndS,jn_eq,u64eq]
 by_cases h1:a.Name=b.Name
 ·rw [if_neg (λh=>h h1)]
  by_cases h2:srt a.Attrs=srt b.Attrs
  ·rw [decide_eq_true h2]
   simp only [Bool.not_true,Bool.false_eq_true,if_false]
   by_cases h3:(((a.Kind≠b.Kind∨a.Temp≠b.Temp)∨a.Mono≠b.Mono)∨a.Start≠b.Start)∨a.Time≠b.Time
   ·rw [if_pos h3];congr 1;symm;rw [decide_eq_false_iff_not];rintro ⟨_,_,_,q1,q2,q3,q4,q5,_⟩;rcases h3 with (((h | h) | h) | h) | h
    ·exact h q1
    ·exact h q2
    ·exact h q3
    ·exact h q4
    ·exact h q5
   ·rw [if_neg h3]
    simp only [not_or,ne_eq,Decidable.not_not] at h3;obtain ⟨⟨⟨⟨q1,q2⟩,q3⟩,q4⟩,q5⟩:=h3
    by_cases h4:((a.Int_=b.Int_∧a.Re=b.Re)∧a.Im=b.Im)∧a.Flags=b.Flags
    ·rw [if_pos h4]
     obtain ⟨⟨⟨r1,r2⟩,r3⟩,r4⟩:=h4
     congr 1;apply decide_eq_decide.2;simp [sameP,h1,h2,q1,q2,q3,q4,q5,r1,r2,r3,r4]
    ·rw [if_neg h4];congr 1;symm;rw [decide_eq_false_iff_not];rintro ⟨_,_,_,_,_,_,_,_,r1,r2,r3,r4⟩;exact h4 ⟨⟨⟨r1,r2⟩,r3⟩,r4⟩
  ·rw [decide_eq_false h2];simp only [Bool.not_false,if_true];congr 1;symm;rw [decide_eq_false_iff_not];exact λh=>h2 h.2.1
 ·rw [if_pos h1,if_pos trivial];congr 1;symm;rw [decide_eq_false_iff_not];exact λh=>h1 h.1
structure PtR (p:Pt):Prop where
 c:check p.Name p.Attrs=0
 k:kindsB p=true
 t:timesB p=true
 o:ownB p=true
 h:p.Kind=4→hcE p.Hist=0
theorem pcE_ok {p:Pt} (h:pcE p=0):PtR p:=by
 unfold pcE at h
 by_cases c:check p.Name p.Attrs≠0
 ·rw [if_pos c] at h;exact (c h).elim
 rw [if_neg c] at h
 by_cases k:kindsB p=false
 ·rw [if_pos k] at h;exact absurd h (by decide)
 rw [if_neg k] at h
 by_cases s:p.Mono=true∧p.Kind≠1∧p.Kind≠2
 ·rw [if_pos s] at h;exact absurd h (by decide)
 rw [if_neg s] at h
 by_cases t:timesB p=false
 ·rw [if_pos t] at h;exact absurd h (by decide)
 rw [if_neg t] at h
 by_cases o:ownB p=false
 ·rw [if_pos o] at h;exact absurd h (by decide)
 rw [if_neg o] at h
 by_cases f:(p.Mono=true∧p.Kind=2)∧finB p.Re=false
 ·rw [if_pos f] at h;exact absurd h (by decide)
 rw [if_neg f] at h
 by_cases l:p.Mono=true∧(p.Int_<0∨ltZ p.Re=true)
 ·rw [if_pos l] at h;exact absurd h (by decide)
 rw [if_neg l] at h;refine ⟨Classical.not_not.1 c,by simpa using k,by simpa using t,by simpa using o,λh4=>?_⟩;rw [if_pos h4] at h;exact h
theorem light12 (p:Pt):m_limnographref12_Light p=some (decide (p.Name.length≤100)&&light p.Attrs&&decide (p.Hist.Pos.Counts.length≤300∧p.Hist.Neg.Counts.length≤300)):=by
 unfold m_limnographref12_Light m_limnographref08_Light;rw [jn_eq,light_eq]
 have e1:((p.Hist.Pos.Counts.length:Int)≤300)↔p.Hist.Pos.Counts.length≤300:=by omega
 have e2:((p.Hist.Neg.Counts.length:Int)≤300)↔p.Hist.Neg.Counts.length≤300:=by omega
 simp only [jn_eq,bndS,e1,e2]
 by_cases h1:(p.Name.length:Int)≤100
 ·rw [if_pos h1,decide_eq_true (by omega:p.Name.length≤100)]
  cases light p.Attrs with
  | false=>simp
  | true=>simp
 ·rw [if_neg h1,decide_eq_false (by omega:¬p.Name.length≤100)];simp
theorem light_few {p:Pt} (h:(decide (p.Name.length≤100)&&light p.Attrs&&decide (p.Hist.Pos.Counts.length≤300∧p.Hist.Neg.Counts.length≤300))=true):Few p∧p.Hist.Pos.Counts.length≤300∧p.Hist.Neg.Counts.length≤300:=by
 simp only [Bool.and_eq_true,decide_eq_true_iff] at h;obtain ⟨⟨_,h2⟩,h3,h4⟩:=h;exact ⟨⟨light_len h2,by omega,by omega⟩,h3,h4⟩
theorem clone_pt (p:Pt) (h:Few p):m_point_Clone p=some p:=by
 have:=h.a;have:=h.p;have:=h.n;unfold m_point_Clone m_slices_Clone_api_Pair_api_Pair m_hist_Clone m_slices_Clone_uint64_uint64;rw [app_some (by simp;omega),bndS,app_some (by simp;omega),bndS,app_some (by simp;omega),bndS,bndS]
 rfl
def mono (b:Bool):Nat:=if b=true then 1 else 0
theorem pt_nums {p:Pt} (h:PtR p):1≤p.Kind∧p.Kind≤5∧0≤p.Temp∧p.Temp≤2∧0≤p.Flags∧p.Flags≤31∧0≤p.Start∧p.Start≤p.Time∧p.Time≤4503599627370496:=by
 obtain ⟨_,hk,ht,ho,_⟩:=h;unfold kindsB at hk;unfold timesB at ht;unfold ownB at ho;rw [decide_eq_true_iff] at ht ho;obtain ⟨t1,t2,t3⟩:=ht;obtain ⟨_,_,_,_,o1,o2⟩:=ho
 by_cases h3:p.Kind=3
 ·rw [if_pos h3] at hk t3
  rw [decide_eq_true_iff] at hk
  omega
 ·rw [if_neg h3] at hk t3
  simp only [Bool.and_eq_true,decide_eq_true_iff] at hk
  omega
def keyE (p:Pt):List UInt8:=(p.Name++texts (srt p.Attrs))++([32]++[UInt8.ofNat (48+p.Kind.toNat),UInt8.ofNat (48+p.Temp.toNat),UInt8.ofNat (48+mono p.Mono)])
theorem toU8_dig {x:Int} (h0:0≤x) (h1:x≤100):toU8 (W64 (48+x))=UInt8.ofNat (48+x.toNat):=by
 rw [W64_id (by omega) (by omega),show 48+x=((48+x.toNat:Nat):Int) by omega,toU8_nat,Nat.mod_eq_of_lt (by omega)]
def keyR (p:Pt):List UInt8×Int:=if pcE p=0 then (keyE p,0) else ([],pcE p)
theorem key_eq (p:Pt) (h1:p.Hist.Pos.Counts.length≤1000000) (h2:p.Hist.Neg.Counts.length≤1000000):m_point_Key p=some (keyR p):=by
 unfold m_point_Key keyR;rw [PCheck_eq p h1 h2,bndS]
 by_cases h0:pcE p=0
 ·rw [if_neg (by simpa using h0),if_pos h0]
  have hp:=pcE_ok h0;obtain ⟨k1,k2,t1,t2,f1,f2,s1,s2,s3⟩:=pt_nums hp;have htl:=text_len hp.c
  have hT:m_label_Text p.Name p.Attrs=some (p.Name++texts (srt p.Attrs),0):=by rw [text_eq,text,if_pos hp.c]
  have hbit:m_point_bit p.Mono=some (mono p.Mono:Int):=by unfold m_point_bit mono;cases p.Mono<;>rfl
  have hm1:mono p.Mono≤1:=by unfold mono;split<;>omega
  rw [hT,bndS];dsimp only;rw [cat_some (by simp only [List.length_append,List.length_cons,List.length_nil] at htl ⊢;omega),bndS,hbit,bndS,cat_some (by simp only [List.length_append,List.length_cons,List.length_nil] at htl ⊢;omega),bndS];rw [toU8_dig (by omega) (by omega),toU8_dig (by omega) (by omega),toU8_dig (by omega) (by omega),Int.toNat_natCast];unfold keyE;simp only [List.append_assoc]
 ·rw [if_pos h0,if_neg h0]
theorem dig_inj {a b:Nat} (ha:a≤100) (hb:b≤100):UInt8.ofNat (48+a)=UInt8.ofNat (48+b)↔a=b:=by
 constructor
 ·intro h
  have:=congrArg UInt8.toNat h;simp only [UInt8.toNat_ofNat'] at this
  omega
 ·rintro rfl;rfl
theorem key_inj {a b:Pt} (ha:PtR a) (hb:PtR b):keyE a=keyE b↔a.Name=b.Name∧a.Kind=b.Kind∧a.Temp=b.Temp∧a.Mono=b.Mono∧srt a.Attrs=srt b.Attrs:=by
 obtain ⟨k1,k2,t1,t2,_⟩:=pt_nums ha;obtain ⟨k3,k4,t3,t4,_⟩:=pt_nums hb
 have hm:∀ x:Bool,mono x≤1:=λx=>by unfold mono;split<;>omega
 have hma:=hm a.Mono;have hmb:=hm b.Mono;unfold keyE
 constructor
 ·intro h
  obtain ⟨e1,e2⟩:=List.append_inj' h rfl;simp only [List.cons_append,List.nil_append,List.cons.injEq,and_true,true_and] at e2;obtain ⟨d1,d2,d3⟩:=e2;rw [dig_inj (by omega) (by omega)] at d1 d2 d3;obtain ⟨n1,n2⟩:=(text_inj ha.c hb.c).1 e1;refine ⟨n1,by omega,by omega,?_,n2⟩;unfold mono at d3
  cases h1:a.Mono<;>cases h2:b.Mono<;>simp [h1,h2] at d3<;>rfl
 ·rintro ⟨n1,n2,n3,n4,n5⟩
  rw [n1,n2,n3,n4,n5]
theorem fall_of:∀ {l:List Pr},l.Pairwise (λa b=>Op.bytesLess a.Key b.Key=false)→fall l
 | [],_=>trivial
 | [_],_=>trivial
 | a::b::l,h=>by
  have h':=List.pairwise_cons.1 h;exact ⟨h'.1 b (by simp),fall_of h'.2⟩
theorem srt_srt (l:List Pr):srt (srt l)=srt l:=srt_id (fall_of (by rw [List.pairwise_reverse];exact srt_le l))
end Go.Proofs.YtaikmpmokihciaaGreat
set_option maxRecDepth 20000
set_option linter.unusedVariables false
set_option linter.unusedSimpArgs false
namespace Go.Proofs.YtaikmpmokihciaaGreat
open Go Go.RowKit Go.Wk
def Tot {α:Type} (P:α→Prop) (o:Option α):Prop:=∃ r,o=some r∧P r
theorem Tot.some {α:Type} {P:α→Prop} {r:α} (h:P r):Tot P (some r):=⟨r,rfl,h⟩
theorem Tot.bind {α β:Type} {P:α→Prop} {Q:β→Prop} {o:Option α} {f:α→Option β} (h:Tot P o) (hf:∀ r,P r→Tot Q (f r)):Tot Q (o.bind f):=by
 obtain ⟨r,rfl,hr⟩:=h;exact hf r hr
theorem Tot.jn {α β:Type} {R:α→Prop} {Q:β→Prop} {F:α→Option β} {B:(α→Option β)→Option β} (hF:∀ y,R y→Tot Q (F y)) (hB:∀ j:α→Option β,(∀ y,R y→Tot Q (j y))→Tot Q (B j)):Tot Q (jn F B):=by
 rw [jn_eq];exact hB F hF
theorem Tot.jn2 {α γ β:Type} {R:α→γ→Prop} {Q:β→Prop} {F:α→γ→Option β} {B:(α→γ→Option β)→Option β} (hF:∀ y z,R y z→Tot Q (F y z)) (hB:∀ j:α→γ→Option β,(∀ y z,R y z→Tot Q (j y z))→Tot Q (B j)):Tot Q (Go.Wk.jn F B):=by
 rw [jn_eq];exact hB F hF
theorem Tot.ite {α:Type} {c:Prop} [Decidable c] {P:α→Prop} {a b:Option α} (h1:c→Tot P a) (h2:¬c→Tot P b):Tot P (if c then a else b):=by
 split
 ·rename_i h;exact h1 h
 ·rename_i h;exact h2 h
theorem Tot.mono {α:Type} {P Q:α→Prop} {o:Option α} (h:Tot P o) (hpq:∀ r,P r→Q r):Tot Q o:=by
 obtain ⟨r,e,hr⟩:=h;exact ⟨r,e,hpq r hr⟩
theorem Tot.of {α:Type} {o:Option α} {r:α} (h:o=Option.some r):Tot (λx=>x=r) o:=⟨r,h,rfl⟩
structure LH (h:T_api_Hist):Prop where
 p:h.Pos.Counts.length≤1000000
 n:h.Neg.Counts.length≤1000000
abbrev hZ:T_api_Hist:=⟨0,0,⟨0,[]⟩,⟨0,[]⟩⟩
theorem LH.z:LH hZ:=⟨Nat.zero_le _,Nat.zero_le _⟩
structure BS (s:T_api_Side):Prop where
 l:s.Counts.length≤160
 a:-1073741824≤s.Offset
 b:s.Offset≤1073741824
theorem BS.z:BS ⟨0,[]⟩:=⟨Nat.zero_le _,by show -1073741824≤(0:Int);omega,by show (0:Int)≤1073741824;omega⟩
theorem sd_ok {s:T_api_Side} (h:sdE s=0):BS s∧(s.Counts≠[]→s.Offset+s.Counts.length-1≤1073741824):=by
 unfold sdE at h
 split at h
 ·simp at h
 ·rename_i h1
  split at h
  ·rename_i h2
   split at h
   ·simp at h
   ·rename_i h3
    have h3':s.Offset=0:=by
     rcases Decidable.em (s.Offset=0) with e|e
     ·exact e
     ·exact absurd e h3
    exact ⟨⟨by omega,by omega,by omega⟩,λhn=>absurd h2 hn⟩
  ·split at h
   ·simp at h
   ·rename_i h2 _
    split at h
    ·simp at h
    ·rename_i h4
     have h0:0<s.Counts.length:=List.length_pos_iff.2 h2;exact ⟨⟨by omega,by omega,by omega⟩,λ_=>by omega⟩
theorem shr_div (x:Int) {k:Nat} (hk:k≤30):shrZ x (toU64 (k:Int)).toNat=x/(2^k:Nat):=by
 have e:(toU64 (k:Int)).toNat=k:=by
  unfold toU64;rw [UInt64.toNat_ofNat']
  omega
 rw [e];unfold shrZ;rw [Nat.min_eq_left (by omega),Int.fdiv_eq_ediv_of_nonneg _ (by exact Int.le_of_lt (Int.pow_pos (by omega)))]
 congr 1
theorem div_add {o:Int} {P:Nat} (hP:0<P) (m:Nat):o/(P:Int)≤(o+m)/(P:Int)∧(o+m)/(P:Int)≤o/(P:Int)+m:=by
 have hp:(0:Int)<(P:Int):=by omega
 refine ⟨Int.ediv_le_ediv hp (by omega),?_⟩
 have h1:(o+m)/(P:Int)≤(o+(m:Int)*(P:Int))/(P:Int):=by
  apply Int.ediv_le_ediv hp
  have:(m:Int)*1≤(m:Int)*(P:Int):=Int.mul_le_mul_of_nonneg_left (by omega) (by omega)
  omega
 rw [Int.add_mul_ediv_right _ _ (by omega)] at h1;exact h1
theorem div_small {o:Int} {P:Nat} (hP:0<P) (h1:-1073741824≤o) (h2:o≤1073741824):-1073741824≤o/(P:Int)∧o/(P:Int)≤1073741824:=by
 have hp:(0:Int)<(P:Int):=by omega
 constructor
 ·rw [Int.le_ediv_iff_mul_le hp]
  have:(-1073741824:Int)*(P:Int)≤-1073741824*1:=by
   have:(1073741824:Int)*1≤1073741824*(P:Int):=Int.mul_le_mul_of_nonneg_left (by omega) (by omega)
   omega
  omega
 ·rcases Int.le_total 0 o with h | h
  ·exact Int.le_trans (Int.ediv_le_self _ h) h2
  ·have h3:o/(P:Int)≤0:=by
    have:=Int.ediv_le_ediv hp h;rw [Int.zero_ediv] at this;exact this
   omega
theorem span_eq {s:T_api_Side} (hs:sdE s=0) (hn:s.Counts≠[]) {k:Nat} (hk:k≤30) :
 m_hist_span s (toU64 (k:Int))=some ((s.Offset+(s.Counts.length-1:Nat))/(2^k:Nat)-s.Offset/(2^k:Nat)+1):=by
 obtain ⟨⟨h1,h2,h3⟩,h4⟩:=sd_ok hs;have h4':=h4 hn;have h0:0<s.Counts.length:=List.length_pos_iff.2 hn;have hP:0<2^k:=Nat.pow_pos (by omega);obtain ⟨d1,d2⟩:=div_add (o:=s.Offset) hP (s.Counts.length-1);obtain ⟨d3,d4⟩:=div_small (o:=s.Offset) hP h2 h3;unfold m_hist_span;rw [if_neg (by omega),W64_id (z:=s.Offset+(s.Counts.length:Int)) (by omega) (by omega),W64_id (z:=s.Offset+(s.Counts.length:Int)-1) (by omega) (by omega),shr_div _ hk,shr_div _ hk,show s.Offset+(s.Counts.length:Int)-1=s.Offset+((s.Counts.length-1:Nat):Int) by omega];rw [W64_id (z:=_-_) (by omega) (by omega),W64_id (by omega) (by omega)]
theorem idx_some {α:Type} {l:List α} {i:Int} (h0:0≤i) (h1:i<l.length):Tot (λ_=>True) (idx l i):=by
 obtain ⟨x,hx⟩:=idx_lt h0 h1;exact ⟨x,hx,trivial⟩
theorem setI_len {α:Type} (l:List α) (i:Int) (x:α):(setI l i x).length=l.length:=by simp [setI]
theorem down_L1 {s:T_api_Side} (hs:sdE s=0) (hn:s.Counts≠[]) {k:Nat} (hk:k≤30) {β:Type} {Q:T_api_Side→Prop} (j:T_api_Side→Option T_api_Side)
 (hj:∀ y:T_api_Side,y.Offset=s.Offset/(2^k:Nat)→(y.Counts.length:Int)=(s.Offset+(s.Counts.length-1:Nat))/(2^k:Nat)-s.Offset/(2^k:Nat)+1→Tot Q (j y)) :
 ∀ m i n (y:T_api_Side),i+m=s.Counts.length→y.Offset=s.Offset/(2^k:Nat)→(y.Counts.length:Int)=(s.Offset+(s.Counts.length-1:Nat))/(2^k:Nat)-s.Offset/(2^k:Nat)+1 →
 Tot Q (m_hist_down_L1 s (toU64 (k:Int)) j (n+m+1) (i:Int) y):=by
 obtain ⟨⟨h1,h2,h3⟩,h4⟩:=sd_ok hs;have h4':=h4 hn;have hP:0<2^k:=Nat.pow_pos (by omega);obtain ⟨d3,d4⟩:=div_small (o:=s.Offset) hP h2 h3;intro m
 induction m with
 | zero=>
  intro i n y hi ho hl;rw [Nat.add_zero,m_hist_down_L1,if_neg (by omega)];exact hj y ho hl
 | succ m ih=>
  intro i n y hi ho hl;rw [m_hist_down_L1,if_pos (by omega),W64_id (z:=s.Offset+(i:Int)) (by omega) (by omega),shr_div _ hk];obtain ⟨d5,d6⟩:=div_add (o:=s.Offset) hP i;have d7:(s.Offset+(i:Int))/((2^k:Nat):Int)≤(s.Offset+(s.Counts.length-1:Nat))/((2^k:Nat):Int):=Int.ediv_le_ediv (by omega) (by omega);rw [ho,W64_id (z:=(s.Offset+(i:Int))/((2^k:Nat):Int)-_) (by omega) (by omega)]
  refine (idx_some (by omega) (by omega)).bind λz _=>(idx_some (by omega) (by omega)).bind λz1 _=>(idx_some (by omega) (by omega)).bind λz2 _=>?_
  rw [show W64 ((i:Int)+1)=((i+1:Nat):Int) by rw [W64_id (by omega) (by omega)];rfl];exact ih (i+1) n _ (by omega) rfl (by dsimp only;rw [setI_len];exact hl)
theorem down_tot {s:T_api_Side} (hs:sdE s=0) {k:Nat} (hk:k≤30):Tot BS (m_hist_down s (toU64 (k:Int))):=by
 obtain ⟨⟨h1,h2,h3⟩,h4⟩:=sd_ok hs;unfold m_hist_down
 refine Tot.ite (λ_=>.some .z) λhl=>?_
 have hn:s.Counts≠[]:=λh=>hl (by rw [h];rfl)
 have hP:0<2^k:=Nat.pow_pos (by omega);have h0:0<s.Counts.length:=List.length_pos_iff.2 hn;obtain ⟨d1,d2⟩:=div_add (o:=s.Offset) hP (s.Counts.length-1);obtain ⟨d3,d4⟩:=div_small (o:=s.Offset) hP h2 h3;rw [jn_eq,span_eq hs hn hk,bndS];unfold mkL;rw [if_pos (by omega),bndS,shr_div _ hk];dsimp only;rw [jn_eq];obtain ⟨f,hf⟩:=fuelS (s.Counts.length+1) (by omega);rw [hf];refine down_L1 (β:=Unit) hs hn hk (Q:=BS) _ (λy ho hy=>.some ⟨by omega,by omega,by omega⟩) s.Counts.length 0 f _ (by omega) rfl ?_;dsimp only;rw [List.length_replicate]
 omega
theorem hc_ok {h:T_api_Hist} (hh:hcE h=0):-10≤h.Scale∧h.Scale≤20∧sdE h.Pos=0∧sdE h.Neg=0:=by
 unfold hcE at hh
 by_cases h1:h.Scale < -10∨h.Scale>20
 ·rw [if_pos h1] at hh;simp at hh
 rw [if_neg h1] at hh
 by_cases c1:sdE h.Pos≠0
 ·rw [if_pos c1] at hh;exact absurd hh c1
 rw [if_neg c1] at hh
 by_cases c2:sdE h.Neg≠0
 ·rw [if_pos c2] at hh;exact absurd hh c2
 exact ⟨by omega,by omega,Decidable.not_not.1 c1,Decidable.not_not.1 c2⟩
structure DownR (h:T_api_Hist) (b:Int) (r:T_api_Hist×Int):Prop where
 l:LH r.1
 p:BS r.1.Pos
 n:BS r.1.Neg
 bad:hcE h≠0→r.1=hZ
 good:hcE h=0→0≤b→b≤h.Scale+10→r.1.Scale=h.Scale-b
theorem Down_tot {h:T_api_Hist} (hl:LH h) (b:Int):Tot (DownR h b) (m_hist_Down h b):=by
 unfold m_hist_Down;rw [HCheck_eq h hl.p hl.n,bndS]
 refine Tot.ite (λh1=>.some ⟨.z,.z,.z,λ_=>rfl,λh2=>absurd h2 h1⟩) λh1=>?_
 have hh:hcE h=0:=Decidable.not_not.1 h1;obtain ⟨s1,s2,c1,c2⟩:=hc_ok hh
 have e1:W64 (h.Scale - -10)=h.Scale+10:=by rw [W64_id (by omega) (by omega)];omega
 rw [jn_eq,e1]
 refine Tot.ite (λh2=>?_) λh2=>?_
 ·exact .some ⟨.z,.z,.z,λ_=>rfl,λ_ h3=>by omega⟩
 ·dsimp only
  refine Tot.ite (λh3=>.some ⟨.z,.z,.z,λ_=>rfl,λ_ _ h4=>?_⟩) λh3=>?_
  ·simp only [decide_eq_true_iff] at h3
   omega
  ·simp only [decide_eq_true_iff] at h3
   obtain ⟨k,rfl⟩:∃ k:Nat,b=(k:Int):=⟨b.toNat,by omega⟩
   refine (down_tot c1 (k:=k) (by omega)).bind λp hp=>(down_tot c2 (k:=k) (by omega)).bind λq hq=>.some ⟨⟨?_,?_⟩,hp,hq,λh4=>absurd hh h4,λ_ _ _=>?_⟩
   ·have:=hp.l;show p.Counts.length≤_;omega
   ·have:=hq.l;show q.Counts.length≤_;omega
   ·show W64 (h.Scale-(k:Int))=_
    rw [W64_id (by omega) (by omega)]
end Go.Proofs.YtaikmpmokihciaaGreat
set_option maxRecDepth 20000
set_option linter.unusedVariables false
set_option linter.unusedSimpArgs false
namespace Go.Proofs.YtaikmpmokihciaaGreat
open Go Go.RowKit Go.Wk
theorem scan_tot {α S R:Type} {l:List α} {s:S} {B:Nat→α→S→(S→Option R)→Option R} {J:S→Option R} {Q:R→Prop} (I:Nat→S→Prop) (h0:I 0 s) (hJ:∀ s,I l.length s→Tot Q (J s))
 (hB:∀ i x s k,i<l.length→I i s→(∀ s',I (i+1) s'→Tot Q (k s'))→Tot Q (B i x s k)):Tot Q (scanL l s B J):=by
 have key:∀ (m:List α) (i:Nat) (s:S),i+m.length=l.length→I i s→Tot Q (scan B J i m s):=by
  intro m
  induction m with
  | nil=>
   intro i s hi hI;exact hJ s (by rw [← hi];exact hI)
  | cons x m ih=>
   intro i s hi hI;rw [List.length_cons] at hi
   exact hB i x s _ (by omega) hI λs' hs=>ih (i+1) s' (by omega) hs
 exact key l 0 s (by omega) h0
theorem toU64_sub (x y:Int):((toU64 x-toU64 y).toNat:Int)=(x-y)%18446744073709551616:=by
 unfold toU64;rw [UInt64.toNat_sub,UInt64.toNat_ofNat',UInt64.toNat_ofNat']
 omega
theorem At_tot {s:T_api_Side} (hs:s.Counts.length≤1000000) (x:Int):Tot (λ_=>True) (m_hist_At s x):=by
 unfold m_hist_At;rw [jn_eq]
 refine Tot.ite (λh=>.some trivial) λh=>?_
 dsimp only
 have hl:((toU64 (s.Counts.length:Int)).toNat:Int)=s.Counts.length:=by
  unfold toU64;rw [UInt64.toNat_ofNat']
  omega
 rw [hl]
 refine Tot.ite (λ_=>.some trivial) λh2=>?_
 simp only [decide_eq_true_iff] at h2;rw [toU64_sub] at h2
 have e:W64 (x-s.Offset)=(x-s.Offset)%18446744073709551616:=by
  unfold W64 IntKind.wrap IntKind.signed IntKind.bits;simp
  omega
 refine (idx_some (by rw [e];omega) (by rw [e];omega)).bind λr _=>.some trivial
structure LevR (r:T_api_Hist×T_api_Hist×Int):Prop where
 a:LH r.1
 b:LH r.2.1
 ap:BS r.1.Pos
 an:BS r.1.Neg
 bp:BS r.2.1.Pos
 bn:BS r.2.1.Neg
theorem Level_tot {x y:T_api_Hist} (hx:LH x) (hy:LH y):Tot LevR (m_fold_Level x y):=by
 unfold m_fold_Level;obtain ⟨f,hf⟩:=fuelS 3 (by omega);rw [jn_eq,hf];have z:LevR (hZ,hZ,0):=⟨.z,.z,.z,.z,.z,.z⟩;rw [m_fold_Level_L1,if_pos (by omega)];rw [show idx ([x,y]:List T_api_Hist) 0=some x from rfl,bndS,HCheck_eq x hx.p hx.n,bndS]
 refine Tot.ite (λ_=>.some ⟨.z,.z,.z,.z,.z,.z⟩) λ_=>?_
 rw [show W64 (0+1)=1 from rfl,m_fold_Level_L1,if_pos (by omega),show idx ([x,y]:List T_api_Hist) 1=some y from rfl,bndS,HCheck_eq y hy.p hy.n,bndS]
 refine Tot.ite (λ_=>.some ⟨.z,.z,.z,.z,.z,.z⟩) λ_=>?_
 rw [show W64 (1+1)=2 from rfl,m_fold_Level_L1,if_neg (by omega)]
 exact (Down_tot hx _).bind λp hp=>(Down_tot hy _).bind λq hq=>.some ⟨hp.l,hq.l,hp.p,hp.n,hq.p,hq.n⟩
theorem cover_tot {a b:T_api_Side} (ha:BS a) (hb:BS b):Tot (λr:Int×Int=>0≤r.2) (m_fold_cover a b):=by
 have:=ha.l;have:=ha.a;have:=ha.b;have:=hb.l;have:=hb.a;have:=hb.b;unfold m_fold_cover
 refine Tot.ite (λ_=>.some (by show (0:Int)≤_;omega)) λh1=>Tot.ite (λ_=>.some (by show (0:Int)≤_;omega)) λh2=>?_
 unfold m_fold_ends;rw [bndS,bndS];refine .some ?_;dsimp only;rw [W64_id (z:=a.Offset+_) (by omega) (by omega),W64_id (z:=b.Offset+_) (by omega) (by omega),W64_id (by omega) (by omega)]
 omega
theorem Merge_tot {x y:T_api_Hist} (hx:LH x) (hy:LH y):Tot (λr=>LH r.1) (m_fold_Merge x y):=by
 unfold m_fold_Merge
 refine (Level_tot hx hy).bind λp hp=>Tot.ite (λ_=>.some .z) λ_=>?_
 rw [Total_eq _ hp.a.p hp.a.n,bndS,Total_eq _ hp.b.p hp.b.n,bndS]
 refine Tot.ite (λ_=>.some .z) λ_=>?_
 refine Tot.jn (R:=LH) (λy hy=>.some hy) λj hj=>?_
 refine Tot.jn (R:=LH) (λy hy=>?_) λj2 hj2=>?_
 ·refine Tot.jn (R:=LH) (λz hz=>hj z hz) λj3 hj3=>?_
  refine (cover_tot hp.an hp.bn).bind λc hc=>Tot.ite (λ_=>.some .z) λh1=>Tot.ite (λ_=>hj3 _ hy) λ_=>?_
  refine Tot.jn (R:=λz=>z.Pos=y.Pos∧z.Neg.Counts.length≤160) (λz hz=>?_) λj4 hj4=>?_
  ·refine Tot.jn (R:=LH) (λv hv=>hj3 _ hv) λj5 hj5=>?_
   rw [m_fold_Merge_L1_scan _ _ _ _ _ (by have:=hz.2;omega)]
   refine scan_tot (λ_ s=>s.Pos=y.Pos∧s.Neg.Counts.length=z.Neg.Counts.length) ⟨hz.1,rfl⟩ (λs hs=>hj5 _ ⟨by rw [hs.1];exact hy.p,by have:=hz.2;omega⟩) λi x s k hi hs hk=>?_
   refine (At_tot hp.a.n _).bind λ_ _=>(At_tot hp.b.n _).bind λ_ _=>(idx_some (by omega) (by rw [hs.2];omega)).bind λ_ _=>hk _ ⟨hs.1,?_⟩
   dsimp only;rw [setI_len];exact hs.2
  ·unfold mkL
   rw [if_pos (by omega),bndS];refine hj4 _ ⟨rfl,?_⟩;dsimp only;rw [List.length_replicate];omega
 ·refine (cover_tot hp.ap hp.bp).bind λc hc=>Tot.ite (λ_=>.some .z) λh1=>Tot.ite (λ_=>hj2 _ ⟨Nat.zero_le _,Nat.zero_le _⟩) λ_=>?_
  refine Tot.jn (R:=λz=>z.Neg.Counts.length≤160∧z.Pos.Counts.length≤160) (λz hz=>?_) λj4 hj4=>?_
  ·refine Tot.jn (R:=LH) (λv hv=>hj2 _ hv) λj5 hj5=>?_
   rw [m_fold_Merge_L2_scan _ _ _ _ _ (by have:=hz.2;omega)]
   refine scan_tot (λ_ s=>s.Neg=z.Neg∧s.Pos.Counts.length=z.Pos.Counts.length) ⟨rfl,rfl⟩ (λs hs=>hj5 _ ⟨by have:=hz.2;omega,by rw [hs.1];have:=hz.1;omega⟩) λi x s k hi hs hk=>?_
   refine (At_tot hp.a.p _).bind λ_ _=>(At_tot hp.b.p _).bind λ_ _=>(idx_some (by omega) (by rw [hs.2];omega)).bind λ_ _=>hk _ ⟨hs.1,?_⟩
   dsimp only;rw [setI_len];exact hs.2
  ·unfold mkL
   rw [if_pos (by omega),bndS];refine hj4 _ ⟨Nat.zero_le _,?_⟩;dsimp only;rw [List.length_replicate];omega
abbrev hE (k:Nat):T_api_Hist:=⟨-(k:Int),0,⟨0,[]⟩,⟨0,[]⟩⟩
theorem hE_ok {k:Nat} (hk:k≤10):hcE (hE k)=0:=by
 unfold hcE sdE
 have:¬(-(k:Int) < -10∨-(k:Int)>20):=by omega
 rw [if_neg this];simp [totN,sumN]
theorem hE_down {k:Nat} (hk:k<10):∃ r,m_hist_Down (hE k) 1=some (hE (k+1),r):=by
 unfold m_hist_Down;rw [HCheck_eq _ (Nat.zero_le _) (Nat.zero_le _),bndS,hE_ok (by omega),if_neg (by simp),jn_eq,if_neg (by omega)];dsimp only;rw [W64_id (z:=-(k:Int) - -10) (by omega) (by omega),if_neg (by simp;omega)];rw [show m_hist_down (hE k).Pos (toU64 1)=some ⟨0,[]⟩ from rfl,bndS,bndS,W64_id (by omega) (by omega)];exact ⟨0,by rw [show -(k:Int)-1=-((k+1:Nat):Int) by omega]⟩
def stepsH (h:T_api_Hist) (m:Nat):Prop:=(∃ k:Nat,k≤10∧h=hE k∧10≤k+m)∨(hcE h≠0∧11≤m)∨(hcE h=0∧h.Scale+22≤m)
end Go.Proofs.YtaikmpmokihciaaGreat
set_option maxRecDepth 20000
set_option linter.unusedVariables false
set_option linter.unusedSimpArgs false
namespace Go.Proofs.YtaikmpmokihciaaGreat
open Go Go.RowKit Go.Wk
theorem bits_tot (x:UInt64):Tot (λ_=>True) (m_num_bits x):=by
 unfold m_num_bits m_num_Canon m_num_Odd;rw [bndS]
 split
 ·exact .some trivial
 ·exact .some trivial
theorem nparts_tot (x:UInt64×UInt64):Tot (λ_=>True) (m_num_parts x):=by
 unfold m_num_parts
 exact (bits_tot _).bind λ_ _=>(bits_tot _).bind λ_ _=>.some trivial
theorem nsubp_tot (a b c d:UInt64):Tot (λ_=>True) (m_num_SubPhasor a b c d):=by
 unfold m_num_SubPhasor m_num_phasor m_num_of;simp only [bndS]
 exact (nparts_tot _).bind λ_ _=>.some trivial
theorem Few.h {p:Pt} (hp:Few p):LH p.Hist:=⟨hp.p,hp.n⟩
abbrev ptZ:Pt:=⟨[],[],0,0,false,0,0,0,0,0,hZ,0⟩
theorem few0:Few ptZ:=⟨Nat.zero_le _,Nat.zero_le _,Nat.zero_le _⟩
end Go.Proofs.YtaikmpmokihciaaGreat
set_option maxRecDepth 20000
set_option linter.unusedVariables false
set_option linter.unusedSimpArgs false
namespace Go.Proofs.YtaikmpmokihciaaGreat
open Go Go.RowKit Go.Wk
abbrev Cv:=T_convert_Converter
abbrev St:=T_api_State
def rdN (out t:Int):Nat:=if t=1∧out=2 then 79 else if t=2∧out=1 then 80 else 81
theorem road_eq (a b c d e f g:Int) (p:Pt):m_convert_Converter_road_s2 a b c d e f g p=some (rdN a p.Temp):=by
 unfold m_convert_Converter_road_s2 rdN
 split
 ·rfl
 ·split<;>rfl
def fitT (p:Pt) (bk:Int):Option (Int×Pt):=
 if (if (keyR p).2=0∧p.Flags≠0 then (3:Int) else (keyR p).2)=0∧p.Kind=4 then (m_hist_Fit p.Hist bk).bind λr=>some (r.2,{ p with Hist:=r.1 })
 else some (if (keyR p).2=0∧p.Flags≠0 then (3:Int) else (keyR p).2,p)
def tailT (c:Cv) (K:List UInt8) (e:Int) (p:Pt):Option (Pt×Int×Cv):=
 if e≠0 then some (ptZ,e,c)
 else (m_table_Table_convert_kept_Get c.states K).bind λp52=>
  jn (λ(y67:Bool)=>if y67=true then some (ptZ,6,c) else
   jn (λ(y85:Int) (y86:St) (y88:Pt)=>if y85≠0 then some (ptZ,y85,c) else (m_convert_bare p).bind λp124=>(m_table_Table_convert_kept_Put c.states K { State:=y86,series:=p124 }).bind λp129=>some (y88,0,{ cfg:=c.cfg,states:=p129.2 })) λj4=>
    (m_convert_Converter_road_s2 c.cfg.Out c.cfg.Series c.cfg.Buckets c.cfg.Points c.cfg.Bytes c.cfg.Disk c.cfg.Window p).bind λf=>(m_fc_1 f p52.1.State p c.cfg.Buckets).bind λr=>j4 r.2.2 r.1 r.2.1) λj3=>
  if (!p52.2)=true then (m_table_Table_convert_kept_Room c.states).bind λp581=>j3 (decide (p581=0)) else j3 false
theorem Take_eq (c:Cv) {p:Pt} (hp:Few p):m_convert_Converter_Take c p=(fitT p c.cfg.Buckets).bind λx=>tailT c (keyR p).1 x.1 x.2:=by
 unfold m_convert_Converter_Take fitT;rw [key_eq p hp.p hp.n,bndS,jn_eq];have main:∀ E:Int,(jn (λ(y26:Int) (y27:Pt)=>tailT c (keyR p).1 y26 y27) λj2=>if E=0∧p.Kind=4 then (m_hist_Fit p.Hist c.cfg.Buckets).bind λr=>j2 r.2 { p with Hist:=r.1 } else j2 E p) =
  (if E=0∧p.Kind=4 then (m_hist_Fit p.Hist c.cfg.Buckets).bind λr=>some (r.2,{ p with Hist:=r.1 }) else some (E,p)).bind λx=>tailT c (keyR p).1 x.1 x.2:=by
  intro E;rw [jn_eq]
  split
  ·cases m_hist_Fit p.Hist c.cfg.Buckets<;>rfl
  ·rfl
 by_cases h1:(keyR p).2=0∧p.Flags≠0
 ·rw [if_pos h1,if_pos h1]
  exact main 3
 ·rw [if_neg h1,if_neg h1]
  exact main _
def st0:St:=⟨false,0,0,0,0,0,hZ⟩
def stO (c:Cv) (K:List UInt8):Option St:=(lookP K c.states.m).map λx=>x.v.State
theorem get_eq (c:Cv) (K:List UInt8):∃ r,m_table_Table_convert_kept_Get c.states K=some r∧r.1.State=(stO c K).getD st0∧r.2=(stO c K).isSome:=by
 unfold m_table_Table_convert_kept_Get stO;refine ⟨_,rfl,?_⟩
 cases lookP K c.states.m with
 | none=>exact ⟨rfl,rfl⟩
 | some x=>exact ⟨rfl,rfl⟩
theorem putP_len {α:Type} (k:List UInt8) (x:α):∀ l:Kv α,(putP k x l).length≤l.length+1
 | []=>by simp [putP]
 | p::r=>by
  unfold putP
  split
  ·simp
  ·have:=putP_len k x r
   simp only [List.length_cons]
   omega
theorem lookP_put {α:Type} (k k':List UInt8) (x:α):∀ l:Kv α,lookP k' (putP k x l)=if k=k' then some x else lookP k' l
 | []=>by
  unfold putP lookP
  by_cases h:k=k'
  ·rw [if_pos h];simp [h]
  ·rw [if_neg h];simp [h]
 | p::r=>by
  have ih:=lookP_put k k' x r;unfold putP
  by_cases h1:p.1=k
  ·rw [if_pos h1]
   unfold lookP
   by_cases h:k=k'
   ·rw [if_pos h];simp [h]
   ·have h2:¬p.1=k':=λhh=>h (h1.symm.trans hh)
    rw [if_neg h];simp [h,h2]
  ·rw [if_neg h1]
   unfold lookP at ih ⊢
   by_cases h2:p.1=k'
   ·have h:¬k=k':=λhh=>h1 (h2.trans hh.symm)
    rw [if_neg h];simp [h2]
   ·simp only [List.find?_cons,h2,decide_false]
    exact ih
theorem some_tot (l:List Pt) {n:Int} (hn:n≤1000):Tot (λb=>b=true→(l.length:Int)≤n∧∀ p∈l,Few p) (m_limnographref12_Some l n):=by
 unfold m_limnographref12_Some
 refine Tot.ite (λ_=>.some λh=>by simp at h) λh=>?_
 rw [jn_eq,m_limnographref12_Some_L1_scan _ _ (by omega)];have e:(λ(_:Nat) (xx:Pt) (_:Unit) (kk:Unit→Option Bool)=>(some xx).bind λz8=>(m_limnographref12_Light z8).bind λp17=>if (!p17)=true then some false else kk ()) =
  λ_ xx _ kk=>if (decide (xx.Name.length≤100)&&light xx.Attrs&&decide (xx.Hist.Pos.Counts.length≤300∧xx.Hist.Neg.Counts.length≤300))=true then kk () else some false:=by
  funext _ xx _ kk
  rw [bndS,light12,bndS]
  cases (decide (xx.Name.length≤100)&&light xx.Attrs&&decide (xx.Hist.Pos.Counts.length≤300∧xx.Hist.Neg.Counts.length≤300))<;>rfl
 rw [e,scanL_all (λxx:Pt=>decide (xx.Name.length≤100)&&light xx.Attrs&&decide (xx.Hist.Pos.Counts.length≤300∧xx.Hist.Neg.Counts.length≤300)) (some false) (λ_ _ _ _=>rfl)]
 split
 ·rename_i h1
  refine .some λ_=>⟨by omega,λp hp=>?_⟩
  exact (light_few (List.all_eq_true.1 h1 p hp)).1
 ·exact .some λh=>by simp at h
theorem awake_eq:m_limnographlaw17_awake=some true:=by decide +kernel
theorem cnew_eq (cfg:T_api_Config):m_convert_New cfg=some (if decide ((((((cfg.Out≥0)∧(cfg.Out≤2))∧(cfg.Series≥1))∧(cfg.Series≤16))∧(cfg.Buckets≥1))∧(cfg.Buckets≤160))=true then some ⟨cfg,⟨max cfg.Series 0,0,[]⟩⟩ else none):=by
 unfold m_convert_New m_convert_Good m_table_New_convert_kept;rw [bndS];generalize decide ((((((cfg.Out≥0)∧(cfg.Out≤2))∧(cfg.Series≥1))∧(cfg.Series≤16))∧(cfg.Buckets≥1))∧(cfg.Buckets≤160))=d
 cases d<;>rfl
end Go.Proofs.YtaikmpmokihciaaGreat
set_option maxRecDepth 20000
set_option linter.unusedVariables false
set_option linter.unusedSimpArgs false
namespace Go.Proofs.YtaikmpmokihciaaGreat
open Go Go.RowKit Go.Wk
theorem sumN_app (a b:List UInt64):sumN (a++b)=sumN a+sumN b:=by simp [sumN]
theorem sumN_rep (k:Nat):sumN (List.replicate k 0)=0:=by
 induction k with
 | zero=>rfl
 | succ k ih=>rw [List.replicate_succ,sumN_cons,ih];rfl
theorem sumN_le {l:List UInt64} {j:Nat} {z:UInt64} (h:l[j]?=some z):z.toNat≤sumN l:=by
 induction l generalizing j with
 | nil=>simp at h
 | cons a l ih=>
  rw [sumN_cons]
  cases j with
  | zero=>simp at h;subst h;omega
  | succ j=>have:=ih (by simpa using h);omega
theorem sumN_set {l:List UInt64} {j:Nat} {z:UInt64} (h:l[j]?=some z) (y:UInt64):sumN (l.set j y)+z.toNat=sumN l+y.toNat:=by
 induction l generalizing j with
 | nil=>simp at h
 | cons a l ih=>
  cases j with
  | zero=>simp at h;subst h;rw [List.set_cons_zero,sumN_cons,sumN_cons];omega
  | succ j=>rw [List.set_cons_succ,sumN_cons,sumN_cons];have:=ih (j:=j) (by simpa using h);omega
theorem u64_add {x y:UInt64} (h:x.toNat+y.toNat<2^64):(x+y).toNat=x.toNat+y.toNat:=by
 rw [UInt64.toNat_add];exact Nat.mod_eq_of_lt h
theorem u64_nz {x:UInt64}:x≠0↔0<x.toNat:=by
 constructor
 ·intro h
  rcases Nat.eq_zero_or_pos x.toNat with h0|h0
  ·exact absurd (UInt64.toNat_inj.1 h0) h
  ·exact h0
 ·rintro h rfl
  exact absurd h (by decide)
structure RS (s:T_api_Side):Prop where
 b:BS s
 z:s.Counts=[]→s.Offset=0
 e:s.Counts≠[]→s.Offset+s.Counts.length-1≤1073741824
 f:∀ x,s.Counts[0]?=some x→x≠0
 g:∀ x,s.Counts[s.Counts.length-1]?=some x→x≠0
theorem headD_get (l:List UInt64):l.headD 0=(l[0]?).getD 0:=by cases l<;>rfl
theorem lastD_get (l:List UInt64):l.getLastD 0=(l[l.length-1]?).getD 0:=by
 rw [← List.getLast?_eq_getElem?]
 cases l with
 | nil=>rfl
 | cons a t=>rw [List.getLastD_cons,List.getLast?_eq_some_getLast (by simp),List.getLast_eq_getLastD];rfl
theorem RS.of {s:T_api_Side} (h:sdE s=0):RS s:=by
 have ⟨hb,he⟩:=sd_ok h;unfold sdE at h
 split at h
 ·simp at h
 rename_i h1
 split at h
 ·rename_i h2
  have hz:s.Offset=0:=by
   split at h
   ·simp at h
   ·rename_i h3;exact Decidable.not_not.1 h3
  exact ⟨hb,λ_=>hz,λhn=>absurd h2 hn,λx hx=>by rw [h2] at hx;simp at hx,λx hx=>by rw [h2] at hx;simp at hx⟩
 ·rename_i h2
  split at h
  ·simp at h
  rename_i h3
  refine ⟨hb,λhn=>absurd hn h2,he,λx hx hx0=>h3 (.inl ?_),λx hx hx0=>h3 (.inr ?_)⟩
  ·rw [headD_get,hx];exact hx0
  ·rw [lastD_get,hx];exact hx0
theorem RS.to {s:T_api_Side} (h:RS s):sdE s=0:=by
 have:=h.b.l;have:=h.b.a;have:=h.b.b;unfold sdE;rw [if_neg (by omega)]
 by_cases h2:s.Counts=[]
 ·rw [if_pos h2,if_neg (by rw [h.z h2];simp)]
 ·have hl:0<s.Counts.length:=List.length_pos_iff.2 h2
  have he:=h.e h2;rw [if_neg h2,if_neg,if_neg (by omega)];rintro (h3|h3)
  ·rw [headD_get,List.getElem?_eq_getElem hl] at h3
   exact h.f _ (List.getElem?_eq_getElem hl) h3
  ·rw [lastD_get,List.getElem?_eq_getElem (by omega)] at h3
   exact h.g _ (List.getElem?_eq_getElem (by omega)) h3
structure RH (h:T_api_Hist):Prop where
 lo:-10≤h.Scale
 hi:h.Scale≤20
 p:RS h.Pos
 n:RS h.Neg
 t:totN h<2^64
theorem RH.of {h:T_api_Hist} (hh:hcE h=0):RH h:=by
 obtain ⟨a,b,c,d⟩:=hc_ok hh;refine ⟨a,b,.of c,.of d,?_⟩;unfold hcE at hh;rw [if_neg (by omega),if_neg (λk=>k c),if_neg (λk=>k d)] at hh
 split at hh
 ·assumption
 ·simp at hh
theorem RH.to {h:T_api_Hist} (r:RH h):hcE h=0:=by
 have:=r.lo;have:=r.hi;unfold hcE;rw [if_neg (by omega),if_neg (λk=>k r.p.to),if_neg (λk=>k r.n.to),if_pos r.t]
theorem RS.nil:RS ⟨0,[]⟩:=⟨.z,λ_=>rfl,λh=>absurd rfl h,λx hx=>by simp at hx,λx hx=>by simp at hx⟩
theorem RH.zero:RH hZ:=⟨by decide,by decide,.nil,.nil,by decide⟩
theorem RH.l {h:T_api_Hist} (r:RH h):LH h:=⟨by have:=r.p.b.l;omega,by have:=r.n.b.l;omega⟩
structure DnR (s r:T_api_Side):Prop where
 ok:RS r
 le:r.Counts.length≤s.Counts.length
 sm:sumN r.Counts=sumN s.Counts
theorem take_sum {l:List UInt64} {i:Nat} {x:UInt64} (h:l[i]?=some x):sumN (l.take (i+1))=sumN (l.take i)+x.toNat:=by
 rw [List.take_add_one,h,sumN_app];simp [sumN]
theorem take_le (l:List UInt64) (i:Nat):sumN (l.take i)≤sumN l:=by
 have:=sumN_app (l.take i) (l.drop i);rw [List.take_append_drop] at this
 omega
theorem getE {α:Type} {l:List α} {i:Int} {z:α} (h:idx l i=some z):0≤i∧l[i.toNat]?=some z:=by
 unfold idx at h
 split at h
 ·rename_i h0;exact ⟨h0,h⟩
 ·cases h
theorem idx_get {α:Type} {l:List α} {i:Int} (h0:0≤i) (h1:i<l.length):Tot (λx=>l[i.toNat]?=some x) (idx l i):=by
 obtain ⟨x,hx⟩:=idx_lt h0 h1;exact ⟨x,hx,(getE hx).2⟩
structure DnI (s:T_api_Side) (P:Nat) (i:Nat) (y:T_api_Side):Prop where
 o:y.Offset=s.Offset/(P:Int)
 l:(y.Counts.length:Int)=(s.Offset+(s.Counts.length-1:Nat))/(P:Int)-s.Offset/(P:Int)+1
 sm:sumN y.Counts=sumN (s.Counts.take i)
 f:0<i→∀ x,y.Counts[0]?=some x→x≠0
 g:i=s.Counts.length→∀ x,y.Counts[y.Counts.length-1]?=some x→x≠0
theorem dn_L1 {s:T_api_Side} (hs:RS s) (hn:s.Counts≠[]) (ht:sumN s.Counts<2^64) {k:Nat} (hk:k≤30) {β:Type} {Q:T_api_Side→Prop} (j:T_api_Side→Option T_api_Side)
 (hj:∀ y:T_api_Side,DnI s (2^k) s.Counts.length y→Tot Q (j y)) :
 ∀ m i n (y:T_api_Side),i+m=s.Counts.length→DnI s (2^k) i y→Tot Q (m_hist_down_L1 s (toU64 (k:Int)) j (n+m+1) (i:Int) y):=by
 obtain ⟨h1,h2,h3⟩:=hs.b;have h4':=hs.e hn;have hP:0<2^k:=Nat.pow_pos (by omega);obtain ⟨d3,d4⟩:=div_small (o:=s.Offset) hP h2 h3;intro m
 induction m with
 | zero=>
  intro i n y hi hI;rw [Nat.add_zero,m_hist_down_L1,if_neg (by omega)];exact hj y (by rw [← hi];exact hI)
 | succ m ih=>
  intro i n y hi hI;have ho:=hI.o;have hl:=hI.l;rw [m_hist_down_L1,if_pos (by omega),W64_id (z:=s.Offset+(i:Int)) (by omega) (by omega),shr_div _ hk];obtain ⟨d5,d6⟩:=div_add (o:=s.Offset) hP i;have d7:(s.Offset+(i:Int))/((2^k:Nat):Int)≤(s.Offset+(s.Counts.length-1:Nat))/((2^k:Nat):Int):=Int.ediv_le_ediv (by omega) (by omega);rw [ho,W64_id (z:=(s.Offset+(i:Int))/((2^k:Nat):Int)-_) (by omega) (by omega)]
  refine (idx_get (by omega) (by omega)).bind λx hx=>(idx_get (by omega) (by omega)).bind λz hz=>(idx_get (by omega) (by omega)).bind λz2 _=>?_
  rw [show W64 ((i:Int)+1)=((i+1:Nat):Int) by rw [W64_id (by omega) (by omega)];rfl]
  have hxi:s.Counts[i]?=some x:=by simpa using hx
  have t1:=take_sum hxi;have t2:=take_le s.Counts (i+1);have t3:=sumN_le hz;have hsm:=hI.sm;have hadd:(z+x).toNat=z.toNat+x.toNat:=u64_add (by omega);obtain ⟨jj,hjj⟩:∃ jj:Nat,(s.Offset+(i:Int))/((2^k:Nat):Int)-s.Offset/((2^k:Nat):Int)=(jj:Int):=⟨((s.Offset+(i:Int))/((2^k:Nat):Int)-s.Offset/((2^k:Nat):Int)).toNat,by omega⟩;rw [hjj] at hz ⊢;rw [Int.toNat_natCast] at hz;refine ih (i+1) n _ (by omega) ⟨rfl,by dsimp only;rw [setI_len];exact hl,?_,?_,?_⟩
  ·show sumN (setI y.Counts (jj:Int) (z+x))=_
   unfold setI;rw [Int.toNat_natCast];have:=sumN_set hz (z+x)
   omega
  ·intro _ w hw
   have hw':(y.Counts.set jj (z+x))[0]?=some w:=by simpa [setI] using hw
   rw [List.getElem?_set] at hw'
   by_cases h0:jj=0
   ·rw [if_pos h0] at hw'
    split at hw'
    ·obtain rfl:=Option.some.inj hw'
     rw [u64_nz,hadd]
     by_cases hi0:i=0
     ·have:x≠0:=hs.f x (by rw [← hxi,hi0])
      rw [u64_nz] at this;omega
     ·have:=hI.f (by omega) z (by rw [← hz,h0])
      rw [u64_nz] at this;omega
    ·cases hw'
   ·rw [if_neg h0] at hw'
    by_cases hi0:i=0
    ·exfalso
     apply h0
     have:(s.Offset+(i:Int))=s.Offset:=by rw [hi0];simp
     rw [this] at hjj
     omega
    ·exact hI.f (by omega) w hw'
  ·intro hin w hw
   have hlen:(setI y.Counts (jj:Int) (z+x)).length=y.Counts.length:=setI_len _ _ _
   have hw':(y.Counts.set jj (z+x))[y.Counts.length-1]?=some w:=by
    have:(setI y.Counts (jj:Int) (z+x))[(setI y.Counts (jj:Int) (z+x)).length-1]?=some w:=hw;rw [hlen] at this;simpa [setI] using this
   have hjl:jj=y.Counts.length-1:=by
    have:(s.Counts.length-1:Nat)=i:=by omega
    rw [this] at hl
    omega
   rw [List.getElem?_set,if_pos hjl] at hw'
   split at hw'
   ·obtain rfl:=Option.some.inj hw'
    have:x≠0:=hs.g x (by rw [← hxi];congr 1;omega);rw [u64_nz] at this ⊢;rw [hadd];omega
   ·cases hw'
theorem dn_tot {s:T_api_Side} (hs:RS s) (ht:sumN s.Counts<2^64) {k:Nat} (hk:k≤30):Tot (DnR s) (m_hist_down s (toU64 (k:Int))):=by
 obtain ⟨h1,h2,h3⟩:=hs.b;unfold m_hist_down
 refine Tot.ite (λhl=>.some ⟨.nil,Nat.zero_le _,?_⟩) λhl=>?_
 ·have:s.Counts=[]:=List.eq_nil_of_length_eq_zero (by omega)
  rw [this]
 have hn:s.Counts≠[]:=λh=>hl (by rw [h];rfl)
 have hP:0<2^k:=Nat.pow_pos (by omega);have h0:0<s.Counts.length:=List.length_pos_iff.2 hn;have h4':=hs.e hn;obtain ⟨d1,d2⟩:=div_add (o:=s.Offset) hP (s.Counts.length-1);obtain ⟨d3,d4⟩:=div_small (o:=s.Offset) hP h2 h3;obtain ⟨_,d8⟩:=div_small (o:=s.Offset+(s.Counts.length-1:Nat)) hP (by omega) (by omega);rw [jn_eq,span_eq hs.to hn hk,bndS];unfold mkL;rw [if_pos (by omega),bndS,shr_div _ hk];dsimp only;rw [jn_eq];obtain ⟨f,hf⟩:=fuelS (s.Counts.length+1) (by omega);rw [hf];refine dn_L1 (β:=Unit) hs hn ht hk (Q:=DnR s) _ (λy hy=>?_) s.Counts.length 0 f _ (by omega) ⟨rfl,?_,?_,λh=>absurd h (by omega),λh=>by omega⟩
 ·have a1:=hy.o;have a2:=hy.l;have a3:=hy.sm
  rw [List.take_length] at a3;refine .some ⟨⟨⟨by omega,by omega,by omega⟩,λhe=>?_,λ_=>by omega,hy.f h0,hy.g rfl⟩,by omega,a3⟩;rw [he] at a2;simp only [List.length_nil] at a2
  omega
 ·dsimp only
  rw [List.length_replicate];omega
 ·dsimp only
  rw [sumN_rep];rfl
structure DownV (h:T_api_Hist) (b:Int) (r:T_api_Hist×Int):Prop where
 v:RH r.1
 e:r.2=0
 s:r.1.Scale=h.Scale-b
 p:r.1.Pos.Counts.length≤h.Pos.Counts.length
 n:r.1.Neg.Counts.length≤h.Neg.Counts.length
theorem DownV_tot {h:T_api_Hist} (r:RH h) {b:Int} (h0:0≤b) (h1:b≤h.Scale+10):Tot (DownV h b) (m_hist_Down h b):=by
 have s1:=r.lo;have s2:=r.hi;have ht:=r.t;unfold totN at ht;unfold m_hist_Down;rw [HCheck_eq h r.l.p r.l.n,bndS,r.to,if_neg (by simp),jn_eq,if_neg (by omega)];dsimp only;rw [W64_id (z:=h.Scale - -10) (by omega) (by omega),if_neg (by simp;omega)];obtain ⟨k,rfl⟩:∃ k:Nat,b=(k:Int):=⟨b.toNat,by omega⟩
 refine (dn_tot r.p (by omega) (k:=k) (by omega)).bind λp hp=>(dn_tot r.n (by omega) (k:=k) (by omega)).bind λq hq=>.some ?_
 rw [W64_id (by omega) (by omega)];refine ⟨⟨by dsimp only;omega,by dsimp only;omega,hp.ok,hq.ok,?_⟩,rfl,rfl,hp.le,hq.le⟩;show h.Zero.toNat+sumN p.Counts+sumN q.Counts<2^64;rw [hp.sm,hq.sm];exact ht
end Go.Proofs.YtaikmpmokihciaaGreat
