import Derived.Test.YthjhejgjcdajdaaGreatDoorVE2
import Derived.Test.YthjhejgjcdajdaaGreatDoorNE
set_option linter.unusedVariables false
set_option linter.unusedSimpArgs false
namespace Go.Wk
def numB (l:List Bool):Nat:=l.foldl (λa b=>2*a+b.toNat) 0
def zG7 (v:Nat):Nat→List Bool
 | 0=>[]
 | n+1=>zG7 (v/2) n++[v%2==1]
theorem foldB (l:List Bool):∀ a:Nat,l.foldl (λa b=>2*a+b.toNat) a=a*2^l.length+numB l:=by
 induction l with
 | nil=>intro a;simp [numB]
 | cons b t ih=>
  intro a;have h1:=ih (2*a+b.toNat);have h2:=ih (2*0+b.toNat);simp only [numB,List.foldl_cons,List.length_cons] at *;rw [h1,h2,Nat.pow_succ,Nat.add_mul]
  have:2*a*2^t.length=a*(2^t.length*2):=by rw [Nat.mul_comm 2 a,Nat.mul_assoc,Nat.mul_comm 2]
  rw [this];simp only [Nat.mul_zero,Nat.zero_add];omega
theorem zbp:numB []=0:=rfl
theorem zJ0 (a b:List Bool):numB (a++b)=numB a*2^b.length+numB b:=by
 unfold numB;rw [List.foldl_append,foldB];rfl
theorem zOv (b:Bool):numB [b]=b.toNat:=by simp [numB]
theorem zZ9 (b:Bool) (l:List Bool):numB (b::l)=b.toNat*2^l.length+numB l:=by
 have:=zJ0 [b] l;rwa [zOv] at this
theorem zI2 (l:List Bool):numB l<2^l.length:=by
 induction l with
 | nil=>simp [numB]
 | cons b t ih=>
  rw [zZ9,List.length_cons,Nat.pow_succ]
  cases b<;>simp<;>omega
theorem zAt (n:Nat):∀ v,(zG7 v n).length=n:=by
 induction n with
 | zero=>intro v;rfl
 | succ n ih=>intro v;simp [zG7,ih]
theorem zUt (v:Nat):zG7 v 0=[]:=rfl
theorem zfb (v:Nat):(v%2==1).toNat=v%2:=by
 rcases Nat.mod_two_eq_zero_or_one v with h|h<;>simp [h]
theorem zRh (n:Nat):∀ v,numB (zG7 v n)=v%2^n:=by
 induction n with
 | zero=>intro v;simp [zG7,numB,Nat.mod_one]
 | succ n ih=>
  intro v;rw [zG7,zJ0,ih,zOv,zfb]
  have:2^(n+1)=2*2^n:=by rw [Nat.pow_succ,Nat.mul_comm]
  rw [this,Nat.mod_mul];simp;omega
theorem zJy {v n:Nat} (h:v<2^n):numB (zG7 v n)=v:=by rw [zRh,Nat.mod_eq_of_lt h]
theorem zYz (l:List Bool):∀ k,zG7 (k*2^l.length+numB l) l.length=l:=by
 generalize hn:l.length=n
 induction n generalizing l with
 | zero=>intro k;rw [List.eq_nil_of_length_eq_zero hn];rfl
 | succ n ih=>
  intro k
  have hne:l≠[]:=by intro h;subst h;simp at hn
  obtain ⟨t,b,rfl⟩:∃ t b,l=t++[b]:=⟨l.dropLast,l.getLast hne,(List.dropLast_concat_getLast hne).symm⟩
  have hl:t.length=n:=by simpa using hn
  rw [zG7,zJ0,zOv]
  have e2:b.toNat<2:=by cases b<;>simp
  have e:(k*2^(n+1)+(numB t*2^[b].length+b.toNat))=2*(k*2^n+numB t)+b.toNat:=by
   have:k*2^(n+1)=2*(k*2^n):=by rw [Nat.pow_succ,← Nat.mul_assoc,Nat.mul_comm]
   rw [this];simp;omega
  rw [e]
  have e3:(2*(k*2^n+numB t)+b.toNat)/2=k*2^n+numB t:=by omega
  have e4:(2*(k*2^n+numB t)+b.toNat)%2=b.toNat:=by omega
  rw [e3,e4,ih t hl k]
  congr 1
  cases b<;>rfl
theorem zb6 (l:List Bool):zG7 (numB l) l.length=l:=by
 have:=zYz l 0;rwa [Nat.zero_mul,Nat.zero_add] at this
theorem zTr (v:Nat) (m n:Nat):zG7 v (m+n)=zG7 (v/2^n) m++zG7 v n:=by
 induction n generalizing v with
 | zero=>simp [zG7]
 | succ n ih=>
  rw [← Nat.add_assoc,zG7,ih,zG7,List.append_assoc]
  congr 2
  rw [Nat.div_div_eq_div_mul,Nat.pow_succ,Nat.mul_comm 2]
theorem zTp (v n:Nat):zG7 (v%2^n) n=zG7 v n:=by
 have h:=zb6 (zG7 v n);rw [zAt,zRh] at h;exact h
def zJ (l:List Bool):UInt8:=UInt8.ofNat (numB l*2^(8-l.length))
theorem zM {l:List Bool} (h:l.length≤8):(zJ l).toNat=numB l*2^(8-l.length):=by
 unfold zJ;rw [UInt8.toNat_ofNat']
 apply Nat.mod_eq_of_lt
 have h1:=zI2 l
 have h2:2^l.length*2^(8-l.length)=2^8:=by rw [← Nat.pow_add];congr 1;omega
 have h3:0<2^(8-l.length):=Nat.two_pow_pos _
 calc numB l*2^(8-l.length)<2^l.length*2^(8-l.length):=Nat.mul_lt_mul_of_pos_right h1 h3
  _=2^8:=h2
def zDn (l:List Bool):List UInt8:=if h:l=[] then [] else zJ (l.take 8)::zDn (l.drop 8)
termination_by l.length
decreasing_by
 have:0<l.length:=by cases l with
  | nil=>exact (h rfl).elim
  | cons=>simp
 simp;omega
theorem zOe:zDn []=[]:=by rw [zDn];simp
theorem zOu {l:List Bool} (h:l≠[]):zDn l=zJ (l.take 8)::zDn (l.drop 8):=by rw [zDn,dif_neg h]
theorem zOf:∀ (k:Nat) (a b:List Bool),a.length=8*k→zDn (a++b)=zDn a++zDn b:=by
 intro k
 induction k with
 | zero=>intro a b h;rw [List.eq_nil_of_length_eq_zero (by omega:a.length=0)];simp [zOe]
 | succ k ih=>
  intro a b h
  have h1:a≠[]:=by intro hh;subst hh;simp at h
  have h2:a++b≠[]:=by simp [h1]
  rw [zOu h1,zOu h2,List.take_append_of_le_length (by omega),List.drop_append_of_le_length (by omega),ih (a.drop 8) b (by simp;omega)]
  rfl
theorem zLh {l:List Bool} (h:l≠[]) (h8:l.length≤8):zDn l=[zJ l]:=by
 rw [zOu h,List.take_of_length_le h8,List.drop_of_length_le h8,zOe]
theorem zF4 (l:List Bool):(zDn l).length=(l.length+7)/8:=by
 generalize hn:l.length=n
 induction n using Nat.strongRecOn generalizing l with
 | ind n ih=>
  by_cases h:l=[]
  ·subst h;rw [zOe];simp at hn;subst hn;rfl
  ·have hp:0<l.length:=List.length_pos_iff.2 h
   rw [zOu h,List.length_cons,ih (n-8) (by omega) (l.drop 8) (by simp;omega)]
   omega
theorem cut8 (l:List Bool):∃ (k:Nat) (a b:List Bool),l=a++b∧a.length=8*k∧b.length<8∧b.length=l.length%8∧k=l.length/8:=
 ⟨l.length/8,l.take (8*(l.length/8)),l.drop (8*(l.length/8)),(List.take_append_drop _ _).symm,by simp;omega,by simp;omega,by simp;omega,rfl⟩
theorem zZ4 {l:List Bool} {i:Nat} (h:8*i<l.length):(zDn l)[i]?=some (zJ ((l.drop (8*i)).take 8)):=by
 have h1:l=l.take (8*i)++l.drop (8*i):=(List.take_append_drop _ _).symm
 have h2:(l.take (8*i)).length=8*i:=by simp;omega
 have h3:(zDn (l.take (8*i))).length=i:=by rw [zF4,h2];omega
 have h4:l.drop (8*i)≠[]:=by intro hh;have:=congrArg List.length hh;simp at this;omega
 conv=>lhs;rw [h1,zOf i _ _ h2,zOu h4]
 rw [List.getElem?_append_right (by omega),h3,Nat.sub_self];rfl
abbrev biZ (b:Bool):Int:=if b=true then 1 else 0
theorem zfc (b:Bool):biZ b=(b.toNat:Int):=by cases b<;>rfl
end Go.Wk
set_option linter.unusedVariables false
set_option linter.unusedSimpArgs false
namespace Go.Wk
theorem zJd (z:Int):(zAf z).toNat=(z%18446744073709551616).toNat:=by
 unfold zAf;rw [UInt64.toNat_ofNat'];apply Nat.mod_eq_of_lt;omega
theorem zCk {k:Nat} (h:k<18446744073709551616):(zAf (k:Int)).toNat=k:=by rw [zJd];omega
theorem zWe (z:Int):(toU8 z).toNat=(z%256).toNat:=by
 unfold toU8;rw [UInt8.toNat_ofNat'];apply Nat.mod_eq_of_lt;omega
theorem zbf:(2:Nat)^64=18446744073709551616:=by decide
theorem zgi {m:Nat} (h:64≤m):18446744073709551616≤2^m:=by rw [← zbf];exact Nat.pow_le_pow_right (by omega) h
theorem zMx (a:UInt64) (m:Nat):(shl64 a m).toNat=a.toNat*2^m%18446744073709551616:=by
 unfold shl64
 split
 ·rename_i h
  rw [UInt64.toNat_shiftLeft,Nat.shiftLeft_eq,zbf]
  have:(UInt64.ofNat m).toNat%64=m:=by rw [UInt64.toNat_ofNat'];omega
  rw [this]
 ·rename_i h
  obtain ⟨q,rfl⟩:∃ q,m=64+q:=⟨m-64,by omega⟩;rw [Nat.pow_add,zbf,Nat.mul_left_comm,Nat.mul_mod_right];rfl
theorem zRq {a:UInt64} {m:Nat} (h:a.toNat*2^m<18446744073709551616):(shl64 a m).toNat=a.toNat*2^m:=by rw [zMx,Nat.mod_eq_of_lt h]
theorem zMw (a:UInt64) (m:Nat):(shr64 a m).toNat=a.toNat/2^m:=by
 unfold shr64
 split
 ·rename_i h
  rw [UInt64.toNat_shiftRight,Nat.shiftRight_eq_div_pow]
  have:(UInt64.ofNat m).toNat%64=m:=by rw [UInt64.toNat_ofNat'];omega
  rw [this]
 ·rename_i h
  have:=a.toNat_lt;have h2:=zgi (Nat.le_of_not_lt h);rw [Nat.div_eq_of_lt (by omega)];rfl
theorem zdc {k:Nat} (h:k≤64) (a:UInt64):(a&&&(shl64 1 k-1)).toNat=a.toNat%2^k:=by
 have ha:=a.toNat_lt
 rcases Nat.lt_or_ge k 64 with hk|hk
 ·have h1:(2:Nat)^k<2^64:=Nat.pow_lt_pow_right (by omega) hk
  have h2:=Nat.two_pow_pos k
  have e1:(shl64 1 k).toNat=2^k:=by rw [zRq];simp;simp;omega
  have e2:(shl64 1 k-1).toNat=2^k-1:=by
   rw [UInt64.toNat_sub_of_le _ _ (by rw [UInt64.le_iff_toNat_le,e1];exact h2),e1];rfl
  rw [UInt64.toNat_and,e2,Nat.and_two_pow_sub_one_eq_mod]
 ·obtain rfl:k=64:=by omega
  have:(shl64 1 64-1:UInt64)=18446744073709551615:=by decide
  rw [this,UInt64.toNat_and]
  have:(18446744073709551615:UInt64).toNat=2^64-1:=by decide
  rw [this,Nat.and_two_pow_sub_one_eq_mod]
theorem zWj (a:UInt8) (m:Nat):(shl8 a m).toNat=a.toNat*2^m%256:=by
 unfold shl8
 split
 ·rename_i h
  rw [UInt8.toNat_shiftLeft,Nat.shiftLeft_eq]
  have:(UInt8.ofNat m).toNat%8=m:=by rw [UInt8.toNat_ofNat'];omega
  rw [this]
 ·rename_i h
  obtain ⟨q,rfl⟩:∃ q,m=8+q:=⟨m-8,by omega⟩;rw [Nat.pow_add,Nat.mul_left_comm,show (2:Nat)^8=256 by decide,Nat.mul_mod_right];rfl
theorem zay (a:UInt8) (m:Nat):(shr8 a m).toNat=a.toNat/2^m:=by
 unfold shr8
 split
 ·rename_i h
  rw [UInt8.toNat_shiftRight,Nat.shiftRight_eq_div_pow]
  have:(UInt8.ofNat m).toNat%8=m:=by rw [UInt8.toNat_ofNat'];omega
  rw [this]
 ·rename_i h
  have:=a.toNat_lt
  have h2:256≤2^m:=by rw [show (256:Nat)=2^8 by decide];exact Nat.pow_le_pow_right (by omega) (by omega)
  rw [Nat.div_eq_of_lt (by omega)];rfl
theorem mask8 {k:Nat} (h:k≤8) (a:UInt8):(a&&&(shl8 1 k-1)).toNat=a.toNat%2^k:=by
 have ha:=a.toNat_lt
 have hk:k=0∨k=1∨k=2∨k=3∨k=4∨k=5∨k=6∨k=7∨k=8:=by omega
 have key:(shl8 1 k-1).toNat=2^k-1:=by rcases hk with rfl | rfl | rfl | rfl | rfl | rfl | rfl | rfl | rfl<;>decide
 rw [UInt8.toNat_and,key,Nat.and_two_pow_sub_one_eq_mod]
theorem zZ5 {a b i:Nat} (h:b<2^i):(a*2^i)|||b=a*2^i+b:=by
 rw [← Nat.shiftLeft_eq,← Nat.shiftLeft_add_eq_or_of_lt h]
theorem zUm {α:Type} (l:List α) (x y:α):zLd (l++[x]) (l.length:Int) y=l++[y]:=by
 unfold zLd;simp
theorem zNh {a b:Nat} (h:b≠0) (ha:a≤9223372036854775807):quoZ (a:Int) (b:Int)=some ((a/b:Nat):Int):=by
 unfold quoZ;rw [if_neg (by omega),← Int.ofNat_tdiv];have h1:a/b≤a:=Nat.div_le_self a b;generalize a/b=q at h1 ⊢;rw [zAs (by omega) (by omega)]
theorem zPp {a b:Nat} (h:b≠0):remZ (a:Int) (b:Int)=some ((a%b:Nat):Int):=by
 unfold remZ;rw [if_neg (by omega),← Int.ofNat_tmod]
end Go.Wk
set_option maxRecDepth 20000
set_option linter.unusedVariables false
set_option linter.unusedSimpArgs false
namespace Go.Proofs.YthjhejgjcdajdaaGreatDoor
open Go Go.RowKit Go.Wk
abbrev WrO (L:List Bool):zA3:=⟨zDn L,(L.length:Int)⟩
theorem zRz {A B:List Bool} {q:Nat} (hA:A.length=8*q):zDn (A++B)=zDn A++zDn B:=zOf q A B hA
theorem za2 {B K:List Bool} (h:B.length+K.length≤8):zJ (B++K)=zJ B|||UInt8.ofNat (numB K*2^(8-B.length-K.length)):=by
 apply UInt8.toNat_inj.1
 have hk:=zI2 K;have hp:=Nat.two_pow_pos (8-B.length-K.length)
 have e1:2^K.length*2^(8-B.length-K.length)=2^(8-B.length):=by rw [← Nat.pow_add];congr 1;omega
 have h1:numB K*2^(8-B.length-K.length)<2^(8-B.length):=by rw [← e1];exact Nat.mul_lt_mul_of_pos_right hk hp
 have h2:2^(8-B.length)≤2^8:=Nat.pow_le_pow_right (by omega) (by omega)
 have h3:(UInt8.ofNat (numB K*2^(8-B.length-K.length))).toNat=numB K*2^(8-B.length-K.length):=by
  rw [UInt8.toNat_ofNat'];exact Nat.mod_eq_of_lt (by omega)
 rw [UInt8.toNat_or,h3,zM (by simp;omega),zM (by omega),zZ5 h1,zJ0,List.length_append,Nat.add_mul,Nat.mul_assoc,show 8-(B.length+K.length)=8-B.length-K.length by omega,e1]
theorem zee (v:UInt64) {A B:List Bool} {q m k:Nat} (hA:A.length=8*q) (hm:m≤64) (hk:k≤m) (hk0:0<k) (hB:B.length+k≤8) (hq:q≤1000000000) :
 zLd (zDn A++[zJ B]) (W64 (((zDn A++[zJ B]).length:Int)-1)) (zJ B|||toU8 ((shl64 ((shr64 v ((zAf (W64 ((m:Int)-(k:Int)))).toNat))&&&((shl64 (1:UInt64) ((zAf (k:Int)).toNat))-(1:UInt64))) ((zAf (W64 (((8-B.length:Nat):Int)-(k:Int)))).toNat)).toNat:Int))=zDn (A++(B++zG7 (v.toNat/2^(m-k)) k)):=by
 have hl:(zDn A).length=q:=by rw [zF4,hA];omega
 have e1:W64 (((zDn A++[zJ B]).length:Int)-1)=((zDn A).length:Int):=by rw [List.length_append,hl];simp only [List.length_cons,List.length_nil];rw [zAs (by omega) (by omega)];omega
 rw [e1,zUm]
 have e2:(zAf (W64 ((m:Int)-(k:Int)))).toNat=m-k:=by rw [zAs (by omega) (by omega),show (m:Int)-(k:Int)=((m-k:Nat):Int) by omega,zCk (by omega)]
 have e3:(zAf (k:Int)).toNat=k:=zCk (by omega)
 have e4:(zAf (W64 (((8-B.length:Nat):Int)-(k:Int)))).toNat=8-B.length-k:=by rw [zAs (by omega) (by omega),show ((8-B.length:Nat):Int)-(k:Int)=((8-B.length-k:Nat):Int) by omega,zCk (by omega)]
 rw [e2,e3,e4];generalize hK:zG7 (v.toNat/2^(m-k)) k=K
 have hKl:K.length=k:=by rw [← hK,zAt]
 have e5:((shr64 v (m-k))&&&((shl64 (1:UInt64) k)-(1:UInt64))).toNat=numB K:=by rw [zdc (by omega),zMw,← hK,zRh]
 have hK1:=zI2 K;rw [hKl] at hK1
 have h8:numB K*2^(8-B.length-k)<256:=by
  have e1:2^k*2^(8-B.length-k)=2^(8-B.length):=by rw [← Nat.pow_add];congr 1;omega
  have h1:numB K*2^(8-B.length-k)<2^(8-B.length):=by rw [← e1];exact Nat.mul_lt_mul_of_pos_right hK1 (Nat.two_pow_pos _)
  have h2:2^(8-B.length)≤2^8:=Nat.pow_le_pow_right (by omega) (by omega)
  omega
 have e6:(shl64 ((shr64 v (m-k))&&&((shl64 (1:UInt64) k)-(1:UInt64))) (8-B.length-k)).toNat=numB K*2^(8-B.length-k):=by
  rw [zRq (by rw [e5];omega),e5]
 rw [e6]
 have hne:B++K≠[]:=by intro h;have:=congrArg List.length h;simp [hKl] at this;omega
 rw [zRz hA,zLh hne (by simp [hKl];omega),za2 (by rw [hKl];exact hB),hKl]
 congr 3
 apply UInt8.toNat_inj.1
 rw [zWe,UInt8.toNat_ofNat',show (256:Int)=((256:Nat):Int) by rfl,← Int.natCast_emod,Int.toNat_natCast]
theorem ze6 {M:List Bool} (h:M.length≤8000000000):zDg (WrO M)=some ((8*((M.length+7)/8)-M.length:Nat):Int):=by
 unfold zDg;dsimp only
 have e:W64 (8*((zDn M).length:Int))=8*((zDn M).length:Int):=by rw [zF4,zAs (by omega) (by omega)]
 rw [e,zF4,zAs (by omega) (by omega)]
 congr 1;omega
theorem zbe (v:UInt64) (j2:zA3→Option (Bool×zA3)):∀ (m:Nat) (M:List Bool) (n:Nat),m≤64→M.length+m≤8000000000→m<n →
 zCy v j2 n (m:Int) (WrO M)=j2 (WrO (M++zG7 v.toNat m)):=by
 intro m
 induction m using Nat.strongRecOn with
 | ind m ih=>
  intro M n hm hM hn;obtain ⟨n,rfl⟩:∃ k,n=k+1:=⟨n-1,by omega⟩;rw [zCy]
  by_cases h0:m=0
  ·subst h0;rw [if_neg (by omega),zUt,List.append_nil]
  rw [if_pos (by omega),ze6 (by omega),zAh,zB2];obtain ⟨q,A,B,hAB,hA,hB,hBl,hq⟩:=cut8 M
  have hl:M.length=8*q+B.length:=by rw [hAB,List.length_append,hA]
  generalize hy:(⟨zDn A++[zJ B],(M.length:Int)⟩:zA3)=y
  have key:(zDg y).bind (λp18 => jn (λ(y21:UInt64) =>
   ((idx y.b (W64 ((y.b.length:Int)-1))).bind λz26=>
    (idx y.b (W64 ((y.b.length:Int)-1))).bind λz27=>
    zCy v j2 n (W64 ((m:Int)-(min (m:Int) p18))) (⟨(zLd y.b (W64 ((y.b.length:Int)-1)) (z26|||(toU8 ((shl64 y21 ((zAf (W64 (p18-(min (m:Int) p18)))).toNat)).toNat:Int)))),W64 (y.n+(min (m:Int) p18))⟩:zA3))) λj4=>
   if min (m:Int) p18<64 then
   (j4 ((shr64 v ((zAf (W64 ((m:Int)-(min (m:Int) p18)))).toNat))&&&((shl64 (1:UInt64) ((zAf (min (m:Int) p18)).toNat))-(1:UInt64))))
   else
   (j4 (shr64 v ((zAf (W64 ((m:Int)-(min (m:Int) p18)))).toNat))))=j2 (WrO (M++zG7 v.toNat m)):=by
   have hyb:y.b=zDn A++[zJ B]:=by rw [← hy]
   have hyn:y.n=(M.length:Int):=by rw [← hy]
   have hlen:(zDn A).length=q:=by rw [zF4,hA];omega
   have er:zDg y=some ((8-B.length:Nat):Int):=by
    unfold zDg;rw [hyb,hyn,List.length_append,hlen];simp only [List.length_cons,List.length_nil];have e:W64 (8*((q+(0+1):Nat):Int))=8*((q+(0+1):Nat):Int):=zAs (by omega) (by omega);rw [e,zAs (by omega) (by omega)]
    congr 1;omega
   rw [er,zAh,zB2,hyb,hyn];generalize hk:min m (8-B.length)=k
   have ek:min (m:Int) ((8-B.length:Nat):Int)=(k:Int):=by omega
   rw [ek,if_pos (by omega)];dsimp only
   have ei:idx (zDn A++[zJ B]) (W64 (((zDn A++[zJ B]).length:Int)-1))=some (zJ B):=by
    have e1:W64 (((zDn A++[zJ B]).length:Int)-1)=((zDn A).length:Int):=by rw [List.length_append,hlen];simp only [List.length_cons,List.length_nil];rw [zAs (by omega) (by omega)];omega
    rw [e1];exact zFy _ _ _
   rw [ei,zAh,zAh,zee v hA hm (by omega) (by omega) (by omega) (by omega)]
   have e7:W64 ((m:Int)-(k:Int))=((m-k:Nat):Int):=by rw [zAs (by omega) (by omega)];omega
   have e8:W64 ((M.length:Int)+(k:Int))=((M++zG7 (v.toNat/2^(m-k)) k).length:Int):=by rw [zAs (by omega) (by omega),List.length_append,zAt];omega
   have e9:A++(B++zG7 (v.toNat/2^(m-k)) k)=M++zG7 (v.toNat/2^(m-k)) k:=by rw [hAB,List.append_assoc]
   rw [e7,e8,e9];have:=ih (m-k) (by omega) (M++zG7 (v.toNat/2^(m-k)) k) n (by omega) (by rw [List.length_append,zAt];omega) (by omega);rw [this,List.append_assoc,← zTr,show k+(m-k)=m by omega]
  by_cases hB0:B.length=0
  ·rw [if_pos (by omega)]
   obtain rfl:B=[]:=List.eq_nil_of_length_eq_zero hB0
   have hMA:M=A:=by rw [hAB,List.append_nil]
   have hb:zJ []=0:=by decide
   rw [zB6 (by rw [zF4];simp;omega),zAh];rw [hb,← hMA] at hy;subst hy;exact key
  ·rw [if_neg (by omega)]
   have hne:B≠[]:=by intro h;subst h;exact hB0 rfl
   have:WrO M=y:=by rw [← hy];unfold WrO;rw [hAB,zRz hA,zLh hne (by omega)]
   rw [this];exact key
theorem zKh {M:List Bool} {v:UInt64} {n:Nat} (hM:M.length+n≤8000000000) (hn:n≤64) (hv:v.toNat<2^n) :
 zAk (WrO M) v (n:Int)=some (true,WrO (M++zG7 v.toNat n)):=by
 unfold zAk;simp only [zB2];rw [if_neg (by omega)];obtain ⟨f,hf⟩:=zJs 65 (by omega);have hl:=zbe v (λy8=>some (true,y8)) n M fuel hn hM (by rw [hf];omega)
 by_cases h64:n<64
 ·have e1:(zAf (n:Int)).toNat=n:=zCk (by omega)
  rw [if_pos (by omega),e1,zMw,Nat.div_eq_of_lt hv,decide_eq_false (by simp)];simp only [Bool.false_eq_true,if_false];exact hl
 ·rw [if_neg (by omega)]
  simp only [Bool.false_eq_true,if_false];exact hl
end Go.Proofs.YthjhejgjcdajdaaGreatDoor
set_option maxRecDepth 20000
set_option linter.unusedVariables false
set_option linter.unusedSimpArgs false
namespace Go.Proofs.YthjhejgjcdajdaaGreatDoor
open Go Go.RowKit Go.Wk
abbrev RdO (L:List Bool) (a:Nat):zA:=⟨zDn L,(L.length:Int),(a:Int)⟩
theorem zf3 {a b c k e:Nat} (hb:b<2^k) (hc:c<2^e):(a*2^(k+e)+b*2^e+c)/2^e%2^k=b:=by
 have hp:=Nat.two_pow_pos e
 have e1:a*2^(k+e)+b*2^e+c=(a*2^k+b)*2^e+c:=by rw [Nat.add_mul,Nat.mul_assoc,← Nat.pow_add]
 rw [e1,Nat.mul_comm,Nat.mul_add_div hp,Nat.div_eq_of_lt hc,Nat.add_zero,Nat.mul_comm,Nat.mul_add_mod,Nat.mod_eq_of_lt hb]
theorem zc9 {C1 K C2:List Bool} (h:C1.length+K.length+C2.length≤8):(zJ (C1++(K++C2))).toNat/2^(8-C1.length-K.length)%2^K.length=numB K:=by
 have hl:(C1++(K++C2)).length=C1.length+K.length+C2.length:=by simp [Nat.add_assoc]
 rw [zM (by omega),zJ0,zJ0,hl];have h2:=zI2 C2;have hp:=Nat.two_pow_pos (8-(C1.length+K.length+C2.length))
 have e1:2^C2.length*2^(8-(C1.length+K.length+C2.length))=2^(8-C1.length-K.length):=by rw [← Nat.pow_add];congr 1;omega
 have e2:2^(K++C2).length*2^(8-(C1.length+K.length+C2.length))=2^(K.length+(8-C1.length-K.length)):=by rw [← Nat.pow_add];congr 1;simp;omega
 rw [Nat.add_mul,Nat.add_mul,Nat.mul_assoc,e2,Nat.mul_assoc,e1,← Nat.add_assoc];exact zf3 (zI2 K) (by rw [← e1];exact Nat.mul_lt_mul_of_pos_right h2 hp)
theorem zZd {L:List Bool} {a k:Nat} (h:a+k≤L.length) (hk:k≤8-a%8) (hk0:0<k) :
 ∃ z,idx (zDn L) ((a/8:Nat):Int)=some z∧z.toNat/2^(8-a%8-k)%2^k=numB ((L.drop a).take k):=by
 refine ⟨_,by rw [zNr,zZ4 (by omega)],?_⟩
 have e1:(L.drop (8*(a/8))).take 8=((L.drop (8*(a/8))).take 8).take (a%8)++((((L.drop (8*(a/8))).take 8).drop (a%8)).take k++(((L.drop (8*(a/8))).take 8).drop (a%8)).drop k):=by
  rw [List.take_append_drop,List.take_append_drop]
 have e2:(((L.drop (8*(a/8))).take 8).drop (a%8)).take k=(L.drop a).take k:=by
  rw [List.drop_take,List.drop_drop,show 8*(a/8)+a%8=a by omega,List.take_take,Nat.min_eq_left hk]
 have l1:(((L.drop (8*(a/8))).take 8).take (a%8)).length=a%8:=by simp;omega
 have l2:((L.drop a).take k).length=k:=by simp;omega
 have l3:((((L.drop (8*(a/8))).take 8).drop (a%8)).drop k).length+a%8+k≤8:=by simp;omega
 rw [e1,e2];have:=zc9 (C1:=((L.drop (8*(a/8))).take 8).take (a%8)) (K:=(L.drop a).take k) (C2:=(((L.drop (8*(a/8))).take 8).drop (a%8)).drop k) (by rw [l1,l2];omega);rw [l1,l2] at this;exact this
theorem zZc {L:List Bool} (hL:L.length≤8000000000) (a0:Nat) (j2:UInt64→Option (UInt64×Bool)):∀ (m a:Nat) (v:UInt64) (n:Nat),m≤64→a+m≤L.length→v.toNat<2^(64-m)→m<n →
 zDa (RdO L a0) j2 n (m:Int) v (a:Int)=j2 (UInt64.ofNat (v.toNat*2^m+numB ((L.drop a).take m))):=by
 intro m
 induction m using Nat.strongRecOn with
 | ind m ih=>
  intro a v n hm hM hv hn;obtain ⟨n,rfl⟩:∃ k,n=k+1:=⟨n-1,by omega⟩;rw [zDa]
  by_cases h0:m=0
  ·subst h0
   rw [if_neg (by omega)]
   congr 1
   apply UInt64.toNat_inj.1
   rw [UInt64.toNat_ofNat'];have:=v.toNat_lt;simp [zbp]
  have q1:remZ (a:Int) 8=some ((a%8:Nat):Int):=zPp (b:=8) (by omega);have q2:quoZ (a:Int) 8=some ((a/8:Nat):Int):=zNh (b:=8) (by omega) (by omega);rw [if_pos (by omega),q1,zAh,q2,zAh]
  have e8:W64 (8-((a%8:Nat):Int))=((8-a%8:Nat):Int):=by rw [zAs (by omega) (by omega)];omega
  generalize hk:min m (8-a%8)=k
  have ek:min (m:Int) ((8-a%8:Nat):Int)=(k:Int):=by omega
  obtain ⟨z,hz,hzn⟩:=zZd (L:=L) (a:=a) (k:=k) (by omega) (by omega) (by omega)
  have e9:W64 (((8-a%8:Nat):Int)-(k:Int))=((8-a%8-k:Nat):Int):=by rw [zAs (by omega) (by omega)];omega
  have e10:W64 ((m:Int)-(k:Int))=((m-k:Nat):Int):=by rw [zAs (by omega) (by omega)];omega
  have e11:W64 ((a:Int)+(k:Int))=((a+k:Nat):Int):=by rw [zAs (by omega) (by omega)];omega
  show ((idx (zDn L) ((a/8:Nat):Int)).bind _)=_;rw [hz,zAh];rw [e8,ek,e9,e10,e11,zCk (by omega),zCk (by omega)]
  have hp:(((shr8 z (8-a%8-k))&&&((shl8 (1:UInt8) k)-(1:UInt8))).toNat)=numB ((L.drop a).take k):=by
   rw [mask8 (by omega),zay,hzn]
  rw [hp]
  have hkl:((L.drop a).take k).length=k:=by simp;omega
  have hK:=zI2 ((L.drop a).take k);rw [hkl] at hK;have hK8:2^k≤2^8:=Nat.pow_le_pow_right (by omega) (by omega)
  have hvk:v.toNat*2^k<2^(64-(m-k)):=by
   have e1:2^(64-m)*2^k=2^(64-(m-k)):=by rw [← Nat.pow_add];congr 1;omega
   rw [← e1];exact Nat.mul_lt_mul_of_pos_right hv (Nat.two_pow_pos _)
  have h64:2^(64-(m-k))≤2^64:=Nat.pow_le_pow_right (by omega) (by omega)
  have hnv:((shl64 v k)|||(zAf ((numB ((L.drop a).take k):Nat):Int))).toNat=v.toNat*2^k+numB ((L.drop a).take k):=by
   rw [UInt64.toNat_or,zRq (by omega),zCk (by omega),zZ5 hK]
  have hlt:v.toNat*2^k+numB ((L.drop a).take k)<2^(64-(m-k)):=by
   have e1:2^(64-(m-k))=2^(64-m)*2^k:=by rw [← Nat.pow_add];congr 1;omega
   rw [e1]
   calc v.toNat*2^k+numB ((L.drop a).take k)<v.toNat*2^k+2^k:=by omega
    _=(v.toNat+1)*2^k:=by rw [Nat.add_mul,Nat.one_mul]
    _≤2^(64-m)*2^k:=Nat.mul_le_mul_right _ hv
  rw [ih (m-k) (by omega) (a+k) _ n (by omega) (by omega) (by rw [hnv];exact hlt) (by omega),hnv]
  congr 2
  have e12:(L.drop a).take m=(L.drop a).take k++(L.drop (a+k)).take (m-k):=by
   rw [← List.drop_drop,← List.take_add];congr 1;omega
  have hr:((L.drop (a+k)).take (m-k)).length=m-k:=by simp;omega
  rw [e12,zJ0,hr,Nat.add_mul,Nat.mul_assoc,← Nat.pow_add,show k+(m-k)=m by omega,Nat.add_assoc]
theorem zS7 {L:List Bool} {a n:Nat} (hL:L.length≤8000000000) (ha:a≤L.length) (hn:n≤64) :
 zD1 (RdO L a) (n:Int)=some (if a+n≤L.length then (UInt64.ofNat (numB ((L.drop a).take n)),true) else (0,false)):=by
 unfold zD1 zC1;simp only [zB2,zAh];rw [if_neg (by omega),zAs (by omega) (by omega)]
 by_cases h:a+n≤L.length
 ·rw [if_pos h,decide_eq_false (by omega)]
  simp only [Bool.false_eq_true,if_false];obtain ⟨f,hf⟩:=zJs 65 (by omega);have h1:(0:UInt64).toNat=0:=rfl;have hl:=zZc hL a (λy13=>some (y13,true)) n a 0 fuel hn h (by rw [h1];exact Nat.two_pow_pos _) (by rw [hf];omega);rw [h1,Nat.zero_mul,Nat.zero_add] at hl;exact hl
 ·rw [if_neg h,decide_eq_true (by omega)];rfl
theorem zQd {L:List Bool} {a n:Nat} (hL:L.length≤8000000000) (ha:a+n≤L.length):zCj (RdO L a) (n:Int)=some (true,RdO L (a+n)):=by
 unfold zCj zC1;simp only [zB2,zAh];rw [if_neg (by omega),zAs (by omega) (by omega),decide_eq_false (by omega)];simp only [Bool.false_eq_true,if_false];rw [zAs (by omega) (by omega)];simp
theorem zTj {L:List Bool} {a n:Nat} (hL:L.length≤8000000000) (ha:a≤L.length) (hn:n≤64) :
 zDh (RdO L a) (n:Int)=some (if a+n≤L.length then (UInt64.ofNat (numB ((L.drop a).take n)),true,RdO L (a+n)) else (0,false,RdO L a)):=by
 unfold zDh;rw [zS7 hL ha hn,zAh];simp only [zB2]
 by_cases h:a+n≤L.length
 ·rw [if_pos h,if_pos h];simp only [if_true]
  rw [zAs (by omega) (by omega)];simp
 ·rw [if_neg h,if_neg h];simp only [Bool.false_eq_true,if_false]
theorem zb8 {L:List Bool} {a:Nat} (hL:L.length≤8000000000) (ha:a≤L.length):zC1 (RdO L a)=some ((L.length-a:Nat):Int):=by
 unfold zC1;dsimp only;rw [zAs (by omega) (by omega)];congr 1;omega
end Go.Proofs.YthjhejgjcdajdaaGreatDoor
set_option maxRecDepth 20000
set_option linter.unusedVariables false
set_option linter.unusedSimpArgs false
namespace Go.Proofs.YthjhejgjcdajdaaGreatDoor
open Go Go.RowKit Go.Wk
abbrev zs (l:List Bool):List Int:=l.map biZ
theorem zJ6 (a b:List Bool):zs (a++b)=zs a++zs b:=List.map_append
theorem zDv (a:List Bool):(zs a).length=a.length:=List.length_map ..
theorem rem2 (v:UInt64):rem64 v 2=some (UInt64.ofNat (v.toNat%2)):=by
 unfold rem64;rw [if_neg (by decide)];congr 1
 apply UInt64.toNat_inj.1
 rw [UInt64.toNat_mod,UInt64.toNat_ofNat',show (2:UInt64).toNat=2 by rfl];omega
theorem quo2 (v:UInt64):quo64 v 2=some (UInt64.ofNat (v.toNat/2)):=by
 unfold quo64;rw [if_neg (by decide)];congr 1
 apply UInt64.toNat_inj.1
 have:=v.toNat_lt;rw [UInt64.toNat_div,UInt64.toNat_ofNat',show (2:UInt64).toNat=2 by rfl];omega
theorem zb5 (n:Nat) (hn:n≤64) (j1:UInt64→List Int→Option (List Int×Bool)):∀ (r i:Nat) (v:UInt64) (acc:List Bool) (f:Nat),i+r=n→acc.length≤i→r<f →
 zC7 (n:Int) j1 f v (zs acc) (i:Int)=j1 (UInt64.ofNat (v.toNat/2^r)) (zs (zG7 v.toNat r++acc)):=by
 intro r
 induction r with
 | zero=>
  intro i v acc f h1 h2 h3;obtain ⟨f,rfl⟩:∃ k,f=k+1:=⟨f-1,by omega⟩;rw [zC7,if_neg (by omega),zUt];simp
 | succ r ih=>
  intro i v acc f h1 h2 h3;obtain ⟨f,rfl⟩:∃ k,f=k+1:=⟨f-1,by omega⟩;have hv:=v.toNat_lt;rw [zC7,if_pos (by omega),rem2,zAh]
  have hb:W64 (((UInt64.ofNat (v.toNat%2)).toNat:Nat):Int)=biZ (v.toNat%2==1):=by
   rw [UInt64.toNat_ofNat',Nat.mod_eq_of_lt (by omega),zAs (by omega) (by omega)]
   rcases Nat.mod_two_eq_zero_or_one v.toNat with h|h<;>rw [h]<;>rfl
  rw [hb,show ([biZ (v.toNat%2==1)]:List Int)=zs [v.toNat%2==1] by rfl,zB6 (by simp;omega),zAh,quo2,zAh,← zJ6,zEx (by omega)]
  have hq:(UInt64.ofNat (v.toNat/2)).toNat=v.toNat/2:=by rw [UInt64.toNat_ofNat'];exact Nat.mod_eq_of_lt (by omega)
  rw [ih (i+1) _ _ f (by omega) (by simp;omega) (by omega),hq,zG7,Nat.div_div_eq_div_mul,← Nat.pow_succ',List.append_assoc]
theorem zRt {v:UInt64} {n:Nat} (hn:n≤64):zB0 v (n:Int)=some (zs (zG7 v.toNat n),decide (v.toNat<2^n)):=by
 unfold zB0;rw [if_neg (by omega),zB2];obtain ⟨f,hf⟩:=zJs 65 (by omega);have:=zb5 n hn (λy6 y7=>some (y7,decide (((y6).toNat:Int)=0))) n 0 v [] fuel (by omega) (by simp) (by rw [hf];omega);rw [show ([]:List Int)=zs [] by rfl];refine this.trans ?_;rw [List.append_nil]
 congr 2
 have hv:=v.toNat_lt;have hp:=Nat.two_pow_pos n;have h1:v.toNat/2^n≤v.toNat:=Nat.div_le_self _ _;rw [UInt64.toNat_ofNat',Nat.mod_eq_of_lt (by omega)]
 by_cases h:v.toNat<2^n
 ·rw [decide_eq_true h,Nat.div_eq_of_lt h];rfl
 ·have:=Nat.div_pos (Nat.le_of_not_lt h) hp
  rw [decide_eq_false h,decide_eq_false (by omega)]
theorem zc8 (l:List Bool) (i:Nat) (j2:Int→Option (List UInt8)) (hl:l.length≤1073741824) (hi:i<l.length):∀ (r k:Nat) (B:List Bool) (f:Nat),k+r=8→r<f→B.length=min k (l.length-i)→B=(l.drop i).take k →
 zBt (zs l) (i:Int) j2 f ((numB B*2^(k-B.length):Nat):Int) (k:Int)=j2 (((zJ ((l.drop i).take 8)).toNat:Nat):Int):=by
 intro r
 induction r with
 | zero=>
  intro k B f hk hf hB hB2;obtain ⟨f,rfl⟩:∃ k,f=k+1:=⟨f-1,by omega⟩;rw [zBt,if_neg (by omega),zM (by simp;omega)]
  obtain rfl:k=8:=by omega
  rw [← hB2]
 | succ r ih=>
  intro k B f hk hf hB hB2;obtain ⟨f,rfl⟩:∃ k,f=k+1:=⟨f-1,by omega⟩
  have hn:numB B*2^(k-B.length)<2^8:=by
   have h1:=zI2 B
   have e1:2^B.length*2^(k-B.length)=2^k:=by rw [← Nat.pow_add];congr 1;omega
   have h2:numB B*2^(k-B.length)<2^k:=by rw [← e1];exact Nat.mul_lt_mul_of_pos_right h1 (Nat.two_pow_pos _)
   have h3:2^k≤2^8:=Nat.pow_le_pow_right (by omega) (by omega)
   omega
  have ea:W64 ((i:Int)+(k:Int))=((i+k:Nat):Int):=by rw [zAs (by omega) (by omega)];rfl
  have eb:W64 (2*((numB B*2^(k-B.length):Nat):Int))=((2*(numB B*2^(k-B.length)):Nat):Int):=by
   generalize numB B*2^(k-B.length)=x at hn ⊢;rw [zAs (by omega) (by omega)];rfl
  rw [zBt,if_pos (by omega),zB2,ea,eb];dsimp only
  by_cases h:i+k<l.length
  ·rw [if_pos (by rw [zDv];omega),zSb (by rw [zDv];exact h),zAh]
   have e:(zs l)[i+k]'(by rw [zDv];exact h)=biZ l[i+k]:=by simp [zs]
   have hBk:B.length=k:=by omega
   have ec:W64 (((2*(numB B*2^(k-B.length)):Nat):Int)+biZ l[i+k])=((numB (B++[l[i+k]])*2^((k+1)-(B++[l[i+k]]).length):Nat):Int):=by
    rw [zfc,hBk,List.length_append,hBk,zJ0,zOv];simp only [Nat.sub_self,Nat.pow_zero,Nat.mul_one,List.length_cons,List.length_nil,Nat.zero_add,Nat.pow_one];rw [hBk,Nat.sub_self,Nat.pow_zero,Nat.mul_one] at hn
    have hb:l[i+k].toNat<2:=by cases l[i+k]<;>decide
    rw [zAs (by omega) (by omega)];omega
   rw [e,ec,zEx (by omega)];refine ih (k+1) _ f (by omega) (by omega) (by simp;omega) ?_;rw [hB2,List.take_add_one,List.getElem?_drop,List.getElem?_eq_getElem h];rfl
  ·rw [if_neg (by rw [zDv];omega)]
   have ec:((2*(numB B*2^(k-B.length)):Nat):Int)=((numB B*2^((k+1)-B.length):Nat):Int):=by
    rw [show k+1-B.length=(k-B.length)+1 by omega,Nat.pow_succ];generalize 2^(k-B.length)=y;exact congrArg (λn:Nat=>(n:Int)) (by rw [Nat.mul_comm y 2,Nat.mul_left_comm])
   rw [ec,zEx (by omega)];refine ih (k+1) _ f (by omega) (by omega) (by omega) ?_;rw [hB2,List.take_of_length_le (by simp;omega),List.take_of_length_le (by simp;omega)]
theorem za1 {l:List Bool} (h:l.length≤1000000000):zFx (zs l)=some (zDn l):=by
 unfold zFx;rw [zB2];obtain ⟨f,hf⟩:=fuelB 1000000001 (by decide)
 have key:∀ (m i:Nat) (f:Nat),l.length≤i+8*m→i%8=0→m<f→zBh (zs l) (λy3=>some y3) f (zDn (l.take i)) (i:Int)=some (zDn l):=by
  intro m
  induction m with
  | zero=>
   intro i f hm hi hf;obtain ⟨f,rfl⟩:∃ k,f=k+1:=⟨f-1,by omega⟩;rw [zBh,if_neg (by rw [zDv];omega),List.take_of_length_le (by omega)]
  | succ m ih=>
   intro i f hm hi hf;obtain ⟨f,rfl⟩:∃ k,f=k+1:=⟨f-1,by omega⟩;rw [zBh]
   by_cases h0:i<l.length
   ·rw [if_pos (by rw [zDv];omega),zB2]
    obtain ⟨f2,hf2⟩:=zJs 9 (by omega);have hin:=zc8 l i (λy15=>(zDu (zDn (l.take i)) [toU8 y15]).bind λz17=>zBh (zs l) (λy3=>some y3) f z17 (W64 ((i:Int)+8))) (by omega) h0 8 0 [] fuel (by omega) (by rw [hf2];omega) (by simp) (by simp);refine Eq.trans ?_ (hin.trans ?_)
    ·rfl
    ·have hlt:(l.take i).length=8*(i/8):=by simp;omega
     have hne:(l.drop i).take 8≠[]:=by intro hh;have:=congrArg List.length hh;simp at this;omega
     have e8:zDn (l.take i)++[zJ ((l.drop i).take 8)]=zDn (l.take (i+8)):=by
      rw [List.take_add,zRz hlt,zLh hne (by simp;omega)]
     have et:toU8 (((zJ ((l.drop i).take 8)).toNat:Nat):Int)=zJ ((l.drop i).take 8):=by
      apply UInt8.toNat_inj.1;have:=(zJ ((l.drop i).take 8)).toNat_lt;rw [zWe];omega
     rw [et,zB6 (by rw [zF4];simp;omega),zAh,e8,show W64 ((i:Int)+8)=((i+8:Nat):Int) by rw [zAs (by omega) (by omega)];rfl];exact ih (i+8) f (by omega) (by omega) (by omega)
   ·rw [if_neg (by rw [zDv];omega),List.take_of_length_le (by omega)]
 have:=key 1000000000 0 fuel (by omega) rfl (by rw [hf];omega);rw [List.take_zero,zOe] at this;exact this
end Go.Proofs.YthjhejgjcdajdaaGreatDoor
set_option linter.unusedVariables false
set_option linter.unusedSimpArgs false
namespace Go.Proofs.YthjhejgjcdajdaaGreatDoor
open Go Go.RowKit Go.Wk
theorem zQq {α β:Type} {F:α} {B:α→β} {r:β} (Q:α→Prop) (hF:Q F) (hB:∀ j,Q j→B j=r):jn F B=r:=hB F hF
def bl (n:Nat):Nat:=if n=0 then 0 else n.log2+1
theorem zUa (n:Nat):n<2^bl n:=by
 unfold bl;split
 ·rename_i h;subst h;decide
 ·exact Nat.lt_log2_self
theorem za3 {n:Nat} (h:n≠0):2^(bl n-1)≤n:=by
 unfold bl;rw [if_neg h];exact Nat.log2_self_le h
theorem bl_of {n L:Nat} (h1:n<2^L) (h2:L=0∨2^(L-1)≤n):bl n=L:=by
 rcases h2 with rfl|h2
 ·have:n=0:=by simpa using h1
  subst this;rfl
 ·have hn:n≠0:=by have:=Nat.two_pow_pos (L-1);omega
  have hl:=za3 hn;have hh:=zUa n;have a1:L-1<bl n:=(Nat.pow_lt_pow_iff_right (a:=2) (by omega)).1 (by omega);have a2:bl n-1<L:=(Nat.pow_lt_pow_iff_right (a:=2) (by omega)).1 (by omega)
  have a3:0<bl n:=by omega
  omega
theorem zU9 {n:Nat} (k:Nat) (h:2^k≤n):bl n=bl (n/2^k)+k:=by
 have hp:=Nat.two_pow_pos k;have hq:n/2^k≠0:=Nat.pos_iff_ne_zero.1 (Nat.div_pos h hp);have h1:=zUa (n/2^k);have h2:=za3 hq
 have h3:0<bl (n/2^k):=by
  rcases Nat.eq_zero_or_pos (bl (n/2^k)) with h0|h0
  ·rw [h0] at h1;exact absurd (by simpa using h1) hq
  ·exact h0
 refine bl_of ?_ (.inr ?_)
 ·rw [Nat.pow_add];exact (Nat.div_lt_iff_lt_mul hp).1 h1
 ·rw [show bl (n/2^k)+k-1=bl (n/2^k)-1+k by omega,Nat.pow_add];exact (Nat.le_div_iff_mul_le hp).1 h2
theorem zSz {n k:Nat} (h:n<2^k):bl n≤k:=by
 by_cases h0:n=0
 ·subst h0;exact Nat.zero_le _
 ·have:=za3 h0
  have:bl n-1<k:=(Nat.pow_lt_pow_iff_right (a:=2) (by omega)).1 (by omega)
  omega
theorem tabL {T:List UInt8} (hT:∀ n,n<256→T[n]?=some (UInt8.ofNat (bl n))) {n:Nat} (h:n<256):idx T (n:Int)=some (UInt8.ofNat (bl n)):=by rw [zNr];exact hT n h
theorem zbn {n:Nat} (h:n<256):(UInt8.ofNat (bl n)).toNat=bl n:=by
 have:bl n≤8:=zSz h;simp [UInt8.toNat_ofNat'];omega
theorem zX (x:UInt64):zH8 x=some ((bl x.toNat:Nat):Int):=by
 unfold zH8
 have hsh:∀ (y:UInt64) (k:Nat),k<64→(y>>>UInt64.ofNat k).toNat=y.toNat/2^k:=λy k hk=>by
  rw [UInt64.toNat_shiftRight,Nat.shiftRight_eq_div_pow];congr 2;simp [UInt64.toNat_ofNat'];omega
 refine zQq (λj=>∀ (y:UInt64) (a:Int),y.toNat<4294967296→0≤a→a≤32→j y a=some (a+(bl y.toNat:Nat))) (λy a hy h0 h1=>?_) (λj hj=>?_)
 ·refine zQq (λj=>∀ (y:UInt64) (a:Int),y.toNat<65536→0≤a→a≤48→j y a=some (a+(bl y.toNat:Nat))) (λy a hy h0 h1=>?_) (λj hj=>?_)
  ·refine zQq (λj=>∀ (y:UInt64) (a:Int),y.toNat<256→0≤a→a≤56→j y a=some (a+(bl y.toNat:Nat))) (λy a hy h0 h1=>?_) (λj hj=>?_)
   ·have hb:bl y.toNat≤8:=zSz hy
    have e8:(toU8 (y.toNat:Int)).toNat=y.toNat:=by simp [toU8,UInt8.toNat_ofNat'];omega
    dsimp only;rw [e8,tabL ?_ hy]
    ·rw [zAh,zbn hy,zAs (by omega) (by omega)]
    ·decide +kernel
   ·by_cases hc:(y.toNat:Int)≥256
    ·rw [if_pos hc,zAs (by omega) (by omega),hj _ _ (by rw [hsh _ _ (by omega)];omega) (by omega) (by omega),hsh _ _ (by omega),zU9 (n:=y.toNat) 8 (by omega)]
     congr 1;omega
    ·rw [if_neg hc,hj _ _ (by omega) h0 (by omega)]
  ·by_cases hc:(y.toNat:Int)≥65536
   ·rw [if_pos hc,zAs (by omega) (by omega),hj _ _ (by rw [hsh _ _ (by omega)];omega) (by omega) (by omega),hsh _ _ (by omega),zU9 (n:=y.toNat) 16 (by omega)]
    congr 1;omega
   ·rw [if_neg hc,hj _ _ (by omega) h0 (by omega)]
 ·have hx:=x.toNat_lt
  by_cases hc:(x.toNat:Int)≥4294967296
  ·rw [if_pos hc,hj _ _ (by rw [hsh _ _ (by omega)];omega) (by omega) (by omega),hsh _ _ (by omega),zU9 (n:=x.toNat) 32 (by omega)]
   congr 1;omega
  ·rw [if_neg hc,hj _ _ (by omega) (by omega) (by omega)];congr 1;omega
def oth (n:Nat):Nat:=if 56<bl n then 8 else (bl n-1)/7
theorem zUw (x:UInt64):zJi x=some ((oth x.toNat:Nat):Int):=by
 unfold zJi;have hb:bl x.toNat≤64:=zSz x.toNat_lt;rw [zX,zAh];unfold oth
 by_cases h:56<bl x.toNat
 ·rw [if_pos h,if_pos (by omega)];rfl
 ·rw [if_neg h,if_neg (by omega),zAs (by omega) (by omega)]
  unfold quoZ;rw [if_neg (by omega),zAh];rw [Int.tdiv_eq_ediv_of_nonneg (by omega),zAs (by omega) (by omega)]
  congr 1;omega
theorem zT8 (n:Nat):oth n≤8:=by unfold oth;split<;>omega
theorem zda {n:Nat} (h:oth n<8):n<2^(7*oth n+7):=by
 have h1:=zUa n;unfold oth at h ⊢
 split at h
 ·omega
 ·rename_i hb
  rw [if_neg hb];exact Nat.lt_of_lt_of_le h1 (Nat.pow_le_pow_right (by omega) (by omega))
theorem zgn {n:Nat} (h:oth n≠0):2^(7*oth n)≤n:=by
 have hn:n≠0:=by rintro rfl;exact h rfl
 have h1:=za3 hn;unfold oth at h ⊢
 split
 ·exact Nat.le_trans (Nat.pow_le_pow_right (by omega) (by omega)) h1
 ·exact Nat.le_trans (Nat.pow_le_pow_right (by omega) (by omega)) h1
def byt (n:Nat):Nat→List UInt8
 | 0=>[]
 | k+1=>UInt8.ofNat (n/256^k%256)::byt n k
theorem zU8 (n k:Nat):(byt n k).length=k:=by induction k with
 | zero=>rfl
 | succ k ih=>simp [byt,ih]
def zXw (n k:Nat):UInt8:=if k<8 then UInt8.ofNat (256-2^(8-k)+n/256^k) else 255
def enc (v:UInt64):List UInt8:=zXw v.toNat (oth v.toNat)::byt v.toNat (oth v.toNat)
theorem zU2 (v:UInt64):(enc v).length=oth v.toNat+1:=by simp [enc,zU8]
theorem zG6 (v:UInt64):(enc v).length≤9:=by have:=zT8 v.toNat;rw [zU2];omega
theorem zd7 (k:Nat):256^k=2^(8*k):=by rw [Nat.pow_mul]
theorem zYl (x:UInt64) (k:Nat) (hk:k<8):(shr64 x (8*k)).toNat=x.toNat/256^k:=by
 unfold shr64;rw [if_pos (by omega),UInt64.toNat_shiftRight,Nat.shiftRight_eq_div_pow,zd7]
 congr 2
 simp [UInt64.toNat_ofNat'];omega
theorem zOq (n:Nat):toU8 (n:Int)=UInt8.ofNat (n%256):=by unfold toU8;congr 1
theorem zWb (k:Nat) (h:k≤64):(zAf (k:Int)).toNat=k:=by
 simp [zAf,UInt64.toNat_ofNat'];omega
theorem zOa {n:Nat} (h:oth n<8):n/256^oth n<2^(7-oth n):=by
 have h1:=zda h;rw [Nat.div_lt_iff_lt_mul (Nat.pow_pos (by omega)),zd7,← Nat.pow_add];rw [show 7-oth n+8*oth n=7*oth n+7 by omega];exact h1
theorem zc1:∀ k,k<8→∀ t,t<2^(7-k)→shl8 (255:UInt8) (8-k)|||UInt8.ofNat (t%256)=UInt8.ofNat (256-2^(8-k)+t):=by
 decide +kernel
theorem zfw (x:UInt64) (j:zAe→Option zAe):∀ (k n:Nat) (b:List UInt8),k<n→k≤8→b.length+k≤1073741824→zD6 x j n (k:Int) ⟨b⟩=j ⟨b++byt x.toNat k⟩
 | 0,n,b,hn,_,_=>by
  obtain ⟨n,rfl⟩:∃ m,n=m+1:=⟨n-1,by omega⟩;rw [zD6,if_neg (by omega)];simp [byt]
 | k+1,n,b,hn,hk,hb=>by
  obtain ⟨n,rfl⟩:∃ m,n=m+1:=⟨n-1,by omega⟩;rw [zD6,if_pos (by omega),zAs (z:=8*((k+1:Nat):Int)) (by omega) (by omega),zAs (z:=8*((k+1:Nat):Int)-8) (by omega) (by omega)];rw [show 8*((k+1:Nat):Int)-8=((8*k:Nat):Int) by omega,zWb _ (by omega),zYl _ _ (by omega),zOq];rw [zB6 (by simp;omega),zAh,zAs (by omega) (by omega),show ((k+1:Nat):Int)-1=(k:Int) by omega];rw [zfw x j k n _ (by omega) (by omega) (by simp;omega)];simp [byt]
theorem zVd (b:List UInt8) (v:UInt64) (h:b.length≤1000000000):zG3 ⟨b⟩ v=some ⟨b++enc v⟩:=by
 unfold zG3;have hle:=zT8 v.toNat;rw [zUw,zAh]
 refine zQq (λj=>j (zXw v.toNat (oth v.toNat))=some ⟨b++enc v⟩) ?_ λj hj=>?_
 ·rw [zB6 (by simp;omega),zAh,zB2]
  obtain ⟨m,hm⟩:=zJs 9 (by omega);rw [zfw v _ _ _ _ (by omega) hle (by simp;omega)];simp [enc]
 ·by_cases hk:oth v.toNat<8
  ·rw [if_pos (by omega)]
   rw [zAs (by omega) (by omega),zAs (by omega) (by omega)];rw [show (8:Int)-(oth v.toNat:Nat)=((8-oth v.toNat:Nat):Int) by omega,show 8*((oth v.toNat:Nat):Int)=((8*oth v.toNat:Nat):Int) by omega,zWb _ (by omega),zWb _ (by omega),zYl _ _ (by omega),zOq];rw [zc1 _ hk _ (zOa hk)];unfold zXw at hj;rw [if_pos hk] at hj;exact hj
  ·have:oth v.toNat=8:=by omega
   rw [if_neg (by omega),zAs (by omega) (by omega)];rw [this] at hj ⊢;exact hj
end Go.Proofs.YthjhejgjcdajdaaGreatDoor
set_option linter.unusedVariables false
set_option linter.unusedSimpArgs false
namespace Go.Proofs.YthjhejgjcdajdaaGreatDoor
open Go Go.RowKit Go.Wk
theorem zeq:∀ k,k<8→∀ t,t<2^(7-k)→zDp (~~~ (UInt8.ofNat (256-2^(8-k)+t)))=some ((k:Nat):Int):=by decide +kernel
theorem zbw:zDp (~~~ (255:UInt8))=some 8:=by decide +kernel
theorem zem:∀ k,k<8→∀ t,t<2^(7-k)→(UInt8.ofNat (256-2^(8-k)+t)&&&shr8 (127:UInt8) k)=UInt8.ofNat t:=by decide +kernel
theorem zXr (v:UInt64):zDp (~~~ (zXw v.toNat (oth v.toNat)))=some ((oth v.toNat:Nat):Int):=by
 have hle:=zT8 v.toNat;unfold zXw
 by_cases hk:oth v.toNat<8
 ·rw [if_pos hk];exact zeq _ hk _ (zOa hk)
 ·rw [if_neg hk,zbw,show oth v.toNat=8 by omega];rfl
theorem zga (y:UInt64) (c:UInt8) (h:y.toNat<2^56):((y<<<UInt64.ofNat 8)|||zAf (c.toNat:Int)).toNat=y.toNat*256+c.toNat:=by
 have hc:=c.toNat_lt
 have e1:(zAf (c.toNat:Int)).toNat=c.toNat:=by simp [zAf,UInt64.toNat_ofNat'];omega
 have e2:(y<<<UInt64.ofNat 8).toNat=y.toNat*256:=by
  rw [UInt64.toNat_shiftLeft]
  have:(UInt64.ofNat 8).toNat%64=8:=by decide
  rw [this,Nat.shiftLeft_eq];exact Nat.mod_eq_of_lt (by omega)
 rw [UInt64.toNat_or,e1,e2,show y.toNat*256=y.toNat<<<8 by rw [Nat.shiftLeft_eq],← Nat.shiftLeft_add_eq_or_of_lt (by omega)]
theorem zc2 (n k:Nat):n/256^(k+1)*256+n/256^k%256=n/256^k:=by
 rw [Nat.pow_succ,← Nat.div_div_eq_div_mul];omega
theorem zgf (x:UInt64) (z:List UInt8) (j:UInt64→Option (UInt64×zAb)):∀ (k n:Nat) (p:List UInt8) (y:UInt64),z=p++byt x.toNat k→k<n→k≤8→z.length≤1000→y.toNat=x.toNat/256^k→zD7 z j n y (p.length:Int)=j x
 | 0,n,p,y,hz,hn,_,_,hy=>by
  obtain ⟨n,rfl⟩:∃ m,n=m+1:=⟨n-1,by omega⟩;rw [zD7,if_neg (by rw [hz];simp [byt])]
  congr 1;apply UInt64.toNat_inj.1;rw [hy];simp
 | k+1,n,p,y,hz,hn,hk,hl,hy=>by
  obtain ⟨n,rfl⟩:∃ m,n=m+1:=⟨n-1,by omega⟩;have hzl:=congrArg List.length hz;simp only [List.length_append,zU8] at hzl
  have hyl:y.toNat<2^56:=by
   rw [hy,Nat.div_lt_iff_lt_mul (Nat.pow_pos (by omega))];refine Nat.lt_of_lt_of_le x.toNat_lt ?_;have:256^1≤256^(k+1):=Nat.pow_le_pow_right (by omega) (by omega)
   calc 2^64=2^56*256^1:=by decide
    _≤2^56*256^(k+1):=Nat.mul_le_mul_left _ this
  rw [zD7,if_pos (by omega),hz,byt,zFy,zAh,zAs (by omega) (by omega),← byt,← hz]
  have hc:(UInt8.ofNat (x.toNat/256^k%256)).toNat=x.toNat/256^k%256:=by simp [UInt8.toNat_ofNat']
  have hy':=zga y (UInt8.ofNat (x.toNat/256^k%256)) hyl;rw [hy,hc,zc2] at hy';rw [← hc] at hy';have h:=zgf x z j k n (p++[UInt8.ofNat (x.toNat/256^k%256)]) _ (by rw [hz,byt];simp) (by omega) (by omega) hl hy';rw [show ((p++[UInt8.ofNat (x.toNat/256^k%256)]).length:Int)=(p.length:Int)+1 by simp] at h;exact h
theorem zVr (b:List UInt8) (at_:Nat) (e:Int) (h:at_≤b.length) (hb:b.length≤1000000000):zE5 ⟨b,at_,e⟩=some ((b.length-at_:Nat):Int):=by
 unfold zE5;rw [zAs (by dsimp only;omega) (by dsimp only;omega)];congr 1;dsimp only;omega
theorem ze7 (pre post:List UInt8) (v:UInt64) {b:List UInt8} {at_:Int} (hb:b=pre++(enc v++post)) (ha:at_=pre.length) (hl:b.length≤1000000000):zIe ⟨b,at_,0⟩=some (v,⟨b,((pre++enc v).length:Nat),0⟩):=by
 subst ha;have hle:=zT8 v.toNat;have hlen:=congrArg List.length hb;simp only [List.length_append,zU2] at hlen
 have hb2:b=pre++zXw v.toNat (oth v.toNat)::(byt v.toNat (oth v.toNat)++post):=by rw [hb];simp [enc]
 have hi:idx b (pre.length:Int)=some (zXw v.toNat (oth v.toNat)):=by rw [hb2];exact zFy _ _ _
 unfold zIe;rw [zB2];dsimp only;rw [if_neg (by omega),zVr _ _ _ (by omega) hl,zAh,if_neg (by omega),hi,zAh,zXr,zAh,zAh,if_neg (by omega)]
 have hcut:zNt b ((pre.length:Int)+1) ((pre.length:Int)+1+(oth v.toNat:Nat))=some (byt v.toNat (oth v.toNat)):=by
  rw [zRm (by omega) (by omega) (by omega)]
  congr 1
  have e1:((pre.length:Int)+1+(oth v.toNat:Nat)).toNat=(pre++enc v).length:=by rw [List.length_append,zU2];omega
  have e2:((pre.length:Int)+1).toNat=(pre++[zXw v.toNat (oth v.toNat)]).length:=by simp
  rw [e1,e2,hb,← List.append_assoc,List.take_left];unfold enc;rw [show pre++zXw v.toNat (oth v.toNat)::byt v.toNat (oth v.toNat)=(pre++[zXw v.toNat (oth v.toNat)])++byt v.toNat (oth v.toNat) by simp,List.drop_left]
 refine zQq (λj=>∀ y:UInt64,y.toNat=v.toNat/256^oth v.toNat→j y=some (v,⟨b,((pre++enc v).length:Nat),0⟩)) (λy hy=>?_) λj hj=>?_
 ·rw [zAs (z:=(pre.length:Int)+1) (by omega) (by omega),zAs (z:=(pre.length:Int)+1+_) (by omega) (by omega),hcut,zAh]
  refine zQq (λj=>j v=some (v,⟨b,((pre++enc v).length:Nat),0⟩)) ?_ λj hj=>?_
  ·rw [zUw,zAh,if_neg (by omega),zAs (z:=1+((oth v.toNat:Nat):Int)) (by omega) (by omega),zAs (by omega) (by omega)]
   simp only [List.length_append,zU2];congr 3;omega
  ·obtain ⟨m,hm⟩:=zJs 9 (by omega)
   have:=zgf v (byt v.toNat (oth v.toNat)) j (oth v.toNat) fuel [] y (by simp) (by omega) hle (by rw [zU8];omega) hy;exact this.trans hj
 ·by_cases hk:oth v.toNat<8
  ·rw [if_pos (by omega),zWb _ (by omega)]
   refine hj _ ?_;unfold zXw;rw [if_pos hk,zem _ hk _ (zOa hk)];have ht:=zOa hk;have h7:2^(7-oth v.toNat)≤2^7:=Nat.pow_le_pow_right (by omega) (by omega);generalize v.toNat/256^oth v.toNat=t at ht ⊢
   have ht2:t<128:=by omega
   simp [zAf,UInt64.toNat_ofNat',UInt8.toNat_ofNat'];omega
  ·rw [if_neg (by omega)]
   refine hj _ ?_
   have:oth v.toNat=8:=by omega
   rw [this];have:=v.toNat_lt;exact (Nat.div_eq_of_lt (by omega)).symm
end Go.Proofs.YthjhejgjcdajdaaGreatDoor
namespace Go.Proofs.YthjhejgjcdajdaaGreatDoor
open Go Go.RowKit Go.Wk
abbrev okI (x:Int):Prop:=-9223372036854775808≤x∧x≤9223372036854775807
def zig (x:Int):UInt64:=UInt64.ofNat (if 0≤x then 2*x.toNat else 2*(-1-x).toNat+1)
theorem zQa {x:Int} (h:okI x):(zig x).toNat=if 0≤x then 2*x.toNat else 2*(-1-x).toNat+1:=by
 unfold zig;rw [UInt64.toNat_ofNat',Nat.mod_eq_of_lt]
 split<;>omega
theorem zY2 (y:Nat) (h:y<18446744073709551616):y^^^18446744073709551615=18446744073709551615-y:=by
 have e:=congrArg BitVec.toNat (BitVec.xor_allOnes (x:=BitVec.ofNat 64 y));rw [BitVec.toNat_xor,BitVec.toNat_not,BitVec.toNat_ofNat,BitVec.toNat_allOnes,Nat.mod_eq_of_lt (by simpa using h)] at e;simpa using e
theorem zW7 {z:Int} (h0:9223372036854775808≤z) (h1:z<18446744073709551616):W64 z=z-18446744073709551616:=by
 unfold W64 IntKind.wrap;simp [IntKind.signed,IntKind.bits]
 split<;>omega
theorem zS0 (n:Nat) (h:n<18446744073709551616):(BitVec.ofInt 64 (n:Int)).toNat=n:=by
 rw [BitVec.toNat_ofInt];simp;omega
theorem zbo:BitVec.ofInt 64 (-1)=BitVec.allOnes 64:=by decide
theorem zY3 (n:Nat) (h:n<9223372036854775808):xorZ (n:Int) 0=n:=by
 unfold xorZ;rw [BitVec.toNat_xor,zS0 _ (by omega),show (0:Int)=((0:Nat):Int) from rfl,zS0 _ (by omega),Nat.xor_zero,zAs (by omega) (by omega)]
theorem zdp (n:Nat) (h:n<9223372036854775808):xorZ (n:Int) (-1)=-1-n:=by
 unfold xorZ;rw [BitVec.toNat_xor,zS0 _ (by omega),zbo,BitVec.toNat_allOnes,show 2^64-1=18446744073709551615 by decide,zY2 _ (by omega),zW7 (by omega) (by omega)]
 omega
theorem zfu {x:Int} (h:okI x):zOw x=some (zig x):=by
 unfold zOw
 congr 1
 apply UInt64.toNat_inj.1
 rw [zQa h,UInt64.toNat_xor]
 have e1:(zAf x<<<UInt64.ofNat 1).toNat=if 0≤x then 2*x.toNat else 18446744073709551616-2*(-x).toNat:=by
  rw [UInt64.toNat_shiftLeft]
  have:(UInt64.ofNat 1).toNat%64=1:=by decide
  rw [this,Nat.shiftLeft_eq];simp only [zAf,UInt64.toNat_ofNat']
  split<;>omega
 have e2:(zAf (shrZ x 63)).toNat=if 0≤x then 0 else 18446744073709551615:=by
  have:shrZ x 63=if 0≤x then 0 else -1:=by
   unfold shrZ;rw [show min 63 64=63 by decide,Int.fdiv_eq_ediv_of_nonneg _ (by decide)]
   split<;>omega
  rw [this]
  split<;>rfl
 rw [e1,e2]
 by_cases h0:0≤x
 ·rw [if_pos h0,if_pos h0,if_pos h0,Nat.xor_zero]
 ·rw [if_neg h0,if_neg h0,if_neg h0]
  rw [zY2 _ (by omega)];omega
theorem zdn {x:Int} (h:okI x):zN5 (zig x)=some x:=by
 unfold zN5
 have e1:((zig x)>>>UInt64.ofNat 1).toNat=if 0≤x then x.toNat else (-1-x).toNat:=by
  rw [UInt64.toNat_shiftRight]
  have:(UInt64.ofNat 1).toNat%64=1:=by decide
  rw [this,Nat.shiftRight_eq_div_pow,zQa h]
  split<;>omega
 have e2:((zig x)&&&(1:UInt64)).toNat=if 0≤x then 0 else 1:=by
  rw [UInt64.toNat_and,show (1:UInt64).toNat=1 from rfl,Nat.and_one_is_mod,zQa h]
  split<;>omega
 rw [e1,e2]
 by_cases h0:0≤x
 ·rw [if_pos h0,if_pos h0,zAs (z:=((x.toNat:Nat):Int)) (by omega) (by omega)]
  rw [show IntKind.i64.wrap (0-W64 ((0:Nat):Int))=0 by decide,zY3 _ (by omega)];congr 1;omega
 ·rw [if_neg h0,if_neg h0,zAs (z:=(((-1-x).toNat:Nat):Int)) (by omega) (by omega)]
  rw [show IntKind.i64.wrap (0-W64 ((1:Nat):Int))=-1 by decide,zdp _ (by omega)];congr 1;omega
theorem zRx (pre post:List UInt8) (n most:Nat) {b:List UInt8} {at_:Int} (hb:b=pre++(enc (UInt64.ofNat n)++post)) (ha:at_=pre.length) (hl:b.length≤1000000000) (hn:n≤most) (hm:most<9223372036854775808):zCe ⟨b,at_,0⟩ (most:Int)=some ((n:Int),⟨b,((pre++enc (UInt64.ofNat n)).length:Nat),0⟩):=by
 unfold zCe
 have e:(UInt64.ofNat n).toNat=n:=by simp [UInt64.toNat_ofNat'];omega
 have e2:(zAf (most:Int)).toNat=most:=by simp [zAf,UInt64.toNat_ofNat'];omega
 rw [ze7 pre post _ hb ha hl,zAh,if_neg,zAs (by dsimp only;omega) (by dsimp only;omega)]
 ·dsimp only;rw [e]
 ·dsimp only;rw [e,e2];omega
theorem zRo (l:List UInt8) (h:l.length≤1073741824):zEe l=some l:=by unfold zEe;rw [zB6 (by simpa using h)];rfl
theorem zd6 (pre s post:List UInt8) {b:List UInt8} {at_:Int} (hb:b=pre++(s++post)) (ha:at_=pre.length) (hl:b.length≤1000000000):zG4 ⟨b,at_,0⟩ (s.length:Int)=some (s,⟨b,((pre++s).length:Nat),0⟩):=by
 subst ha;have hlen:=congrArg List.length hb;simp only [List.length_append] at hlen;unfold zG4;dsimp only;rw [if_neg (by omega),if_neg (by omega),zVr _ _ _ (by omega) hl,zAh,if_neg (by omega)];rw [zAs (z:=(pre.length:Int)+s.length) (by omega) (by omega),zAs (by omega) (by omega)]
 have hcut:zNt b ((pre.length:Int)+s.length-s.length) ((pre.length:Int)+s.length)=some s:=by
  rw [zRm (by omega) (by omega) (by omega)]
  congr 1
  have e1:((pre.length:Int)+s.length).toNat=(pre++s).length:=by rw [List.length_append];omega
  have e2:((pre.length:Int)+s.length-s.length).toNat=pre.length:=by omega
  rw [e1,e2,hb,← List.append_assoc,List.take_left,List.drop_left]
 rw [hcut,zAh,zRo _ (by omega),zAh];simp
def zRl (s:List UInt8):List UInt8:=enc (UInt64.ofNat s.length)++s
theorem zam (b s:List UInt8) (h:b.length≤1000000000) (hs:s.length≤10000000):zHv ⟨b⟩ s=some ⟨b++zRl s⟩:=by
 unfold zHv
 have e:zAf (s.length:Int)=UInt64.ofNat s.length:=by unfold zAf;congr 1;omega
 have:=zG6 (UInt64.ofNat s.length);rw [e,zVd _ _ h,zAh,zB6 (by simp;omega),zAh];simp [zRl]
theorem zb4 (pre s post:List UInt8) (most:Nat) {b:List UInt8} {at_:Int} (hb:b=pre++(zRl s++post)) (ha:at_=pre.length) (hl:b.length≤1000000000) (hs:s.length≤most) (hm:most<9223372036854775808):zFg ⟨b,at_,0⟩ (most:Int)=some (s,⟨b,((pre++zRl s).length:Nat),0⟩):=by
 unfold zFg;rw [zRx pre (s++post) s.length most (by rw [hb,zRl];simp) ha hl hs hm,zAh,zd6 (pre++enc (UInt64.ofNat s.length)) s post (by rw [hb,zRl];simp) rfl hl,zAh];dsimp only;rw [if_neg (by omega)];simp [zRl]
theorem zf2 (b:List UInt8) (hl:b.length≤1000000000):zGt ⟨b,(b.length:Nat),0⟩=some 0:=by
 unfold zGt;rw [zB2];dsimp only;rw [if_pos rfl,zVr _ _ _ (Nat.le_refl _) hl,zAh];simp
end Go.Proofs.YthjhejgjcdajdaaGreatDoor
set_option maxRecDepth 20000
set_option linter.unusedVariables false
set_option linter.unusedSimpArgs false
namespace Go.Proofs.YthjhejgjcdajdaaGreatDoor
open Go Go.RowKit Go.Wk
def szN (c:Nat):Nat:=if c=0 then 0 else if c=1 then 7 else if c=2 then 20 else 64
def clsN (v:Nat):Nat:=if v<1 then 0 else if v<128 then 1 else if v<1048576 then 2 else 3
theorem zW (v:Nat):clsN v<4:=by unfold clsN;(repeat' split)<;>omega
theorem zUi (c:Nat):szN c≤64:=by unfold szN;(repeat' split)<;>omega
theorem zX9 {v:Nat} (h:v<18446744073709551616):v<2^szN (clsN v):=by
 unfold clsN
 split
 ·simp [szN];omega
 ·split
  ·simp [szN];omega
  ·split
   ·simp [szN];omega
   ·simp [szN];omega
theorem zhg {i:Nat} (h:i<4):idx ([0,7,20,64]:List Int) (i:Int)=some ((szN i:Nat):Int):=by
 rcases (show i=0∨i=1∨i=2∨i=3 by omega) with rfl|rfl|rfl|rfl<;>rfl
theorem zXa (v:UInt64):zJ9 v=some ((clsN v.toNat:Nat):Int):=by
 have hv:=v.toNat_lt;unfold zJ9 zI3;rw [zAh,zB2];obtain ⟨f,hf⟩:=zJs 5 (by omega)
 have step:∀ (f i T:Nat),i<4→2^szN i=T→zF5 v { a0:=0,a1:=7,a2:=20,a3:=64 } (λ_=>some 3) (f+1) (i:Int)=if v.toNat<T then some (i:Int) else zF5 v { a0:=0,a1:=7,a2:=20,a3:=64 } (λ_=>some 3) f ((i+1:Nat):Int):=by
  intro f i T hi hT;have hs:=zUi i;rw [zF5,if_pos (by omega),zhg hi,zAh,zCk (by omega),zMw,zEx (by omega),hT]
  have hp:0<T:=by rw [← hT];exact Nat.two_pow_pos _
  by_cases h:v.toNat<T
  ·rw [if_pos h,Nat.div_eq_of_lt h,if_pos (by rfl)]
  ·have:=Nat.div_pos (Nat.le_of_not_lt h) hp
   rw [if_neg h,if_neg (by omega)]
 have h0:=step (f+4) 0 1 (by omega) rfl;have h1:=step (f+3) 1 128 (by omega) rfl;have h2:=step (f+2) 2 1048576 (by omega) rfl;have h3:=step (f+1) 3 18446744073709551616 (by omega) rfl;rw [hf];refine h0.trans ?_;rw [h1,h2,h3];unfold clsN
 by_cases a:v.toNat<1
 ·rw [if_pos a,if_pos a]
 ·rw [if_neg a,if_neg a]
  by_cases b:v.toNat<128
  ·rw [if_pos b,if_pos b]
  ·rw [if_neg b,if_neg b]
   by_cases c:v.toNat<1048576
   ·rw [if_pos c,if_pos c]
   ·rw [if_neg c,if_neg c,if_pos (by omega)]
theorem zTt {n:Nat} (hn:n<64):zD0 (n:Int)=some (UInt64.ofNat (2^n)):=by
 unfold zD0;rw [zB2];obtain ⟨f,hf⟩:=zJs 65 (by omega)
 have key:∀ (r i f:Nat),i+r=n→r<f→zBr (n:Int) (λy=>some y) f (UInt64.ofNat (2^i)) (i:Int)=some (UInt64.ofNat (2^n)):=by
  intro r
  induction r with
  | zero=>
   intro i f hi hf;obtain ⟨f,rfl⟩:∃ k,f=k+1:=⟨f-1,by omega⟩;rw [zBr,if_neg (by omega),show i=n by omega]
  | succ r ih=>
   intro i f hi hf;obtain ⟨f,rfl⟩:∃ k,f=k+1:=⟨f-1,by omega⟩
   have e:(2:UInt64)*UInt64.ofNat (2^i)=UInt64.ofNat (2^(i+1)):=by
    apply UInt64.toNat_inj.1
    rw [UInt64.toNat_mul,UInt64.toNat_ofNat',UInt64.toNat_ofNat',show (2:UInt64).toNat=2 by rfl,show 2^(i+1)=2*2^i from Nat.pow_succ'];generalize 2^i=x
    omega
   rw [zBr,if_pos (by omega),zEx (by omega),e];exact ih (i+1) f (by omega) (by omega)
 exact key n 0 fuel (by omega) (by rw [hf];omega)
theorem zWq {i:Nat} (h:i<4):zEs (i:Int)=some ((szN i:Nat):Int):=by
 unfold zEs;rw [zhg h,zAh]
theorem zcp (v:UInt64):zFw v=some ((clsN v.toNat:Nat):Int):=by
 unfold zFw;rw [zB2];obtain ⟨f,hf⟩:=zJs 5 (by omega)
 have step:∀ (f i T:Nat),i<3→2^szN i=T→zB8 v (λ_=>some 3) (f+1) (i:Int)=if v.toNat<T then some (i:Int) else zB8 v (λ_=>some 3) f ((i+1:Nat):Int):=by
  intro f i T hi hT
  have hs:szN i<64:=by rcases (show i=0∨i=1∨i=2 by omega) with rfl | rfl | rfl<;>decide
  have hp:2^szN i<2^64:=Nat.pow_lt_pow_right (by omega) hs;rw [zB8,if_pos (by omega),zWq (by omega),zAh,zTt hs,zAh,zEx (by omega),UInt64.toNat_ofNat',Nat.mod_eq_of_lt hp,hT]
  by_cases h:v.toNat<T
  ·rw [if_pos h,if_pos (by omega)]
  ·rw [if_neg h,if_neg (by omega)]
 have h0:=step (f+4) 0 1 (by omega) rfl;have h1:=step (f+3) 1 128 (by omega) rfl;have h2:=step (f+2) 2 1048576 (by omega) rfl
 have h3:zB8 v (λ_=>some 3) (f+1+1) ((2+1:Nat):Int)=some 3:=by
  rw [zB8,if_neg (by omega)]
 rw [hf];refine h0.trans ?_;rw [h1,h2,h3];unfold clsN
 by_cases a:v.toNat<1
 ·rw [if_pos a,if_pos a]
 ·rw [if_neg a,if_neg a]
  by_cases b:v.toNat<128
  ·rw [if_pos b,if_pos b]
  ·rw [if_neg b,if_neg b]
   by_cases c:v.toNat<1048576
   ·rw [if_pos c,if_pos c]
   ·rw [if_neg c,if_neg c];rfl
def smB (v:Nat):List Bool:=zG7 (clsN v) 2++zG7 v (szN (clsN v))
theorem zYk (v:Nat):(smB v).length=2+szN (clsN v):=by rw [smB,List.length_append,zAt,zAt]
theorem zMv (v:Nat):(smB v).length≤66:=by have:=zUi (clsN v);rw [zYk];omega
theorem zVe {M:List Bool} (v:UInt64) (hM:M.length≤7000000000):zIa (WrO M) v=some (WrO (M++smB v.toNat)):=by
 unfold zIa zI3;have hc:=zW v.toNat;have hs:=zUi (clsN v.toNat);have e1:(zAf ((clsN v.toNat:Nat):Int)).toNat=clsN v.toNat:=zCk (by omega);have p1:=zKh (M:=M) (v:=zAf ((clsN v.toNat:Nat):Int)) (n:=2) (by omega) (by omega) (by rw [e1];omega);rw [e1] at p1;have p2:=zKh (M:=M++zG7 (clsN v.toNat) 2) (v:=v) (n:=szN (clsN v.toNat)) (by rw [List.length_append,zAt];omega) hs (zX9 (by have:=v.toNat_lt;omega));rw [zXa,zAh,show (2:Int)=((2:Nat):Int) by rfl,p1,zAh,zAh];dsimp only;rw [zhg hc,zAh,p2,zAh,List.append_assoc];rfl
theorem zP2 (v:UInt64):zAv v=some (zs (smB v.toNat)):=by
 unfold zAv;have hc:=zW v.toNat;have hs:=zUi (clsN v.toNat);have e1:(zAf ((clsN v.toNat:Nat):Int)).toNat=clsN v.toNat:=zCk (by omega);have r1:=zRt (v:=zAf ((clsN v.toNat:Nat):Int)) (n:=2) (by omega);rw [e1] at r1;rw [zcp,zAh,show (2:Int)=((2:Nat):Int) by rfl,r1,zAh,zWq hc,zAh,zRt hs,zAh,zB6 (by rw [zDv,zDv,zAt,zAt];omega),zAh,← zJ6];rfl
structure zft where
 V:Nat
 N:Nat
 E:Nat
def zPg (L:List Bool):zft:=
 if L.length<2 then ⟨0,0,2⟩
 else if L.length-2<szN (numB (L.take 2)) then ⟨0,0,2⟩
 else if clsN (numB ((L.drop 2).take (szN (numB (L.take 2)))))≠numB (L.take 2) then ⟨0,0,3⟩
 else ⟨numB ((L.drop 2).take (szN (numB (L.take 2)))),2+szN (numB (L.take 2)),0⟩
theorem zau (L:List Bool):numB (L.take 2)<4:=by
 have h1:=zI2 (L.take 2);have h2:2^(L.take 2).length≤2^2:=Nat.pow_le_pow_right (by omega) (by simp;omega)
 omega
theorem zh (L:List Bool):(zPg L).N≤L.length∧((zPg L).E=0→2≤(zPg L).N):=by
 unfold zPg
 split
 ·simp
 ·split
  ·simp
  ·split
   ·simp
   ·dsimp only;omega
theorem zh0 (L:List Bool):(zPg L).E=0∨((zPg L).E=2∨(zPg L).E=3)∧(zPg L).V=0∧(zPg L).N=0:=by
 unfold zPg
 repeat' split
 all_goals simp
theorem zU (v:Nat) (h:v<18446744073709551616) (R:List Bool):zPg (smB v++R)=⟨v,(smB v).length,0⟩:=by
 have hc:=zW v;have hl:=zYk v
 have h1:(smB v++R).take 2=zG7 (clsN v) 2:=by rw [smB,List.append_assoc,List.take_append_of_le_length (by rw [zAt];omega),List.take_of_length_le (by rw [zAt];omega)]
 have h2:numB ((smB v++R).take 2)=clsN v:=by rw [h1,zJy (by omega)]
 have h3:((smB v++R).drop 2).take (szN (clsN v))=zG7 v (szN (clsN v)):=by
  rw [smB,List.append_assoc,List.drop_append_of_le_length (by rw [zAt];omega),List.drop_of_length_le (by rw [zAt];omega),List.nil_append,List.take_append_of_le_length (by rw [zAt];omega),List.take_of_length_le (by rw [zAt];omega)]
 unfold zPg;rw [if_neg (by rw [List.length_append];omega),h2,if_neg (by rw [List.length_append];omega),h3,zJy (zX9 h),if_neg (by simp),hl]
end Go.Proofs.YthjhejgjcdajdaaGreatDoor
set_option maxRecDepth 20000
set_option linter.unusedVariables false
set_option linter.unusedSimpArgs false
namespace Go.Proofs.YthjhejgjcdajdaaGreatDoor
open Go Go.RowKit Go.Wk
theorem zBi {n:Nat} (h:n<18446744073709551616):(UInt64.ofNat n).toNat=n:=by rw [UInt64.toNat_ofNat'];exact Nat.mod_eq_of_lt h
theorem zRe (L:List Bool) {n:Nat} (h:n≤64):numB (L.take n)<18446744073709551616:=by
 have h1:=zI2 (L.take n);have h2:2^(L.take n).length≤2^64:=Nat.pow_le_pow_right (by omega) (by simp;omega)
 omega
theorem zdr {L:List Bool} {a:Nat} (hL:L.length≤8000000000) (ha:a+66≤L.length):zNi (RdO L a) 2=some (UInt64.ofNat (numB ((L.drop (a+2)).take 64))):=by
 unfold zNi;have l1:=zS7 (L:=L) (a:=a) (n:=64) hL (by omega) (by omega);have s1:=zQd (L:=L) (a:=a) (n:=64) hL (by omega);have l2:=zS7 (L:=L) (a:=a+64) (n:=2) hL (by omega) (by omega);rw [if_pos (by omega)] at l1 l2;rw [show (64:Int)=((64:Nat):Int) by rfl,show (2:Int)=((2:Nat):Int) by rfl,l1,zAh,s1,zAh,l2,zAh,zCk (by omega)]
 congr 1
 apply UInt64.toNat_inj.1
 have e1:(L.drop a).take 64=(L.drop a).take 2++(L.drop (a+2)).take 62:=by rw [← List.drop_drop,← List.take_add]
 have e2:(L.drop (a+2)).take 64=(L.drop (a+2)).take 62++(L.drop (a+64)).take 2:=by
  rw [show a+64=a+2+62 by omega,← List.drop_drop (i:=62),← List.take_add]
 have n1:((L.drop (a+2)).take 62).length=62:=by simp;omega
 have n2:((L.drop (a+64)).take 2).length=2:=by simp;omega
 have h0:=zRe (L.drop a) (n:=64) (by omega);have h3:=zRe (L.drop (a+2)) (n:=64) (by omega);have b1:=zI2 ((L.drop (a+2)).take 62);have b2:=zI2 ((L.drop (a+64)).take 2);rw [n1] at b1;rw [n2] at b2;rw [UInt64.toNat_or,zMx,zBi h0,zBi (by omega),zBi h3,e1,e2,zJ0,zJ0,n1,n2]
 have e3:(numB ((L.drop a).take 2)*2^62+numB ((L.drop (a+2)).take 62))*2^2%18446744073709551616=numB ((L.drop (a+2)).take 62)*2^2:=by omega
 rw [e3,zZ5 b2]
theorem zVf {L:List Bool} {a:Nat} (hL:L.length≤8000000000) (ha:a≤L.length) :
 zLe (RdO L a)=some (UInt64.ofNat (zPg (L.drop a)).V,((zPg (L.drop a)).E:Int),RdO L (a+(zPg (L.drop a)).N)):=by
 unfold zLe zPg;have l0:zD1 (RdO L a) 2=_:=zS7 (L:=L) (a:=a) (n:=2) hL ha (by omega)
 have hdl:(L.drop a).length=L.length-a:=by simp
 by_cases h0:a+2≤L.length
 ·rw [if_pos h0] at l0
  rw [l0,zAh,if_neg (show ¬(L.drop a).length<2 by omega)];simp only [Bool.not_true,Bool.false_eq_true,if_false];have h4:=zau (L.drop a);generalize hq:numB ((L.drop a).take 2)=q at *;have hs:=zUi q;rw [show zI3=some { a0:=0,a1:=7,a2:=20,a3:=64 } by rfl,zAh,zBi (by omega)];dsimp only;rw [zhg h4,zAh,zb8 hL ha,zAh]
  have e2:W64 ((2:Int)+((szN q:Nat):Int))=((2+szN q:Nat):Int):=by rw [zAs (by omega) (by omega)];rfl
  rw [e2]
  by_cases h1:(L.drop a).length-2<szN q
  ·rw [if_pos (show ((2+szN q:Nat):Int)>((L.length-a:Nat):Int) by omega),if_pos h1];simp
  rw [if_neg (show ¬((2+szN q:Nat):Int)>((L.length-a:Nat):Int) by omega),if_neg h1]
  have em:min ((2+szN q:Nat):Int) 64=((min (2+szN q) 64:Nat):Int):=by omega
  have l1:=zS7 (L:=L) (a:=a) (n:=min (2+szN q) 64) hL ha (by omega);rw [if_pos (by omega)] at l1;have hl3:=zRe ((L.drop a).drop 2) hs
  have tail:(zJ9 (UInt64.ofNat (numB (((L.drop a).drop 2).take (szN q))))).bind (λp16 =>
   if p16≠W64 ((q:Nat):Int) then
   (some ((0:UInt64),(3:Int),RdO L a))
   else
   ((zCj (RdO L a) ((2+szN q:Nat):Int)).bind λp19=>
    some (UInt64.ofNat (numB (((L.drop a).drop 2).take (szN q))),(0:Int),p19.2))) =
   some (UInt64.ofNat (if clsN (numB (((L.drop a).drop 2).take (szN q)))≠q then (⟨0,0,3⟩:zft) else ⟨numB (((L.drop a).drop 2).take (szN q)),2+szN q,0⟩).V,
    (((if clsN (numB (((L.drop a).drop 2).take (szN q)))≠q then (⟨0,0,3⟩:zft) else ⟨numB (((L.drop a).drop 2).take (szN q)),2+szN q,0⟩).E:Nat):Int),
    RdO L (a+(if clsN (numB (((L.drop a).drop 2).take (szN q)))≠q then (⟨0,0,3⟩:zft) else ⟨numB (((L.drop a).drop 2).take (szN q)),2+szN q,0⟩).N)):=by
   rw [zXa,zAh,zBi hl3,zAs (by omega) (by omega)]
   by_cases h2:clsN (numB (((L.drop a).drop 2).take (szN q)))≠q
   ·rw [if_pos (by omega),if_pos h2];rfl
   ·rw [if_neg (by omega),if_neg h2,zQd hL (by omega),zAh];rfl
  rw [em,l1,zAh];simp only [zB2]
  by_cases h64:szN q<64
  ·have hs20:szN q≤20:=by
    rcases (show q=0∨q=1∨q=2∨q=3 by omega) with rfl|rfl|rfl|rfl<;>simp [szN] at h64 ⊢
   rw [if_pos (show ((szN q:Nat):Int)<64 by omega)]
   have e5:UInt64.ofNat (numB ((L.drop a).take (min (2+szN q) 64)))&&&(shl64 1 ((zAf ((szN q:Nat):Int)).toNat)-1)=UInt64.ofNat (numB (((L.drop a).drop 2).take (szN q))):=by
    apply UInt64.toNat_inj.1
    rw [zCk (by omega),zdc (by omega),zBi (zRe _ (by omega)),zBi hl3,Nat.min_eq_left (by omega),List.take_add,zJ0]
    have hl:(((L.drop a).drop 2).take (szN q)).length=szN q:=by simp;omega
    have hb:=zI2 (((L.drop a).drop 2).take (szN q));rw [hl] at hb ⊢;rw [Nat.mul_comm,Nat.mul_add_mod,Nat.mod_eq_of_lt hb]
   rw [e5];exact tail
  ·have hq64:szN q=64:=by omega
   rw [if_neg (show ¬((szN q:Nat):Int)<64 by omega),zdr hL (by omega),zAh,← List.drop_drop,← hq64];exact tail
 ·rw [if_neg h0] at l0
  rw [l0,zAh,if_pos (show (L.drop a).length<2 by omega)];rfl
end Go.Proofs.YthjhejgjcdajdaaGreatDoor
set_option maxRecDepth 20000
set_option linter.unusedVariables false
set_option linter.unusedSimpArgs false
namespace Go.Proofs.YthjhejgjcdajdaaGreatDoor
open Go Go.RowKit Go.Wk
def sI (u:UInt64):Int:=if u.toNat<9223372036854775808 then (u.toNat:Int) else (u.toNat:Int)-18446744073709551616
theorem zUo (u:UInt64):W64 ((u.toNat:Nat):Int)=sI u:=by
 have:=u.toNat_lt;unfold sI
 split
 ·rw [zAs (by omega) (by omega)]
 ·rw [zW7 (by omega) (by omega)]
theorem zVj (u:UInt64):okI (sI u):=by have:=u.toNat_lt;unfold sI okI;split<;>omega
theorem zRb (u:UInt64):zAf (sI u)=u:=by
 have:=u.toNat_lt
 apply UInt64.toNat_inj.1
 rw [zJd];unfold sI;split<;>omega
theorem zWn {x:Int} (h:okI x):sI (zAf x)=x:=by
 unfold okI at h;have e:=zJd x;unfold sI;rw [e];split<;>omega
def zSp (u:UInt64):Int:=if u.toNat%2=0 then ((u.toNat/2:Nat):Int) else -1-((u.toNat/2:Nat):Int)
theorem zY1 (u:UInt64):okI (zSp u):=by have:=u.toNat_lt;unfold zSp okI;split<;>omega
theorem zal (u:UInt64):zig (zSp u)=u:=by
 have:=u.toNat_lt
 apply UInt64.toNat_inj.1
 rw [zQa (zY1 u)];unfold zSp;split<;>split<;>omega
theorem zRa {x:Int} (h:okI x):zSp (zig x)=x:=by
 have e:=zQa h;unfold okI at h;unfold zSp;rw [e];split<;>split<;>omega
theorem zfv (u:UInt64):zN5 u=some (zSp u):=by
 conv=>lhs;rw [← zal u]
 exact zdn (zY1 u)
theorem zXg {x:Int} (h:okI x):zBm x=some (zig x):=by
 have e:=zQa h;unfold okI at h;unfold zBm
 by_cases h0:x≥0
 ·rw [if_pos h0];congr 1
  apply UInt64.toNat_inj.1
  rw [e,if_pos (by omega),UInt64.toNat_mul,zJd,show (2:UInt64).toNat=2 by rfl];omega
 ·rw [if_neg h0];congr 1
  apply UInt64.toNat_inj.1
  rw [e,if_neg (by omega),zAs (by omega) (by omega),UInt64.toNat_add,UInt64.toNat_mul,zJd,show (2:UInt64).toNat=2 by rfl,show (1:UInt64).toNat=1 by rfl];omega
theorem zOp {M:List Bool} {x:Int} (h:okI x) (hM:M.length≤7000000000):zF0 (WrO M) x=some (WrO (M++smB (zig x).toNat)):=by
 unfold zF0;rw [zfu h,zAh,zVe _ hM,zAh]
theorem zT4 {L:List Bool} {a:Nat} (hL:L.length≤8000000000) (ha:a≤L.length) :
 zJh (RdO L a)=some (zSp (UInt64.ofNat (zPg (L.drop a)).V),((zPg (L.drop a)).E:Int),RdO L (a+(zPg (L.drop a)).N)):=by
 unfold zJh;rw [zVf hL ha,zAh,zfv,zAh]
def wdN (k:Nat):Nat:=if k=0 then 0 else if k=1 then 6 else if k=2 then 10 else if k=3 then 16 else 64
theorem zUf (k:Nat):wdN k≤64:=by unfold wdN;(repeat' split)<;>omega
def wayN (d:Int):Nat:=if d=0 then 0 else if -32≤d∧d<32 then 1 else if -512≤d∧d<512 then 2 else if -32768≤d∧d<32768 then 3 else 4
theorem zTh (d:Int):wayN d≤4:=by unfold wayN;(repeat' split)<;>omega
theorem zeu {i:Nat} (h:i<5):idx ([0,6,10,16,64]:List Int) (i:Int)=some ((wdN i:Nat):Int):=by
 rcases (show i=0∨i=1∨i=2∨i=3∨i=4 by omega) with rfl|rfl|rfl|rfl|rfl<;>rfl
theorem zSf (d:Int) (n:Nat) (b:Int) (hn:n=0∧b=0∨n=6∧b=32∨n=10∧b=512∨n=16∧b=32768∨n=64∧b=0) :
 zLk d (n:Int)=some (if n=0 then decide (d=0) else if n=64 then true else decide (-b≤d∧d<b)):=by
 unfold zLk;simp only [zB2]
 rcases hn with ⟨rfl,rfl⟩|⟨rfl,rfl⟩|⟨rfl,rfl⟩|⟨rfl,rfl⟩|⟨rfl,rfl⟩
 ·rfl
 ·refine (if_neg (by decide)).trans ((if_neg (by decide)).trans ?_)
  show _=some (decide (-32≤d∧d<32));rw [show shlZ (-1) ((zAf (W64 (((6:Nat):Int)-1))).toNat)=-32 by decide,show shlZ 1 ((zAf (W64 (((6:Nat):Int)-1))).toNat)=32 by decide]
  by_cases h:d≥-32
  ·rw [if_pos h];congr 1;simp;omega
  ·rw [if_neg h];congr 1;simp;omega
 ·refine (if_neg (by decide)).trans ((if_neg (by decide)).trans ?_)
  show _=some (decide (-512≤d∧d<512));rw [show shlZ (-1) ((zAf (W64 (((10:Nat):Int)-1))).toNat)=-512 by decide,show shlZ 1 ((zAf (W64 (((10:Nat):Int)-1))).toNat)=512 by decide]
  by_cases h:d≥-512
  ·rw [if_pos h];congr 1;simp;omega
  ·rw [if_neg h];congr 1;simp;omega
 ·refine (if_neg (by decide)).trans ((if_neg (by decide)).trans ?_)
  show _=some (decide (-32768≤d∧d<32768));rw [show shlZ (-1) ((zAf (W64 (((16:Nat):Int)-1))).toNat)=-32768 by decide,show shlZ 1 ((zAf (W64 (((16:Nat):Int)-1))).toNat)=32768 by decide]
  by_cases h:d≥-32768
  ·rw [if_pos h];congr 1;simp;omega
  ·rw [if_neg h];congr 1;simp;omega
 ·rfl
theorem zcs (d:Int):zN2 d=some ((wayN d:Nat):Int):=by
 unfold zN2 zGr;rw [zAh,zB2];obtain ⟨f,hf⟩:=zJs 6 (by omega)
 have step:∀ (f i:Nat) (p:Bool),i<5→zLk d ((wdN i:Nat):Int)=some p→zGs d { a0:=0,a1:=6,a2:=10,a3:=16,a4:=64 } (λ_=>some 4) (f+1) (i:Int)=if p=true then some (i:Int) else zGs d { a0:=0,a1:=6,a2:=10,a3:=16,a4:=64 } (λ_=>some 4) f ((i+1:Nat):Int):=by
  intro f i p hi hp;rw [zGs,if_pos (by omega),zeu hi,zAh,hp,zAh,zEx (by omega)]
 have h0:=step (f+5) 0 _ (by omega) (zSf d 0 0 (by omega));have h1:=step (f+4) 1 _ (by omega) (zSf d 6 32 (by omega));have h2:=step (f+3) 2 _ (by omega) (zSf d 10 512 (by omega));have h3:=step (f+2) 3 _ (by omega) (zSf d 16 32768 (by omega));have h4:=step (f+1) 4 _ (by omega) (zSf d 64 0 (by omega));rw [hf];refine h0.trans ?_;rw [h1,h2,h3,h4];unfold wayN;simp only [if_true,decide_eq_true_eq]
 by_cases a:d=0
 ·rw [if_pos a,if_pos a]
 ·rw [if_neg a,if_neg a]
  simp only [show ¬(6:Nat)=0 by decide,show ¬(6:Nat)=64 by decide,show ¬(10:Nat)=0 by decide,show ¬(10:Nat)=64 by decide,show ¬(16:Nat)=0 by decide,show ¬(16:Nat)=64 by decide,show ¬(64:Nat)=0 by decide,if_false,decide_eq_true_eq]
  by_cases b:-32≤d∧d<32
  ·rw [if_pos b,if_pos b]
  ·rw [if_neg b,if_neg b]
   by_cases c:-512≤d∧d<512
   ·rw [if_pos c,if_pos c]
   ·rw [if_neg c,if_neg c]
    by_cases e:-32768≤d∧d<32768
    ·rw [if_pos e,if_pos e]
    ·rw [if_neg e,if_neg e,if_pos trivial]
theorem zh9 (d:Int):zGw d=some ((wayN d:Nat):Int):=by
 unfold zGw wayN
 by_cases a:d=0
 ·rw [if_pos a,if_pos a];rfl
 rw [if_neg a,if_neg a,zB2];obtain ⟨f,hf⟩:=zJs 6 (by omega)
 have step:∀ (f i n:Nat) (b:Int),1≤i→i<4→wdN i=n+1→n<63→((2^n:Nat):Int)=b→zBf d (λ_=>some 4) (f+1) (i:Int)=if -b≤d∧d<b then some (i:Int) else zBf d (λ_=>some 4) f ((i+1:Nat):Int):=by
  intro f i n b hi0 hi hw hn hb;have hb2:2^n<2^63:=Nat.pow_lt_pow_right (by omega) hn;have hb3:0<2^n:=Nat.two_pow_pos n
  have hb4:0<b∧b<9223372036854775808:=by rw [← hb];exact ⟨Int.ofNat_lt.2 hb3,Int.ofNat_lt.2 hb2⟩
  rw [zBf,if_pos (by omega)];unfold zBc;rw [zeu (by omega),zAh,zAh,hw,show W64 (((n+1:Nat):Int)-1)=((n:Nat):Int) by rw [zAs (by omega) (by omega)];omega,zTt (by omega),zAh,zBi (by omega),hb,zEx (by omega)];have e:W64 b=b:=zAs (by omega) (by omega);rw [e,zAs (by omega) (by omega)]
  by_cases h:-b≤d∧d<b
  ·rw [if_pos h,if_pos (by omega)]
  ·rw [if_neg h,if_neg (by omega)]
 have h1:=step (f+5) 1 5 32 (by omega) (by omega) rfl (by omega) rfl;have h2:=step (f+4) 2 9 512 (by omega) (by omega) rfl (by omega) rfl;have h3:=step (f+3) 3 15 32768 (by omega) (by omega) rfl (by omega) rfl
 have h4:zBf d (λ_=>some 4) (f+2+1) ((3+1:Nat):Int)=some 4:=by rw [zBf,if_neg (by omega)]
 rw [hf];refine h1.trans ?_;rw [h2,h3,h4]
 by_cases b:-32≤d∧d<32
 ·rw [if_pos b,if_pos b]
 ·rw [if_neg b,if_neg b]
  by_cases c:-512≤d∧d<512
  ·rw [if_pos c,if_pos c]
  ·rw [if_neg c,if_neg c]
   by_cases e:-32768≤d∧d<32768
   ·rw [if_pos e,if_pos e]
   ·rw [if_neg e,if_neg e];rfl
def stB (d:Int):List Bool:=(List.replicate (wayN d) true++if wayN d<4 then [false] else [])++zG7 (zAf d).toNat (wdN (wayN d))
theorem zcw (d:Int):(stB d).length≤69:=by
 have h1:=zTh d;have h2:=zUf (wayN d);unfold stB;rw [List.length_append,List.length_append,zAt,List.length_replicate]
 split<;>simp<;>omega
theorem zei (p:Int) (k:Nat) (hp:p=k) (hk:k≤4):∀ (r i:Nat) (M:List Bool) (f:Nat) (j2:zA3→Option (zA3×zA9)),i+r=k→M.length+r≤7000000000→r<f →
 zDw p j2 f (i:Int) (WrO M)=j2 (WrO (M++List.replicate r true)):=by
 intro r
 induction r with
 | zero=>
  intro i M f j2 hi hM hf;obtain ⟨f,rfl⟩:∃ k,f=k+1:=⟨f-1,by omega⟩;rw [zDw,if_neg (by omega)];simp
 | succ r ih=>
  intro i M f j2 hi hM hf;obtain ⟨f,rfl⟩:∃ k,f=k+1:=⟨f-1,by omega⟩;have p1:zAk (WrO M) 1 1=some (true,WrO (M++zG7 (1:UInt64).toNat 1)):=zKh (M:=M) (v:=1) (n:=1) (by omega) (by omega) (by decide);rw [zDw,if_pos (by omega),p1,zAh,zEx (by omega)];dsimp only;have e:zG7 (1:UInt64).toNat 1=[true]:=rfl;rw [e,ih (i+1) (M++[true]) f j2 (by omega) (by rw [List.length_append];simp;omega) (by omega),List.append_assoc,List.replicate_succ];rfl
end Go.Proofs.YthjhejgjcdajdaaGreatDoor
set_option maxRecDepth 20000
set_option linter.unusedVariables false
set_option linter.unusedSimpArgs false
namespace Go.Proofs.YthjhejgjcdajdaaGreatDoor
open Go Go.RowKit Go.Wk
def zSy (r:zA9) (v:UInt64):zA9:=⟨r.n+1,v,if r.n>0 then v-r.last else r.step⟩
def zHe (xs:List Int):zA9:=xs.foldl (λr v=>zSy r (zAf v)) ⟨0,0,0⟩
theorem zLg (xs:List Int) (v:Int):zHe (xs++[v])=zSy (zHe xs) (zAf v):=by unfold zHe;rw [List.foldl_append];rfl
theorem zUq (xs:List Int):(zHe xs).n=(xs.length:Int):=by
 have key:∀ (xs:List Int) (r:zA9),(xs.foldl (λr v=>zSy r (zAf v)) r).n=r.n+(xs.length:Int):=by
  intro xs
  induction xs with
  | nil=>intro r;simp
  | cons v t ih=>intro r;rw [List.foldl_cons,ih,List.length_cons];show r.n+1+_=_;omega
 have:=key xs ⟨0,0,0⟩;unfold zHe;rw [this];simp
theorem zUr (t:List Int) (v:Int):(zHe (t++[v])).last=zAf v:=by rw [zLg];rfl
theorem zYy (t:List Int) (u v:Int):(zHe (t++[u]++[v])).step=zAf v-zAf u:=by
 rw [zLg];unfold zSy;rw [zUr,if_pos (by rw [zUq,List.length_append];simp only [List.length_cons,List.length_nil];omega)]
theorem zSd {r:zA9} (v:UInt64) (h:0≤r.n∧r.n≤1000000000):zEy r v=some (zSy r v):=by
 unfold zEy zSy;rw [zB2]
 by_cases h0:r.n>0
 ·rw [if_pos h0,if_pos h0];dsimp only;rw [zAs (by omega) (by omega)]
 ·rw [if_neg h0,if_neg h0];dsimp only;rw [zAs (by omega) (by omega)]
def zOg (r:zA9) (v:Int):List Bool:=
 if r.n=0 then smB (zig v).toNat
 else if r.n=1 then smB (zig (sI (zAf v-r.last))).toNat
 else stB (sI (zAf v-r.last-r.step))
theorem zKv (r:zA9) (v:Int):(zOg r v).length≤69:=by
 unfold zOg
 split
 ·have:=zMv (zig v).toNat;omega
 ·split
  ·have:=zMv (zig (sI (zAf v-r.last))).toNat;omega
  ·exact zcw _
theorem zTn {r:zA9} {M:List Bool} {v:Int} (hr:0≤r.n∧r.n≤1000000000) (hv:okI v) (hM:M.length≤6000000000) :
 zG0 r (WrO M) v=some (WrO (M++zOg r v),zSy r (zAf v)):=by
 unfold zG0 zOg;rw [zB2]
 have tail:∀ X:List Bool,((zEy r (zAf v)).bind λp5=>some (WrO X,p5))=some (WrO X,zSy r (zAf v)):=λX=>by rw [zSd _ hr,zAh]
 by_cases h0:r.n=0
 ·rw [if_pos h0,if_pos h0,zOp hv (by omega),zAh];exact tail _
 rw [if_neg h0,if_neg h0]
 by_cases h1:r.n=1
 ·rw [if_pos h1,if_pos h1,zUo,zOp (zVj _) (by omega),zAh];exact tail _
 rw [if_neg h1,if_neg h1,zUo,zcs,zAh,zB2];generalize hd:sI (zAf v-r.last-r.step)=d;have hw:=zTh d;obtain ⟨f,hf⟩:=zJs 6 (by omega);have on:=zei ((wayN d:Nat):Int) (wayN d) rfl hw (wayN d) 0 M fuel;refine (on _ (by omega) (by omega) (by rw [hf];omega)).trans ?_;rw [zB2];have hwd:=zUf (wayN d)
 have e1:(zAf (W64 (64-((wdN (wayN d):Nat):Int)))).toNat=64-wdN (wayN d):=by
  rw [zAs (by omega) (by omega),show (64:Int)-((wdN (wayN d):Nat):Int)=((64-wdN (wayN d):Nat):Int) by omega,zCk (by omega)]
 have hx:=(zAf d).toNat_lt
 have e2:(shr64 (shl64 (zAf d) (64-wdN (wayN d))) (64-wdN (wayN d))).toNat=(zAf d).toNat%2^wdN (wayN d):=by
  rw [zMw,zMx]
  have e3:(18446744073709551616:Nat)=2^wdN (wayN d)*2^(64-wdN (wayN d)):=by rw [← Nat.pow_add,show wdN (wayN d)+(64-wdN (wayN d))=64 by omega]
  rw [e3,Nat.mul_mod_mul_right,Nat.mul_div_cancel _ (Nat.two_pow_pos _)]
 have last:∀ X:List Bool, X.length≤7000000000→((zGr ).bind λp26 =>
  (idx ([p26.a0,p26.a1,p26.a2,p26.a3,p26.a4]:List Int) ((wayN d:Nat):Int)).bind λz28=>
  (zAk (WrO X) (shr64 (shl64 (zAf d) ((zAf (W64 (64-z28))).toNat)) ((zAf (W64 (64-z28))).toNat)) z28).bind λp29=>
  (zEy r (zAf v)).bind λp5=>some (p29.2,p5))=some (WrO (X++zG7 (zAf d).toNat (wdN (wayN d))),zSy r (zAf v)):=by
  intro X hX;rw [show zGr=some { a0:=0,a1:=6,a2:=10,a3:=16,a4:=64 } by rfl,zAh];dsimp only;rw [zeu (by omega),zAh,e1,zKh (by omega) hwd (by rw [e2];exact Nat.mod_lt _ (Nat.two_pow_pos _)),zAh,e2,zTp];exact tail _
 by_cases h4:wayN d<4
 ·rw [if_pos (by omega)]
  have p1:zAk (WrO (M++List.replicate (wayN d) true)) 0 1=some (true,WrO ((M++List.replicate (wayN d) true)++zG7 (0:UInt64).toNat 1)):=
   zKh (v:=0) (n:=1) (by rw [List.length_append,List.length_replicate];omega) (by omega) (by decide)
  rw [p1,zAh];have:=last ((M++List.replicate (wayN d) true)++zG7 (0:UInt64).toNat 1) (by rw [List.length_append,List.length_append,List.length_replicate,zAt];omega);refine this.trans ?_;unfold stB;rw [if_pos h4,show zG7 (0:UInt64).toNat 1=[false] by rfl];simp only [List.append_assoc]
 ·rw [if_neg (by omega)]
  refine (last _ (by rw [List.length_append,List.length_replicate];omega)).trans ?_;unfold stB;rw [if_neg h4];simp only [List.append_assoc,List.append_nil]
theorem zfl (d:Int):zEt d=some (zs (stB d)):=by
 unfold zEt stB;have hw:=zTh d;have hwd:=zUf (wayN d);rw [zh9,zAh,zB2];obtain ⟨f,hf⟩:=zJs 6 (by omega);have on:∀ (r i:Nat) (M:List Bool) (f:Nat) (j:List Int→Option (List Int)),i+r=wayN d→M.length+r≤100→r<f →
  zBz ((wayN d:Nat):Int) j f (zs M) (i:Int)=j (zs (M++List.replicate r true)):=by
  intro r
  induction r with
  | zero=>
   intro i M f j hi hM hf;obtain ⟨f,rfl⟩:∃ k,f=k+1:=⟨f-1,by omega⟩;rw [zBz,if_neg (by omega)];simp
  | succ r ih=>
   intro i M f j hi hM hf;obtain ⟨f,rfl⟩:∃ k,f=k+1:=⟨f-1,by omega⟩
   rw [zBz,if_pos (by omega),zB6 (by rw [zDv];simp;omega),zAh,zEx (by omega),show ([1]:List Int)=zs [true] by rfl,← zJ6,
    ih (i+1) (M++[true]) f j (by omega) (by rw [List.length_append];simp;omega) (by omega),List.append_assoc,List.replicate_succ];rfl
 have:=on (wayN d) 0 [] fuel;rw [List.nil_append] at this;refine (this _ (by omega) (by simp;omega) (by rw [hf];omega)).trans ?_;rw [zB2]
 have last:∀ (X:List Bool) (u:UInt64), X.length≤100→u.toNat%2^wdN (wayN d)=(zAf d).toNat%2^wdN (wayN d)→((zBc ((wayN d:Nat):Int)).bind λp13 =>
  (zB0 u p13).bind λp15=>
  (zDu (zs X) p15.1).bind λz18=>
  some z18)=some (zs (X++zG7 (zAf d).toNat (wdN (wayN d)))):=by
  intro X u hX hu;unfold zBc;rw [zeu (by omega),zAh,zAh,zRt hwd,zAh,zB6 (by rw [zDv,zDv,zAt];omega),zAh,← zTp u.toNat,hu,zTp,← zJ6]
 have mid:∀ X:List Bool, X.length≤100→(jn (λ(y11:UInt64) =>
  ((zBc ((wayN d:Nat):Int)).bind λp13=>
   (zB0 y11 p13).bind λp15=>
   (zDu (zs X) p15.1).bind λz18=>
   some z18)) λj3=>
  if ((wayN d:Nat):Int)<4 then
  ((zBc ((wayN d:Nat):Int)).bind λp21=>
   (zD0 p21).bind λp23=>
   (rem64 (zAf d) p23).bind λz25=>
   j3 z25)
  else
  (j3 (zAf d)))=some (zs (X++zG7 (zAf d).toNat (wdN (wayN d)))):=by
  intro X hX;rw [zB2]
  by_cases h4:wayN d<4
  ·have h16:wdN (wayN d)≤16:=by
    rcases (show wayN d=0∨wayN d=1∨wayN d=2∨wayN d=3 by omega) with h|h|h|h<;>rw [h]<;>decide
   have hp:2^wdN (wayN d)≤2^16:=Nat.pow_le_pow_right (by omega) h16;have hp0:=Nat.two_pow_pos (wdN (wayN d));have hpn:(UInt64.ofNat (2^wdN (wayN d))).toNat=2^wdN (wayN d):=zBi (by omega);rw [if_pos (by omega)]
   have hr:rem64 (zAf d) (UInt64.ofNat (2^wdN (wayN d)))=some (zAf d%UInt64.ofNat (2^wdN (wayN d))):=by
    unfold rem64;rw [if_neg];intro hh;rw [hh] at hpn;have:(0:UInt64).toNat=0:=rfl;omega
   conv=>lhs;unfold zBc
   rw [zeu (by omega),zAh,zAh,zTt (by omega),zAh,hr,zAh];have:=last X (zAf d%UInt64.ofNat (2^wdN (wayN d))) hX (by rw [UInt64.toNat_mod,hpn,Nat.mod_mod]);unfold zBc at this;rw [zeu (by omega),zAh] at this;exact this
  ·rw [if_neg (by omega)]
   exact last X (zAf d) hX rfl
 by_cases h4:wayN d<4
 ·rw [if_pos (by omega),if_pos h4,zB6 (by rw [zDv];simp;omega),zAh,show ([0]:List Int)=zs [false] by rfl,← zJ6]
  exact mid _ (by rw [List.length_append,List.length_replicate];simp;omega)
 ·rw [if_neg (by omega),if_neg h4,List.append_nil]
  exact mid _ (by rw [List.length_replicate];omega)
end Go.Proofs.YthjhejgjcdajdaaGreatDoor
set_option maxRecDepth 20000
set_option linter.unusedVariables false
set_option linter.unusedSimpArgs false
namespace Go.Proofs.YthjhejgjcdajdaaGreatDoor
open Go Go.RowKit Go.Wk
def sgB (b:List Bool):Int:=if b.length=0 then 0 else if numB b<2^(b.length-1) then (numB b:Int) else (numB b:Int)-((2^b.length:Nat):Int)
def zLi:Nat→List Bool→Nat
 | n+1,true::t=>zLi n t+1
 | _,_=>0
theorem zWv:∀ (n:Nat) (L:List Bool),zLi n L≤n∧zLi n L≤L.length
 | 0,L=>by cases L<;>simp [zLi]
 | n+1,[]=>by simp [zLi]
 | n+1,true::t=>by have:=zWv n t;simp [zLi];omega
 | n+1,false::t=>by simp [zLi]
def atS (k:Nat):Nat:=if k<4 then k+1 else 4
def zSx (L:List Bool):zft:=
 let k:=zLi 4 L
 let b:=(L.drop (atS k)).take (wdN k)
 if k<4∧L.length=k then ⟨0,0,2⟩
 else if L.length-atS k<wdN k then ⟨0,0,2⟩
 else if wayN (sgB b)≠k then ⟨0,0,3⟩
 else ⟨(zAf (sgB b)).toNat,atS k+wdN k,0⟩
theorem zgc {b:List Bool} (h:b.length≤64):okI (sgB b):=by
 have h1:=zI2 b;unfold sgB okI
 split
 ·omega
 ·have h2:2^b.length=2*2^(b.length-1):=by rw [← Nat.pow_succ'];congr 1;omega
  have h3:2^(b.length-1)≤2^63:=Nat.pow_le_pow_right (by omega) (by omega);generalize 2^(b.length-1)=x at *;rw [h2] at h1 ⊢
  split<;>omega
theorem ze2 {d:Int} (h:okI d):sgB (zG7 (zAf d).toNat (wdN (wayN d)))=d:=by
 have e:=zJd d;unfold okI at h;unfold sgB;rw [zAt,zRh,e];unfold wayN
 by_cases h0:d=0
 ·subst h0;rfl
 rw [if_neg h0]
 by_cases h1:-32≤d∧d<32
 ·rw [if_pos h1];simp only [wdN];simp;split<;>omega
 rw [if_neg h1]
 by_cases h2:-512≤d∧d<512
 ·rw [if_pos h2];simp only [wdN];simp;split<;>omega
 rw [if_neg h2]
 by_cases h3:-32768≤d∧d<32768
 ·rw [if_pos h3];simp only [wdN];simp;split<;>omega
 rw [if_neg h3];simp only [wdN];simp;split<;>omega
theorem zZ7 (k:Nat) (R:List Bool):∀ n,k≤n→(k<n→∃ T,R=false::T)→zLi n (List.replicate k true++R)=k:=by
 induction k with
 | zero=>
  intro n hk hR
  cases n with
  | zero=>cases R<;>rfl
  | succ n=>obtain ⟨T,rfl⟩:=hR (by omega);rfl
 | succ k ih=>
  intro n hk hR;obtain ⟨n,rfl⟩:∃ m,n=m+1:=⟨n-1,by omega⟩;rw [List.replicate_succ,List.cons_append,zLi,ih n (by omega) λh=>hR (by omega)]
theorem zex {d:Int} (h:okI d) (R:List Bool):zSx (stB d++R)=⟨(zAf d).toNat,(stB d).length,0⟩:=by
 have hw:=zTh d
 have ho:zLi 4 (stB d++R)=wayN d:=by
  unfold stB;rw [List.append_assoc,List.append_assoc]
  refine zZ7 _ _ 4 hw λh=>?_
  rw [if_pos h];exact ⟨_,rfl⟩
 have hl:(stB d).length=(atS (wayN d))+wdN (wayN d):=by
  unfold stB atS;rw [List.length_append,List.length_append,List.length_replicate,zAt];split<;>simp<;>omega
 have hp:(List.replicate (wayN d) true++if wayN d<4 then [false] else []).length=atS (wayN d):=by
  unfold atS;rw [List.length_append,List.length_replicate];split<;>simp<;>omega
 have hb:((stB d++R).drop (atS (wayN d))).take (wdN (wayN d))=zG7 (zAf d).toNat (wdN (wayN d)):=by
  unfold stB;rw [List.append_assoc,← hp,List.drop_left,List.take_append_of_le_length (by rw [zAt];omega),List.take_of_length_le (by rw [zAt];omega)]
 unfold zSx;simp only [ho];rw [hb,ze2 h,if_neg (by rw [List.length_append,hl];unfold atS;split<;>omega),if_neg (by rw [List.length_append,hl];omega),if_neg (by simp),hl]
theorem zgz (L:List Bool):(zSx L).E=0∨((zSx L).E=2∨(zSx L).E=3)∧(zSx L).V=0∧(zSx L).N=0:=by
 unfold zSx;simp only
 (repeat' split)<;>simp
theorem zgb {b:List Bool} (k:Nat) (h:b.length=wdN k):shrZ (W64 (((shl64 (UInt64.ofNat (numB b)) (64-wdN k)).toNat:Nat):Int)) (64-wdN k)=sgB b:=by
 have hw:=zUf k;have h1:=zI2 b;have h64:2^b.length≤2^64:=Nat.pow_le_pow_right (by omega) (by omega);have e1:(UInt64.ofNat (numB b)).toNat=numB b:=zBi (by omega);unfold shrZ;rw [Nat.min_eq_left (by omega),zMx,e1]
 by_cases h0:b.length=0
 ·have hz:wdN k=0:=by omega
  rw [List.eq_nil_of_length_eq_zero h0,hz];decide
 have e2:2^b.length*2^(64-wdN k)=18446744073709551616:=by rw [← Nat.pow_add,h,show wdN k+(64-wdN k)=64 by omega,zbf]
 have e3:2^b.length=2*2^(b.length-1):=by rw [← Nat.pow_succ'];congr 1;omega
 have hp:=Nat.two_pow_pos (64-wdN k);unfold sgB;rw [if_neg h0];rw [show ((2:Int)^(64-wdN k))=((2^(64-wdN k):Nat):Int) by simp];generalize hx:2^(64-wdN k)=x at *;generalize hy:2^(b.length-1)=y at *;rw [e3] at e2 h1 ⊢
 have e4:y*x=9223372036854775808:=by
  have:2*(y*x)=18446744073709551616:=by rw [← Nat.mul_assoc];exact e2
  omega
 have hlt:numB b*x<18446744073709551616:=by rw [← e2];exact Nat.mul_lt_mul_of_pos_right h1 hp
 rw [Nat.mod_eq_of_lt hlt]
 by_cases hs:numB b<y
 ·have h5:numB b*x<9223372036854775808:=by rw [← e4];exact Nat.mul_lt_mul_of_pos_right hs hp
  rw [if_pos hs,zAs (by omega) (by omega),Int.fdiv_eq_ediv_of_nonneg _ (by omega),← Int.natCast_ediv,Nat.mul_div_cancel _ hp]
 ·have h5:9223372036854775808≤numB b*x:=by rw [← e4];exact Nat.mul_le_mul_right _ (Nat.le_of_not_lt hs)
  rw [if_neg hs,zW7 (by omega) (by omega),Int.fdiv_eq_ediv_of_nonneg _ (by omega)]
  have e6:((numB b*x:Nat):Int)-18446744073709551616=((numB b:Int)-((2*y:Nat):Int))*(x:Int):=by
   rw [Int.sub_mul,← Int.natCast_mul,← Int.natCast_mul,e2];rfl
  rw [e6,Int.mul_ediv_cancel _ (by omega)]
end Go.Proofs.YthjhejgjcdajdaaGreatDoor
set_option maxRecDepth 20000
set_option linter.unusedVariables false
set_option linter.unusedSimpArgs false
namespace Go.Proofs.YthjhejgjcdajdaaGreatDoor
open Go Go.RowKit Go.Wk
theorem zav {L:List Bool} {a:Nat} (hL:L.length≤8000000000) (j1:Int→zA→Option (Int×Int×zA)):∀ (r k b:Nat) (f:Nat),k+r=4→b≤L.length→r<f →
 zG (RdO L a) j1 f (k:Int) (RdO L b) =
  (if zLi r (L.drop b)<r∧(L.drop b).length=zLi r (L.drop b) then some (0,2,RdO L a)
   else j1 ((k+zLi r (L.drop b):Nat):Int) (RdO L (b+zLi r (L.drop b)+if zLi r (L.drop b)<r then 1 else 0))):=by
 intro r
 induction r with
 | zero=>
  intro k b f hk hb hf;obtain ⟨f,rfl⟩:∃ k,f=k+1:=⟨f-1,by omega⟩
  have:zLi 0 (L.drop b)=0:=by cases L.drop b<;>rfl
  rw [zG,if_neg (by omega),this,if_neg (by omega),if_neg (by omega)];rfl
 | succ r ih=>
  intro k b f hk hb hf;obtain ⟨f,rfl⟩:∃ k,f=k+1:=⟨f-1,by omega⟩;have t1:zDh (RdO L b) 1=_:=zTj (L:=L) (a:=b) (n:=1) hL hb (by omega);rw [zG,if_pos (by omega),t1,zAh]
  by_cases h1:b+1≤L.length
  ·rw [if_pos h1]
   simp only [Bool.not_true,Bool.false_eq_true,if_false];have hd:L.drop b=L[b]::L.drop (b+1):=List.drop_eq_getElem_cons (by omega)
   have hn:numB ((L.drop b).take 1)=(L[b]).toNat:=by rw [hd,List.take_succ_cons,List.take_zero,zOv]
   rw [hn]
   cases hx:L[b] with
   | false=>
    rw [hx] at hd
    have ho:zLi (r+1) (L.drop b)=0:=by rw [hd];rfl
    rw [ho,if_pos (by rfl),if_neg (by rw [hd];simp),if_pos (by omega)];rfl
   | true=>
    rw [hx] at hd
    have ho:zLi (r+1) (L.drop b)=zLi r (L.drop (b+1))+1:=by rw [hd];rfl
    have hl:(L.drop b).length=(L.drop (b+1)).length+1:=by rw [hd];rfl
    rw [if_neg (by decide),zEx (by omega),ih (k+1) (b+1) f (by omega) (by omega) (by omega),ho,hl];generalize zLi r (L.drop (b+1))=X;generalize (L.drop (b+1)).length=Y
    by_cases hc:X<r∧Y=X
    ·rw [if_pos hc,if_pos (show X+1<r+1∧Y+1=X+1 by omega)]
    ·rw [if_neg hc,if_neg (show ¬(X+1<r+1∧Y+1=X+1) by omega),show k+1+X=k+(X+1) by omega]
     by_cases h2:X<r
     ·rw [if_pos h2,if_pos (show X+1<r+1 by omega),show b+1+X+1=b+(X+1)+1 by omega]
     ·rw [if_neg h2,if_neg (show ¬X+1<r+1 by omega),show b+1+X+0=b+(X+1)+0 by omega]
  ·rw [if_neg h1]
   have hz:L.drop b=[]:=List.drop_of_length_le (by omega);rw [hz];simp [zLi]
theorem zdz {L:List Bool} {a:Nat} (hL:L.length≤8000000000) (ha:a≤L.length) :
 zNj (RdO L a)=some (sI (UInt64.ofNat (zSx (L.drop a)).V),((zSx (L.drop a)).E:Int),RdO L (a+(zSx (L.drop a)).N)):=by
 unfold zNj;rw [zB2];obtain ⟨f,hf⟩:=zJs 6 (by omega);refine (zav hL _ 4 0 a fuel rfl ha (by rw [hf];omega)).trans ?_
 have hl:(L.drop a).length=L.length-a:=by simp
 have ho:=zWv 4 (L.drop a);unfold zSx;simp only;generalize hk:zLi 4 (L.drop a)=k at *
 by_cases h0:k<4∧(L.drop a).length=k
 ·rw [if_pos h0,if_pos h0];rfl
 rw [if_neg h0,if_neg h0,show zGr=some { a0:=0,a1:=6,a2:=10,a3:=16,a4:=64 } by rfl,zAh,Nat.zero_add];dsimp only;rw [zeu (by omega),zAh]
 have hat:a+k+(if k<4 then 1 else 0)=a+atS k:=by unfold atS;split<;>omega
 have hat2:a+atS k≤L.length:=by unfold atS;split<;>omega
 have hw:=zUf k;have t:=zTj hL hat2 hw
 by_cases h1:(L.drop a).length-atS k<wdN k
 ·rw [if_neg (by omega)] at t
  rw [hat,t,zAh,if_pos h1];rfl
 ·rw [if_pos (by omega)] at t
  rw [hat,t,zAh,if_neg h1];simp only [Bool.not_true,Bool.false_eq_true,if_false]
  have e1:(zAf (W64 (64-((wdN k:Nat):Int)))).toNat=64-wdN k:=by
   rw [zAs (by omega) (by omega),show (64:Int)-((wdN k:Nat):Int)=((64-wdN k:Nat):Int) by omega,zCk (by omega)]
  have hb:(((L.drop a).drop (atS k)).take (wdN k)).length=wdN k:=by simp;omega
  rw [e1,← List.drop_drop];generalize hbb:((L.drop a).drop (atS k)).take (wdN k)=b at *;rw [zgb k hb,zcs,zAh]
  by_cases h2:wayN (sgB b)≠k
  ·rw [if_pos (by omega),if_pos h2];rfl
  ·rw [if_neg (by omega),if_neg h2]
   have a1:zC (RdO L (a+atS k+wdN k))=some ((a+atS k+wdN k:Nat):Int):=rfl;have a2:zC (RdO L a)=some ((a:Nat):Int):=rfl;rw [a1,zAh,a2,zAh,show W64 (((a+atS k+wdN k:Nat):Int)-((a:Nat):Int))=((atS k+wdN k:Nat):Int) by rw [zAs (by omega) (by omega)];omega,zQd hL (by omega),zAh];dsimp only
   have es:sI (UInt64.ofNat (zAf (sgB b)).toNat)=sgB b:=by
    rw [show UInt64.ofNat (zAf (sgB b)).toNat=zAf (sgB b) by simp,zWn (zgc (by omega))]
   rw [es];rfl
end Go.Proofs.YthjhejgjcdajdaaGreatDoor
set_option maxRecDepth 20000
set_option linter.unusedVariables false
set_option linter.unusedSimpArgs false
namespace Go.Proofs.YthjhejgjcdajdaaGreatDoor
open Go Go.RowKit Go.Wk
def zdh (r:zA9) (L:List Bool):zft:=
 if r.n<2 then (if (zPg L).E≠0 then ⟨0,0,(zPg L).E⟩ else ⟨(r.last+zAf (zSp (UInt64.ofNat (zPg L).V))).toNat,(zPg L).N,0⟩)
 else (if (zSx L).E≠0 then ⟨0,0,(zSx L).E⟩ else ⟨(r.last+r.step+UInt64.ofNat (zSx L).V).toNat,(zSx L).N,0⟩)
theorem ofN (u:UInt64):UInt64.ofNat u.toNat=u:=by simp
theorem ze9 {r:zA9} {L:List Bool} {a:Nat} (hr:0≤r.n∧r.n≤1000000000) (hL:L.length≤8000000000) (ha:a≤L.length) :
 zKe r (RdO L a)=some (if (zdh r (L.drop a)).E=0 then (sI (UInt64.ofNat (zdh r (L.drop a)).V),0,RdO L (a+(zdh r (L.drop a)).N),zSy r (UInt64.ofNat (zdh r (L.drop a)).V)) else (0,((zdh r (L.drop a)).E:Int),RdO L a,r)):=by
 unfold zKe zdh;rw [zB2]
 by_cases h0:r.n<2
 ·rw [if_pos h0,if_pos h0,zT4 hL ha,zAh]
  rcases zh0 (L.drop a) with he|⟨he,hv,hn⟩
  ·rw [if_neg (show ¬((zPg (L.drop a)).E:Int)≠0 by omega),if_neg (show ¬(zPg (L.drop a)).E≠0 by omega),if_pos rfl]
   dsimp only;rw [zSd _ hr,zAh,zUo,ofN]
  ·rw [if_pos (show ((zPg (L.drop a)).E:Int)≠0 by omega),if_pos (show (zPg (L.drop a)).E≠0 by omega),if_neg (show ¬(zPg (L.drop a)).E=0 by omega),hn];rfl
 ·rw [if_neg h0,if_neg h0,zdz hL ha,zAh]
  rcases zgz (L.drop a) with he|⟨he,hv,hn⟩
  ·rw [if_neg (show ¬((zSx (L.drop a)).E:Int)≠0 by omega),if_neg (show ¬(zSx (L.drop a)).E≠0 by omega),if_pos rfl]
   dsimp only;rw [zRb,zSd _ hr,zAh,zUo,ofN]
  ·rw [if_pos (show ((zSx (L.drop a)).E:Int)≠0 by omega),if_pos (show (zSx (L.drop a)).E≠0 by omega),if_neg (show ¬(zSx (L.drop a)).E=0 by omega),hn];rfl
theorem zc {r:zA9} {v:Int} (hv:okI v) (hn:0≤r.n) (h0:r.n=0→r.last=0) (R:List Bool):zdh r (zOg r v++R)=⟨(zAf v).toNat,(zOg r v).length,0⟩:=by
 unfold zdh zOg
 by_cases h1:r.n=0
 ·rw [if_pos h1,if_pos (by omega),zU _ (by have:=(zig v).toNat_lt;omega),if_neg (by simp),ofN,zRa hv,h0 h1,UInt64.zero_add]
 rw [if_neg h1]
 by_cases h2:r.n=1
 ·rw [if_pos h2,if_pos (by omega),zU _ (by have:=(zig (sI (zAf v-r.last))).toNat_lt;omega),if_neg (by simp),ofN,zRa (zVj _),zRb]
  congr 2
  apply UInt64.toNat_inj.1
  have h1:=(zAf v).toNat_lt;have h2:=r.last.toNat_lt;simp only [UInt64.toNat_add,UInt64.toNat_sub];omega
 rw [if_neg h2,if_neg (by omega),zex (zVj _),if_neg (by simp),ofN,zRb]
 congr 2
 apply UInt64.toNat_inj.1
 have h1:=(zAf v).toNat_lt;have h2:=r.last.toNat_lt;have h3:=r.step.toNat_lt;simp only [UInt64.toNat_add,UInt64.toNat_sub];omega
def zMp:zA9→List Int→List Bool
 | _,[]=>[]
 | r,v::t=>zOg r v++zMp (zSy r (zAf v)) t
theorem zUs (xs:List Int) (v:Int):∀ r:zA9,zMp r (xs++[v])=zMp r xs++zOg (xs.foldl (λr v=>zSy r (zAf v)) r) v:=by
 induction xs with
 | nil=>intro r;simp [zMp]
 | cons x t ih=>intro r;rw [List.cons_append,zMp,ih,zMp,List.append_assoc];rfl
abbrev zdl (xs:List Int):List Bool:=zMp ⟨0,0,0⟩ xs
theorem zVa (xs:List Int) (v:Int):zdl (xs++[v])=zdl xs++zOg (zHe xs) v:=zUs xs v _
theorem za8 (xs:List Int):(zdl xs).length≤69*xs.length:=by
 have key:∀ (xs:List Int) (r:zA9),(zMp r xs).length≤69*xs.length:=by
  intro xs
  induction xs with
  | nil=>intro r;simp [zMp]
  | cons v t ih=>intro r;have h1:=ih (zSy r (zAf v));have h2:=zKv r v;rw [zMp,List.length_append,List.length_cons];omega
 exact key xs _
theorem zdm {xs:List Int} (hx:xs.length≤10000000) (hi:∀ x∈xs,okI x):zF9 xs=some (zs (zdl xs)):=by
 unfold zF9;rw [zB2,zL1 _ _ _ (by omega)];refine zMz (λp s=>s=zs (zdl p)) (λ_ _ _=>some (zs (zdl xs))) rfl (λs hs=>by rw [hs]) ?_;intro p x q s k hp hs hk;subst hs;have hl:=congrArg List.length hp;simp only [List.length_append,List.length_cons] at hl;have hox:okI x:=hi x (by rw [← hp];simp);have hle:=za8 p;have hn:=zUq p;have fin:k (zs (zdl p++zOg (zHe p) x))=some (zs (zdl xs)):=hk _ (by rw [zVa]);rw [zB2]
 by_cases h0:p.length=0
 ·obtain rfl:p=[]:=List.eq_nil_of_length_eq_zero h0
  have hnx:zOg (zHe []) x=smB (zig x).toNat:=rfl;have hs:=zMv (zig x).toNat
  have i0:idx xs 0=some x:=by rw [← hp];rfl
  rw [if_pos (by rfl),i0,zAh,zXg hox,zAh,zP2,zAh,zB6 (by rw [zDv,zDv];omega),zAh,← zJ6,← hnx];exact fin
 rw [if_neg (by omega)]
 by_cases h1:p.length=1
 ·obtain ⟨y,rfl⟩:∃ y,p=[y]:=List.length_eq_one_iff.1 h1
  have hnx:zOg (zHe [y]) x=smB (zig (sI (zAf x-zAf y))).toNat:=rfl;have hs:=zMv (zig (sI (zAf x-zAf y))).toNat
  have i1:idx xs 1=some x:=by rw [← hp];rfl
  have i0:idx xs 0=some y:=by rw [← hp];rfl
  rw [if_pos (by rfl),i1,zAh,i0,zAh,zUo,zXg (zVj _),zAh,zP2,zAh,zB6 (by rw [zDv,zDv];omega),zAh,← zJ6,← hnx];exact fin
 rw [if_neg (by omega)]
 obtain ⟨t,u,v,rfl⟩:∃ t u v,p=t++[u]++[v]:=by
  have hne:p≠[]:=by intro h;subst h;simp at h0
  have e1:=List.dropLast_concat_getLast hne
  have hne2:p.dropLast≠[]:=by intro h;have:=congrArg List.length h;simp at this;omega
  have e2:=List.dropLast_concat_getLast hne2;exact ⟨_,_,_,by rw [e2,e1]⟩
 have hlen:(t++[u]++[v]).length=t.length+2:=by simp
 have i1:idx xs (W64 (((t++[u]++[v]).length:Int)-1))=some v:=by
  rw [hlen,zAs (by omega) (by omega),show ((t.length+2:Nat):Int)-1=(((t++[u]).length:Nat):Int) by simp;omega,← hp,List.append_assoc (t++[u])];exact zFy _ _ _
 have i2:idx xs (W64 (((t++[u]++[v]).length:Int)-2))=some u:=by
  rw [hlen,zAs (by omega) (by omega),show ((t.length+2:Nat):Int)-2=((t.length:Nat):Int) by omega,← hp,List.append_assoc,List.append_assoc];exact zFy _ _ _
 have e:(zAf x-2*zAf v)+zAf u=zAf x-(zHe (t++[u]++[v])).last-(zHe (t++[u]++[v])).step:=by
  rw [zUr,zYy]
  apply UInt64.toNat_inj.1
  have h1:=(zAf x).toNat_lt;have h2:=(zAf u).toNat_lt;have h3:=(zAf v).toNat_lt;simp only [UInt64.toNat_add,UInt64.toNat_sub,UInt64.toNat_mul,show (2:UInt64).toNat=2 by rfl];omega
 have hnx:zOg (zHe (t++[u]++[v])) x=stB (sI ((zAf x-2*zAf v)+zAf u)):=by
  unfold zOg;rw [if_neg (by rw [hn];omega),if_neg (by rw [hn];omega),e]
 have hs:=zcw (sI ((zAf x-2*zAf v)+zAf u));rw [zAh,i1,zAh,i2,zAh,zUo,zfl,zAh,zB6 (by rw [zDv,zDv];omega),zAh,← zJ6,← hnx];exact fin
theorem zTv {xs:List Int} {v:Int} (hx:xs.length≤1000000) (hi:∀ x∈xs,okI x) (hv:okI v):zB9 xs v=some (zs (zOg (zHe xs) v)):=by
 unfold zB9;have h2:=za8 (xs++[v])
 rw [zdm (by omega) hi,zAh,zB6 (by simp;omega),zAh,List.nil_append,zB6 (by simp;omega),zAh,
  zdm (by simp;omega) (by intro x hx';exact (List.mem_append.1 hx').elim (hi x) (λh=>by rw [List.mem_singleton.1 h];exact hv)),zAh,zVa,zJ6,zVy,zAh]
end Go.Proofs.YthjhejgjcdajdaaGreatDoor
set_option maxRecDepth 20000
set_option linter.unusedVariables false
set_option linter.unusedSimpArgs false
namespace Go.Proofs.YthjhejgjcdajdaaGreatDoor
open Go Go.RowKit Go.Wk
theorem zPu:∀ (k x:Nat),0<x→x<2^k→∃ t q,t<k∧x=2^t*(2*q+1)
 | 0,x,h0,h1=>by simp at h1;omega
 | k+1,x,h0,h1=>by
  rcases Nat.mod_two_eq_zero_or_one x with h|h
  ·obtain ⟨t,q,h2,h3⟩:=zPu k (x/2) (by omega) (by rw [Nat.pow_succ] at h1;omega)
   exact ⟨t+1,q,by omega,by rw [Nat.pow_succ,Nat.mul_assoc,Nat.mul_left_comm,← h3];omega⟩
  ·exact ⟨0,x/2,by omega,by simp;omega⟩
theorem zfh {t q:Nat} (ht:t<64) (hx:2^t*(2*q+1)<2^64):(2^t*(2*q+1))&&&(2^64-2^t*(2*q+1))=2^t:=by
 have hp:=Nat.two_pow_pos t;have hpos:0<2^t*(2*q+1):=Nat.mul_pos hp (by omega)
 have e1:2^64-2^t*(2*q+1)=2^64-((2^t*(2*q+1)-1)+1):=by omega
 have e2:2^t*(2*q+1)-1=2^t*(2*q)+(2^t-1):=by rw [Nat.mul_add,Nat.mul_one];omega
 apply Nat.eq_of_testBit_eq
 intro i;rw [Nat.testBit_and,e1,Nat.testBit_two_pow_sub_succ (by omega),e2,Nat.testBit_two_pow_mul_add _ (by omega),Nat.testBit_two_pow_mul,Nat.testBit_two_pow]
 by_cases h1:i<t
 ·simp [h1,show ¬t≤i by omega,show ¬t=i by omega]
 ·have h2:t≤i:=by omega
  by_cases h3:i=t
  ·subst h3;simp [ht]
  ·have e3:(2*q+1).testBit (i-t)=(2*q).testBit (i-t):=by
    obtain ⟨j,hj⟩:∃ j,i-t=j+1:=⟨i-t-1,by omega⟩;rw [hj,Nat.testBit_succ,Nat.testBit_succ];congr 1;omega
   rw [e3];simp [h1,h2,show ¬t=i by omega];intro a b;simp [a]
theorem zg1:∀ t,t<64→idx gt3 ((((UInt64.ofNat (2^t))*(285870213051353865:UInt64))>>>UInt64.ofNat 58).toNat:Int)=some (UInt8.ofNat t):=by decide +kernel
theorem zg2 {x:UInt64} {t q:Nat} (ht:t<64) (hx:x.toNat=2^t*(2*q+1)):zDe x=some ((t:Nat):Int):=by
 have hlt:=x.toNat_lt;have hp:=Nat.two_pow_pos t;have hpos:0<2^t*(2*q+1):=Nat.mul_pos hp (by omega);unfold zDe
 have e:x&&&(0-x)=UInt64.ofNat (2^t):=by
  apply UInt64.toNat_inj.1
  have h2:2^t<2^64:=Nat.pow_lt_pow_right (by omega) ht;rw [UInt64.toNat_and,zBi (by omega),UInt64.toNat_sub,show (0:UInt64).toNat=0 by rfl,Nat.add_zero,Nat.mod_eq_of_lt (by omega),hx,zfh ht (by omega)]
 rw [if_neg (by omega),e,zg1 t ht,zAh,UInt8.toNat_ofNat',Nat.mod_eq_of_lt (by omega)]
theorem zgp (x:UInt64):zDk x=some ((64-bl x.toNat:Nat):Int):=by
 unfold zDk;have:=zSz (n:=x.toNat) (k:=64) (by have:=x.toNat_lt;omega);rw [zX,zAh,zAs (by omega) (by omega)];congr 1;omega
def inW (a s x:Nat):Prop:=x<2^(64-a)∧x%2^(64-a-s)=0
instance (a s x:Nat):Decidable (inW a s x):=by unfold inW;exact inferInstance
structure zNe where
 a:Nat
 s:Nat
deriving DecidableEq
abbrev zPk (w:zNe):zB:=⟨(w.a:Int),(w.s:Int)⟩
abbrev zfx (w:zNe):zAo:=⟨(w.a:Int),(w.s:Int)⟩
def zNe.ok (w:zNe):Prop:=(w.a=0∧w.s=0)∨(w.a≤31∧0<w.s∧w.a+w.s≤64)
theorem zX3 {w:zNe} (hw:w.ok) {x:UInt64} (hx:x.toNat≠0):zFf (zPk w) x=some (decide (0<w.s∧inW w.a w.s x.toNat)):=by
 have hlt:=x.toNat_lt;unfold zFf zB7;obtain ⟨t,q,ht,hq⟩:=zPu 64 x.toNat (by omega) hlt
 by_cases h0:w.s=0
 ·have ha:w.a=0:=by rcases hw with h | h<;>omega
  rw [if_neg (by simp [h0,ha]),decide_eq_false (by omega)]
 have hw2:w.a≤31∧0<w.s∧w.a+w.s≤64:=by rcases hw with h | h<;>omega
 rw [if_pos (by intro h;have:=congrArg zB.size h;simp at this;omega),zgp,zAh];have hbl:=zSz (n:=x.toNat) (k:=64) (by omega)
 have e1:((64-bl x.toNat:Nat):Int)≥(w.a:Int)↔x.toNat<2^(64-w.a):=by
  constructor
  ·intro h
   have h1:=zUa x.toNat;have h2:2^bl x.toNat≤2^(64-w.a):=Nat.pow_le_pow_right (by omega) (by omega)
   omega
  ·intro h;have:=zSz h;omega
 have e2:∀ b,b≤64→(x.toNat%2^b=0↔b≤t):=by
  intro b hb
  constructor
  ·intro h
   rcases Nat.lt_or_ge t b with h1|h1
   ·exfalso
    obtain ⟨c,rfl⟩:∃ c,b=t+(c+1):=⟨b-t-1,by omega⟩;rw [hq,Nat.pow_add,Nat.mul_mod_mul_left] at h;have hp:=Nat.two_pow_pos t
    have h2:(2*q+1)%2^(c+1)=0:=by
     rcases Nat.mul_eq_zero.1 h with h|h
     ·omega
     ·exact h
    have h3:(2*q+1)%2^(c+1)%2=1:=by
     rw [Nat.mod_mod_of_dvd _ (show 2 ∣ 2^(c+1) from ⟨2^c,by rw [Nat.pow_succ,Nat.mul_comm]⟩)];omega
    rw [h2] at h3;simp at h3
   ·exact h1
  ·intro h
   obtain ⟨c,rfl⟩:∃ c,t=b+c:=⟨t-b,by omega⟩;rw [hq,Nat.pow_add,Nat.mul_assoc,Nat.mul_mod_right]
 by_cases h1:x.toNat<2^(64-w.a)
 ·rw [if_pos (e1.2 h1),zg2 ht hq,zAh,zAh]
  dsimp only;have e3:W64 (64-(w.a:Int))=64-w.a:=zAs (by omega) (by omega);rw [e3,zAs (by omega) (by omega)]
  congr 1
  rw [decide_eq_decide];have:=e2 (64-w.a-w.s) (by omega);unfold inW;rw [this];omega
 ·rw [if_neg (λh=>h1 (e1.1 h)),decide_eq_false];intro h;exact h1 h.2.1
def arW (x:Nat):zNe:=⟨min (64-bl x) 31,64-min (64-bl x) 31-tzB 64 x⟩
where tzB:Nat→Nat→Nat
 | 0,_=>0
 | k+1,x=>if x%2=1 then 0 else tzB k (x/2)+1
theorem zWc {q:Nat}:∀ (t k:Nat),t<k→arW.tzB k (2^t*(2*q+1))=t
 | 0,k,h=>by
  obtain ⟨k,rfl⟩:∃ m,k=m+1:=⟨k-1,by omega⟩;rw [arW.tzB,if_pos (by rw [Nat.pow_zero];omega)]
 | t+1,k,h=>by
  obtain ⟨k,rfl⟩:∃ m,k=m+1:=⟨k-1,by omega⟩
  have e:2^(t+1)*(2*q+1)=2*(2^t*(2*q+1)):=by rw [Nat.pow_succ',Nat.mul_assoc]
  rw [arW.tzB,e,if_neg (by omega),show 2*(2^t*(2*q+1))/2=2^t*(2*q+1) by omega,zWc t k (by omega)]
theorem zV8 {x:UInt64} (hx:x.toNat≠0):zJ8 x=some (zPk (arW x.toNat)):=by
 have hlt:=x.toNat_lt;obtain ⟨t,q,ht,hq⟩:=zPu 64 x.toNat (by omega) hlt;have hbl:=zSz (n:=x.toNat) (k:=64) (by omega)
 have htb:t<bl x.toNat:=by
  rcases Nat.lt_or_ge t (bl x.toNat) with h|h
  ·exact h
  ·have h1:=zUa x.toNat
   have h2:2^bl x.toNat≤2^t:=Nat.pow_le_pow_right (by omega) h;have h3:2^t*1≤2^t*(2*q+1):=Nat.mul_le_mul_left _ (by omega)
   omega
 unfold zJ8;rw [zgp,zAh,zg2 ht hq,zAh];unfold arW
 have e1:arW.tzB 64 x.toNat=t:=by rw [hq];exact zWc t 64 ht
 rw [e1]
 have e2:min ((64-bl x.toNat:Nat):Int) 31=((min (64-bl x.toNat) 31:Nat):Int):=by omega
 have e3:W64 (64-((min (64-bl x.toNat) 31:Nat):Int))=64-((min (64-bl x.toNat) 31:Nat):Int):=zAs (by omega) (by omega);rw [e2,e3,zAs (by omega) (by omega)]
 congr 2;dsimp only;omega
theorem zV9 {x:Nat} (h0:x≠0) (hx:x<2^64):(arW x).a≤31∧0<(arW x).s∧(arW x).a+(arW x).s≤64∧inW (arW x).a (arW x).s x:=by
 obtain ⟨t,q,ht,hq⟩:=zPu 64 x (by omega) hx;have hbl:=zSz (n:=x) (k:=64) hx;have h1:=zUa x
 have htb:t<bl x:=by
  rcases Nat.lt_or_ge t (bl x) with h|h
  ·exact h
  ·have h2:2^bl x≤2^t:=Nat.pow_le_pow_right (by omega) h
   have h3:2^t*1≤2^t*(2*q+1):=Nat.mul_le_mul_left _ (by omega)
   omega
 have e1:arW.tzB 64 x=t:=by rw [hq];exact zWc t 64 ht
 unfold inW arW;rw [e1];dsimp only;refine ⟨by omega,by omega,by omega,?_,?_⟩
 ·have h2:2^bl x≤2^(64-min (64-bl x) 31):=Nat.pow_le_pow_right (by omega) (by omega)
  omega
 ·rw [show 64-min (64-bl x) 31-(64-min (64-bl x) 31-t)=t by omega,hq,Nat.mul_mod_right]
end Go.Proofs.YthjhejgjcdajdaaGreatDoor
set_option maxRecDepth 20000
set_option linter.unusedVariables false
set_option linter.unusedSimpArgs false
namespace Go.Proofs.YthjhejgjcdajdaaGreatDoor
open Go Go.RowKit Go.Wk
theorem zTq:∀ (n v i:Nat),i<n→(zG7 v n)[i]?=some (v.testBit (n-1-i))
 | 0,v,i,h=>by omega
 | n+1,v,i,h=>by
  rw [zG7]
  by_cases h1:i<n
  ·rw [List.getElem?_append_left (by rw [zAt];exact h1),zTq n (v/2) i h1]
   rw [show n+1-1-i=(n-1-i)+1 by omega,Nat.testBit_succ]
  ·obtain rfl:i=n:=by omega
   rw [List.getElem?_append_right (by rw [zAt];exact Nat.le_refl _),zAt,Nat.sub_self,show i+1-1-i=0 by omega,Nat.testBit_zero]
   rcases Nat.mod_two_eq_zero_or_one v with h|h<;>simp [h]
theorem tb (x i:Nat):x.testBit i=decide (x/2^i%2=1):=Nat.testBit_eq_decide_div_mod_eq
def xB (n:Nat) (last v:UInt64) (w:zNe):List Bool×zNe:=
 if n=0 then (zG7 v.toNat 64,w)
 else if (v^^^last).toNat=0 then ([false],w)
 else if 0<w.s∧inW w.a w.s (v^^^last).toNat then ([true,false]++zG7 ((v^^^last).toNat/2^(64-w.a-w.s)) w.s,w)
 else ([true,true]++(zG7 (arW (v^^^last).toNat).a 5++(zG7 ((arW (v^^^last).toNat).s-1) 6++zG7 ((v^^^last).toNat/2^(64-(arW (v^^^last).toNat).a-(arW (v^^^last).toNat).s)) (arW (v^^^last).toNat).s)),arW (v^^^last).toNat)
theorem xB_ok {n:Nat} {last v:UInt64} {w:zNe} (hw:w.ok):(xB n last v w).2.ok:=by
 unfold xB
 split
 ·exact hw
 ·split
  ·exact hw
  ·rename_i h
   split
   ·exact hw
   ·have:=zV9 h (by have:=(v^^^last).toNat_lt;omega);exact .inr ⟨this.1,this.2.1,this.2.2.1⟩
theorem zY4 (n:Nat) (last v:UInt64) {w:zNe} (hw:w.ok):(xB n last v w).1.length≤77∧0<(xB n last v w).1.length:=by
 unfold xB
 split
 ·simp [zAt]
 ·split
  ·simp
  ·rename_i h
   split
   ·simp [zAt];rcases hw with h | h<;>omega
   ·have:=zV9 h (by have:=(v^^^last).toNat_lt;omega)
    generalize (v^^^last).toNat=x at *;simp [zAt];omega
theorem zZn {a s x:Nat} (h:inW a s x) (ha:a+s≤64):x/2^(64-a-s)<2^s:=by
 have e:2^(64-a)=2^(64-a-s)*2^s:=by rw [← Nat.pow_add];congr 1;omega
 exact Nat.div_lt_of_lt_mul (by rw [← e];exact h.1)
theorem zOo {w:zNe} (h:w.a+w.s≤64):zB7 (zPk w)=some ((64-w.a-w.s:Nat):Int):=by
 unfold zB7;dsimp only;have e3:W64 (64-(w.a:Int))=64-w.a:=zAs (by omega) (by omega);rw [e3,zAs (by omega) (by omega)];congr 1;omega
theorem zdo {M:List Bool} {n:Nat} {last v:UInt64} {w:zNe} (hw:w.ok) (hn:n≤1000000000) (hM:M.length≤6000000000) :
 zF ⟨(n:Int),last,zPk w⟩ (WrO M) v=some (WrO (M++(xB n last v w).1),⟨((n+1:Nat):Int),v,zPk (xB n last v w).2⟩):=by
 unfold zF xB;have hx:=(v^^^last).toNat_lt;rw [zB2];dsimp only;have e1:W64 ((n:Int)+1)=((n+1:Nat):Int):=zEx (by omega)
 by_cases h0:n=0
 ·have p:zAk (WrO M) v 64=_:=zKh (M:=M) (v:=v) (n:=64) (by omega) (by omega) (by have:=v.toNat_lt;omega)
  rw [if_pos (show (n:Int)=0 by omega),if_pos h0,p,zAh,e1]
 rw [if_neg (show ¬(n:Int)=0 by omega),if_neg h0]
 by_cases h1:(v^^^last).toNat=0
 ·have p:zAk (WrO M) 0 1=_:=zKh (M:=M) (v:=0) (n:=1) (by omega) (by omega) (by decide)
  rw [if_pos (show (((v^^^last).toNat:Nat):Int)=0 by omega),if_pos h1,p,zAh,e1];rfl
 rw [if_neg (show ¬(((v^^^last).toNat:Nat):Int)=0 by omega),if_neg h1,zX3 hw h1,zAh]
 by_cases h2:0<w.s∧inW w.a w.s (v^^^last).toNat
 ·have hw2:w.a+w.s≤64:=by rcases hw with h | h<;>omega
  have p:zAk (WrO M) 2 2=_:=zKh (M:=M) (v:=2) (n:=2) (by omega) (by omega) (by decide)
  have es:(shr64 (v^^^last) ((zAf ((64-w.a-w.s:Nat):Int)).toNat)).toNat=(v^^^last).toNat/2^(64-w.a-w.s):=by rw [zCk (by omega),zMw]
  rw [decide_eq_true h2,if_pos rfl,if_pos h2,p,zAh,zOo hw2,zAh];dsimp only;rw [zKh (by rw [List.length_append,zAt];omega) (by omega) (by rw [es];exact zZn h2.2 hw2),zAh,es,List.append_assoc,e1];rfl
 ·rw [decide_eq_false h2,if_neg (by simp),if_neg h2,zV8 h1,zAh]
  obtain ⟨ha,hs,has,hin⟩:=zV9 h1 (by omega);generalize hu:arW (v^^^last).toNat=u at *;have p:zAk (WrO M) 3 2=_:=zKh (M:=M) (v:=3) (n:=2) (by omega) (by omega) (by decide);have ea:(zAf ((u.a:Nat):Int)).toNat=u.a:=zCk (by omega)
  have eb:(zAf (W64 (((u.s:Nat):Int)-1))).toNat=u.s-1:=by
   rw [zAs (by omega) (by omega),show ((u.s:Nat):Int)-1=((u.s-1:Nat):Int) by omega,zCk (by omega)]
  have es:(shr64 (v^^^last) ((zAf ((64-u.a-u.s:Nat):Int)).toNat)).toNat=(v^^^last).toNat/2^(64-u.a-u.s):=by rw [zCk (by omega),zMw]
  have p5:∀ X:List Bool,X.length≤7000000000→zAk (WrO X) (zAf ((u.a:Nat):Int)) 5=some (true,WrO (X++zG7 u.a 5)):=λX hX=>by
   have:zAk (WrO X) (zAf ((u.a:Nat):Int)) 5=_:=zKh (n:=5) (by omega) (by omega) (by rw [ea];omega);rw [ea] at this;exact this
  have p6:∀ X:List Bool,X.length≤7000000000→zAk (WrO X) (zAf (W64 (((u.s:Nat):Int)-1))) 6=some (true,WrO (X++zG7 (u.s-1) 6)):=λX hX=>by
   have:zAk (WrO X) (zAf (W64 (((u.s:Nat):Int)-1))) 6=_:=zKh (n:=6) (by omega) (by omega) (by rw [eb];omega);rw [eb] at this;exact this
  rw [p,zAh];dsimp only;rw [p5 _ (by rw [List.length_append,zAt];omega),zAh];dsimp only;rw [p6 _ (by rw [List.length_append,List.length_append,zAt,zAt];omega),zAh,zOo has,zAh];dsimp only;rw [zKh (by simp only [List.length_append,zAt];omega) (by omega) (by rw [es];exact zZn hin has),zAh,es,e1];simp only [List.append_assoc];rfl
abbrev XR (L:List UInt64) (w:zNe):zAd:=⟨L,zfx w⟩
def zL2 (L:List UInt64):UInt64:=L.getLastD 0
theorem zTg {L:List UInt64} (v:UInt64) (w:zAo) (s:zAd) (hs:s.L=L) (h:L.length≤10000000):zD9 s v w=some ⟨L++[v],w⟩:=by
 unfold zD9;rw [hs,zB6 (by simp;omega),zAh,List.nil_append,zB6 (by simp;omega),zAh]
theorem zb9 {L:List UInt64} {w:zAo} (h:L.length≤10000000):zEr ⟨L,w⟩=some (zL2 L):=by
 unfold zEr zL2
 by_cases h0:L=[]
 ·subst h0;rfl
 ·obtain ⟨t,x,rfl⟩:∃ t x,L=t++[x]:=⟨_,_,(List.dropLast_concat_getLast h0).symm⟩
  have hl:(t++[x]).length=t.length+1:=by simp
  dsimp only;rw [if_neg (by rw [hl];omega),hl,zAs (by omega) (by omega),show ((t.length+1:Nat):Int)-1=((t.length:Nat):Int) by omega,zFy,zAh];simp
theorem zYu (v:UInt64):zF8 v=some (zs (zG7 v.toNat 64)):=by
 unfold zF8;have:zB0 v 64=_:=zRt (v:=v) (n:=64) (by omega);rw [this,zAh]
def Pin (x:Nat) (w:zNe) (i:Nat):Prop:=∀ k,i≤k→k<64→x.testBit (63-k)=true→w.a≤k∧k<w.a+w.s
theorem zco {x:Nat} {w:zNe} {i:Nat} (hi:i<64):Pin x w i↔(x.testBit (63-i)=true→w.a≤i∧i<w.a+w.s)∧Pin x w (i+1):=by
 constructor
 ·intro h;exact ⟨λhb=>h i (Nat.le_refl _) hi hb,λk h1 h2 h3=>h k (by omega) h2 h3⟩
 ·intro ⟨h1,h2⟩ k hk1 hk2 hk3
  by_cases hk:k=i
  ·subst hk;exact h1 hk3
  ·exact h2 k (by omega) hk2 hk3
theorem zac {x:Nat} (hx:x<2^64) {w:zNe}:Pin x w 0↔inW w.a w.s x:=by
 unfold inW
 constructor
 ·intro h
  constructor
  ·apply Nat.lt_pow_two_of_testBit
   intro i hi
   rcases Nat.lt_or_ge i 64 with h1|h1
   ·cases hb:x.testBit i with
    | false=>rfl
    | true=>have:=h (63-i) (by omega) (by omega) (by rw [show 63-(63-i)=i by omega];exact hb);omega
   ·exact Nat.testBit_lt_two_pow (Nat.lt_of_lt_of_le hx (Nat.pow_le_pow_right (by omega) h1))
  ·apply Nat.eq_of_testBit_eq
   intro i;rw [Nat.testBit_mod_two_pow,Nat.zero_testBit]
   by_cases h1:i<64-w.a-w.s
   ·cases hb:x.testBit i with
    | false=>simp
    | true=>have:=h (63-i) (by omega) (by omega) (by rw [show 63-(63-i)=i by omega];exact hb);omega
   ·simp [h1]
 ·intro ⟨h1,h2⟩ k _ hk hb
  constructor
  ·rcases Nat.lt_or_ge k w.a with h | h
   ·rw [Nat.testBit_lt_two_pow (Nat.lt_of_lt_of_le h1 (Nat.pow_le_pow_right (by omega) (by omega)))] at hb;cases hb
   ·exact h
  ·rcases Nat.lt_or_ge k (w.a+w.s) with h | h
   ·exact h
   ·have:=Nat.testBit_mod_two_pow x (64-w.a-w.s) (63-k)
    rw [h2,Nat.zero_testBit,hb,decide_eq_true (by omega)] at this
    cases this
theorem zet {x:Nat} {w:zNe} (hw:w.a+w.s≤64) (j:Unit→Option Bool):∀ (r i f:Nat),i+r=64→r<f →
 (Pin x w i→zBv (zs (zG7 x 64)) (zfx w) j f (i:Int)=j ())∧(¬Pin x w i→zBv (zs (zG7 x 64)) (zfx w) j f (i:Int)=some false):=by
 intro r
 induction r with
 | zero=>
  intro i f hi hf;obtain ⟨f,rfl⟩:∃ k,f=k+1:=⟨f-1,by omega⟩;rw [zBv,if_neg (by omega)];exact ⟨λ_=>rfl,λh=>(h λk h1 h2=>by omega).elim⟩
 | succ r ih=>
  intro i f hi hf;obtain ⟨f,rfl⟩:∃ k,f=k+1:=⟨f-1,by omega⟩
  have hz:idx (zs (zG7 x 64)) (i:Int)=some (biZ (x.testBit (63-i))):=by
   rw [zNr,zs,List.getElem?_map,zTq 64 x i (by omega)];rfl
  rw [zBv,if_pos (by omega),hz,zAh];simp only [zB2]
  have ew:W64 ((w.a:Int)+(w.s:Int))=((w.a+w.s:Nat):Int):=by rw [zAs (by omega) (by omega)];omega
  rw [zEx (by omega),ew];obtain ⟨n1,n2⟩:=ih (i+1) f (by omega) (by omega);have hst:=zco (x:=x) (w:=w) (i:=i) (by omega)
  cases hb:x.testBit (63-i) with
  | false=>
   rw [hb] at hst;rw [if_neg (by decide)];simp only [Bool.false_eq_true,if_false];exact ⟨λh=>n1 (hst.1 h).2,λh=>n2 λhh=>h (hst.2 ⟨(λh=>by cases h),hh⟩)⟩
  | true=>
   rw [hb] at hst;rw [if_pos (by decide)]
   by_cases hin:w.a≤i∧i<w.a+w.s
   ·rw [if_neg (show ¬(i:Int)<(w.a:Int) by omega),decide_eq_false (show ¬(i:Int)≥((w.a+w.s:Nat):Int) by omega)]
    simp only [Bool.false_eq_true,if_false];exact ⟨λh=>n1 (hst.1 h).2,λh=>n2 λhh=>h (hst.2 ⟨λ_=>hin,hh⟩)⟩
   ·refine ⟨λh=>(hin ((hst.1 h).1 rfl)).elim,λ_=>?_⟩
    by_cases h1:(i:Int)<(w.a:Int)
    ·rw [if_pos h1];rfl
    ·rw [if_neg h1,decide_eq_true (show (i:Int)≥((w.a+w.s:Nat):Int) by omega)];rfl
theorem in_eq {x:Nat} (hx:x<2^64) {w:zNe} (hw:w.a+w.s≤64):zH4 (zs (zG7 x 64)) (zfx w)=some (decide (0<w.s∧inW w.a w.s x)):=by
 unfold zH4;rw [zB2];obtain ⟨f,hf⟩:=zJs 65 (by omega);obtain ⟨n1,n2⟩:=zet (x:=x) hw (λ_=>some (decide ((w.s:Int)>0))) 64 0 fuel (by omega) (by rw [hf];omega)
 by_cases h:inW w.a w.s x
 ·refine (n1 ((zac hx).2 h)).trans ?_
  congr 1
  rw [decide_eq_decide];exact ⟨λhh=>⟨by omega,h⟩,λhh=>by have:=hh.1;omega⟩
 ·refine (n2 λhh=>h ((zac hx).1 hh)).trans ?_
  rw [decide_eq_false λhh=>h hh.2]
end Go.Proofs.YthjhejgjcdajdaaGreatDoor
set_option maxRecDepth 20000
set_option linter.unusedVariables false
set_option linter.unusedSimpArgs false
namespace Go.Proofs.YthjhejgjcdajdaaGreatDoor
open Go Go.RowKit Go.Wk
theorem zZh {x:Nat} (h0:x≠0):x.testBit (bl x-1)=true∧∀ j,bl x≤j→x.testBit j=false:=by
 have h1:=zUa x;have h2:=za3 h0
 have hb:bl x≠0:=by intro h;rw [h] at h1;simp at h1;omega
 constructor
 ·rw [tb]
  have e:2^bl x=2*2^(bl x-1):=by rw [← Nat.pow_succ'];congr 1;omega
  have e2:x/2^(bl x-1)=1:=by
   apply Nat.div_eq_of_lt_le<;>omega
  rw [e2];rfl
 ·intro j hj;exact Nat.testBit_lt_two_pow (Nat.lt_of_lt_of_le h1 (Nat.pow_le_pow_right (by omega) hj))
theorem zYf (t q:Nat):(2^t*(2*q+1)).testBit t=true∧∀ j,j<t→(2^t*(2*q+1)).testBit j=false:=by
 constructor
 ·rw [Nat.testBit_two_pow_mul];simp
 ·intro j hj;rw [Nat.testBit_two_pow_mul];simp;omega
theorem zhb {x i:Nat} (h:i<64):idx (zs (zG7 x 64)) (i:Int)=some (biZ (x.testBit (63-i))):=by
 rw [zNr,zs,List.getElem?_map,zTq 64 x i h];rfl
theorem zcf {x:Nat} (h0:x≠0) (hx:x<2^64) (j:Int→Option zAo):∀ (r i f:Nat),i+r=min (64-bl x) 31→r<f →
 zBk (zs (zG7 x 64)) j f (i:Int)=j ((min (64-bl x) 31:Nat):Int):=by
 obtain ⟨hb1,hb2⟩:=zZh h0;have hbl:=zSz (n:=x) (k:=64) hx
 have hb0:bl x≠0:=by intro h;have h1:=zUa x;rw [h] at h1;simp at h1;omega
 intro r
 induction r with
 | zero=>
  intro i f hi hf;obtain ⟨f,rfl⟩:∃ k,f=k+1:=⟨f-1,by omega⟩;rw [zBk,zB2]
  by_cases h1:i<31
  ·rw [if_pos (by omega),zhb (by omega),zAh]
   have:x.testBit (63-i)=true:=by rw [show 63-i=bl x-1 by omega];exact hb1
   rw [this];simp only [biZ,if_true];rw [← hi];rfl
  ·rw [if_neg (by omega)]
   simp only [Bool.false_eq_true,if_false];rw [← hi];rfl
 | succ r ih=>
  intro i f hi hf;obtain ⟨f,rfl⟩:∃ k,f=k+1:=⟨f-1,by omega⟩;rw [zBk,zB2,if_pos (by omega),zhb (by omega),zAh,hb2 _ (by omega),zEx (by omega)];simp only [biZ,Bool.false_eq_true,if_false,decide_true,if_true];exact ih (i+1) f (by omega) (by omega)
theorem zci {x t q:Nat} (hq:x=2^t*(2*q+1)) (ht:t<64) {a:Nat} (ha:a<64-t) (j:Int→Option zAo):∀ (r e f:Nat),e=64-t+r→r≤t→r<f →
 zBl (zs (zG7 x 64)) (a:Int) j f (e:Int)=j ((64-t:Nat):Int):=by
 obtain ⟨hb1,hb2⟩:=zYf t q;intro r
 induction r with
 | zero=>
  intro e f he hr hf;obtain ⟨f,rfl⟩:∃ k,f=k+1:=⟨f-1,by omega⟩
  have ew:W64 ((e:Int)-1)=((e-1:Nat):Int):=by rw [zAs (by omega) (by omega)];omega
  rw [zBl,zB2,if_pos (by omega),ew,zhb (by omega),zAh,show 63-(e-1)=t by omega,hq,hb1];simp only [biZ,if_true];rw [he];rfl
 | succ r ih=>
  intro e f he hr hf;obtain ⟨f,rfl⟩:∃ k,f=k+1:=⟨f-1,by omega⟩
  have ew:W64 ((e:Int)-1)=((e-1:Nat):Int):=by rw [zAs (by omega) (by omega)];omega
  have hz:x.testBit (63-(e-1))=false:=by rw [hq];exact hb2 _ (by omega)
  rw [zBl,zB2,if_pos (by omega),ew,zhb (by omega),zAh,hz];simp only [biZ,Bool.false_eq_true,if_false,decide_true,if_true];exact ih (e-1) f (by omega) (by omega) (by omega)
theorem zXp {x:Nat} (h0:x≠0) (hx:x<2^64):zFh (zs (zG7 x 64))=some (zfx (arW x)):=by
 obtain ⟨t,q,ht,hq⟩:=zPu 64 x (by omega) hx;have hbl:=zSz (n:=x) (k:=64) hx
 have htb:t<bl x:=by
  rcases Nat.lt_or_ge t (bl x) with h|h
  ·exact h
  ·have h1:=zUa x
   have h2:2^bl x≤2^t:=Nat.pow_le_pow_right (by omega) h;have h3:2^t*1≤2^t*(2*q+1):=Nat.mul_le_mul_left _ (by omega)
   omega
 have e1:arW.tzB 64 x=t:=by rw [hq];exact zWc t 64 ht
 unfold zFh;rw [zB2];obtain ⟨f,hf⟩:=zJs 65 (by omega);refine (zcf h0 hx _ (min (64-bl x) 31) 0 fuel (by omega) (by rw [hf];omega)).trans ?_;rw [zB2];refine (zci hq ht (a:=min (64-bl x) 31) (by omega) _ t 64 fuel (by omega) (by omega) (by rw [hf];omega)).trans ?_;unfold arW;rw [e1,zAs (by omega) (by omega)]
 congr 2;dsimp only;omega
theorem zU3 {x a s:Nat} (h:a+s≤64):((zG7 x 64).take (a+s)).drop a=zG7 (x/2^(64-a-s)) s:=by
 have e:zG7 x 64=zG7 (x/2^(64-a)) a++(zG7 (x/2^(64-a-s)) s++zG7 x (64-a-s)):=by
  rw [show (64:Nat)=a+(s+(64-a-s)) by omega,zTr,zTr,show s+(64-a-s)=64-a by omega,show a+(64-a)=64 by omega]
 rw [e,← List.append_assoc,List.take_append_of_le_length (by rw [List.length_append,zAt,zAt];omega),List.take_of_length_le (by rw [List.length_append,zAt,zAt];omega),
  List.drop_append_of_le_length (by rw [zAt];omega),List.drop_of_length_le (by rw [zAt];omega),List.nil_append]
theorem zZw {x:Nat} {w:zNe} (h:w.a+w.s≤64):zNt (zs (zG7 x 64)) (w.a:Int) (W64 ((w.a:Int)+(w.s:Int)))=some (zs (zG7 (x/2^(64-w.a-w.s)) w.s)):=by
 have ew:W64 ((w.a:Int)+(w.s:Int))=((w.a+w.s:Nat):Int):=by rw [zAs (by omega) (by omega)];omega
 rw [ew,zRm (by omega) (by omega) (by rw [zDv,zAt];omega),Int.toNat_natCast,Int.toNat_natCast,← zU3 h];simp [zs,List.map_take,List.map_drop]
theorem zWy {v u:UInt64}:(v^^^u).toNat=0↔v.toNat=u.toNat:=by
 rw [UInt64.toNat_xor]
 constructor
 ·intro h
  have:=congrArg (λz=>z^^^u.toNat) h;simp only [Nat.xor_assoc,Nat.xor_self,Nat.xor_zero,Nat.zero_xor] at this;exact this
 ·intro h;rw [h,Nat.xor_self]
theorem zab {L:List UInt64} {w:zNe} (hw:w.ok) (hL:L.length≤1000000) (v:UInt64) :
 zDy (XR L w) v=some (zs (xB L.length (zL2 L) v w).1,XR (L++[v]) (xB L.length (zL2 L) v w).2):=by
 unfold zDy xB;have hx:=(v^^^zL2 L).toNat_lt
 by_cases h0:L.length=0
 ·rw [if_pos (by dsimp only;omega),if_pos h0,zYu,zAh,zTg (L:=L) v _ _ rfl (by omega),zAh]
 rw [if_neg (by dsimp only;omega),if_neg h0,zb9 (by omega),zAh,zYu,zAh,zAh]
 by_cases h1:(v^^^zL2 L).toNat=0
 ·have hv:=zWy.1 h1
  rw [if_pos (by omega),if_pos h1,zTg (L:=L) v _ _ rfl (by omega),zAh];rfl
 have hv:¬v.toNat=(zL2 L).toNat:=λh=>h1 (zWy.2 h)
 have hws:w.a+w.s≤64:=by rcases hw with h | h<;>omega
 rw [if_neg (by omega),if_neg h1,in_eq (by omega) hws,zAh]
 by_cases h2:0<w.s∧inW w.a w.s (v^^^zL2 L).toNat
 ·rw [decide_eq_true h2,if_pos rfl,if_pos h2,zZw hws,zAh,show ([1,0]:List Int)=zs [true,false] by rfl,zB6 (by rw [zDv,zDv,zAt];simp;omega),zAh,← zJ6,zTg (L:=L) v _ _ rfl (by omega),zAh]
 ·obtain ⟨ha,hs,has,hin⟩:=zV9 h1 (by omega)
  rw [decide_eq_false h2,if_neg (by simp),if_neg h2,zXp h1 (by omega),zAh];generalize arW (v^^^zL2 L).toNat=u at *;have ea:(zAf ((u.a:Nat):Int)).toNat=u.a:=zCk (by omega)
  have eb:(zAf (W64 (((u.s:Nat):Int)-1))).toNat=u.s-1:=by
   rw [zAs (by omega) (by omega),show ((u.s:Nat):Int)-1=((u.s-1:Nat):Int) by omega,zCk (by omega)]
  have r5:zB0 (zAf ((u.a:Nat):Int)) 5=_:=zRt (n:=5) (by omega);have r6:zB0 (zAf (W64 (((u.s:Nat):Int)-1))) 6=_:=zRt (n:=6) (by omega)
  rw [r5,zAh,r6,zAh,ea,eb,show ([1,1]:List Int)=zs [true,true] by rfl,zB6 (by rw [zDv,zDv,zAt];simp),zAh,← zJ6,zB6 (by rw [zDv,zDv,List.length_append,zAt,zAt];simp),zAh,← zJ6,
   zZw has,zAh,zB6 (by rw [zDv,zDv];simp only [List.length_append,zAt,List.length_cons,List.length_nil];omega),zAh,← zJ6,zTg (L:=L) v _ _ rfl (by omega),zAh]
  simp only [List.append_assoc]
def zTf (xs:List UInt64):zNe:=(xs.foldl (λ(s:List UInt64×zNe) v=>(s.1++[v],(xB s.1.length (zL2 s.1) v s.2).2)) ([],⟨0,0⟩)).2
theorem zQb (xs:List UInt64) (v:UInt64):zTf (xs++[v])=(xB xs.length (zL2 xs) v (zTf xs)).2:=by
 have key:∀ (xs:List UInt64) (s:List UInt64×zNe),(xs.foldl (λ(s:List UInt64×zNe) v=>(s.1++[v],(xB s.1.length (zL2 s.1) v s.2).2)) s).1=s.1++xs:=by
  intro xs
  induction xs with
  | nil=>intro s;simp
  | cons x t ih=>intro s;rw [List.foldl_cons,ih];simp
 unfold zTf;rw [List.foldl_append];have:=key xs ([],⟨0,0⟩);rw [List.nil_append] at this;simp only [List.foldl_cons,List.foldl_nil];rw [this]
theorem zKc (xs:List UInt64):(zTf xs).ok:=by
 have key:∀ (xs:List UInt64) (s:List UInt64×zNe),s.2.ok→(xs.foldl (λ(s:List UInt64×zNe) v=>(s.1++[v],(xB s.1.length (zL2 s.1) v s.2).2)) s).2.ok:=by
  intro xs
  induction xs with
  | nil=>intro s h;exact h
  | cons x t ih=>intro s h;rw [List.foldl_cons];exact ih _ (xB_ok h)
 exact key xs _ (.inl ⟨rfl,rfl⟩)
theorem zQ4 {xs:List UInt64} (hx:xs.length≤100000) (v:UInt64):zB3 xs v=some (zs (xB xs.length (zL2 xs) v (zTf xs)).1):=by
 unfold zB3;rw [zB2];obtain ⟨f,hf⟩:=zJs 100001 (by omega)
 have key:∀ (q p:List UInt64) (f:Nat),p++q=xs→q.length<f→zBj xs (λy6=>(zDy y6 v).bind λp10=>some p10.1) f ((p.length:Nat):Int) (XR p (zTf p))=some (zs (xB xs.length (zL2 xs) v (zTf xs)).1):=by
  intro q
  induction q with
  | nil=>
   intro p f hp hf;obtain ⟨f,rfl⟩:∃ k,f=k+1:=⟨f-1,by omega⟩;rw [List.append_nil] at hp;subst hp;rw [zBj,if_neg (by omega),zab (zKc p) (by omega),zAh]
  | cons x q ih=>
   intro p f hp hf;obtain ⟨f,rfl⟩:∃ k,f=k+1:=⟨f-1,by omega⟩;have hl:=congrArg List.length hp;simp only [List.length_append,List.length_cons] at hl hf
   have hi:idx xs ((p.length:Nat):Int)=some x:=by rw [← hp];exact zFy _ _ _
   rw [zBj,if_pos (by omega),hi,zAh,zab (zKc p) (by omega),zAh,zEx (by omega)];have:=ih (p++[x]) f (by simpa using hp) (by omega);rw [zQb,List.length_append] at this;exact this
 exact key xs [] fuel (by simp) (by rw [hf];omega)
end Go.Proofs.YthjhejgjcdajdaaGreatDoor
set_option maxRecDepth 20000
set_option linter.unusedVariables false
set_option linter.unusedSimpArgs false
namespace Go.Proofs.YthjhejgjcdajdaaGreatDoor
open Go Go.RowKit Go.Wk
structure GotX where
 V:UInt64
 N:Nat
 E:Nat
 w:zNe
def plc (u:zNe) (b:List Bool):Nat:=numB b*2^(64-u.a-u.s)
theorem zd9 {u:zNe} {b:List Bool} (h:u.a+u.s≤64) (hb:b.length≤u.s):plc u b<2^(64-u.a)∧plc u b%2^(64-u.a-u.s)=0:=by
 unfold plc;refine ⟨?_,Nat.mul_mod_left _ _⟩;have h1:=zI2 b;have h2:2^b.length≤2^u.s:=Nat.pow_le_pow_right (by omega) hb
 have e:2^(64-u.a)=2^u.s*2^(64-u.a-u.s):=by rw [← Nat.pow_add];congr 1;omega
 rw [e];exact Nat.mul_lt_mul_of_pos_right (by omega) (Nat.two_pow_pos _)
def nwW (L:List Bool):zNe:=⟨numB ((L.drop 2).take 5),numB ((L.drop 7).take 6)+1⟩
def erX (e:Nat):GotX:=⟨0,0,e,⟨0,0⟩⟩
def zV4 (n:Nat) (last:UInt64) (w:zNe) (L:List Bool):GotX:=
 if n=0 then (if L.length<64 then erX 2 else ⟨UInt64.ofNat (numB (L.take 64)),64,0,w⟩)
 else if L.length<1 then erX 2
 else if L.head?=some false then ⟨last,1,0,w⟩
 else if L.length<2 then erX 2
 else if L[1]?=some false then
  (if w.s=0 then erX 3
   else if L.length-2<w.s then erX 2
   else if plc w ((L.drop 2).take w.s)=0 then erX 3
   else ⟨last^^^UInt64.ofNat (plc w ((L.drop 2).take w.s)),2+w.s,0,w⟩)
 else if L.length<13 then erX 2
 else if (nwW L).a+(nwW L).s>64 then erX 3
 else if L.length-13<(nwW L).s then erX 2
 else if plc (nwW L) ((L.drop 13).take (nwW L).s)=0∨arW (plc (nwW L) ((L.drop 13).take (nwW L).s))≠nwW L∨(0<w.s∧inW w.a w.s (plc (nwW L) ((L.drop 13).take (nwW L).s))) then erX 3
 else ⟨last^^^UInt64.ofNat (plc (nwW L) ((L.drop 13).take (nwW L).s)),13+(nwW L).s,0,nwW L⟩
theorem zJc {L:List Bool} {a n:Nat} (e:Int) (hL:L.length≤8000000000) (ha:a≤L.length) (hn:n≤64) :
 zD4 (RdO L a) e (n:Int)=some (if a+n≤L.length then (UInt64.ofNat (numB ((L.drop a).take n)),RdO L (a+n),e) else (0,RdO L a,if e=0 then 2 else e)):=by
 unfold zD4;have t:=zTj hL ha hn;rw [t,zAh,zB2]
 by_cases h:a+n≤L.length
 ·rw [if_pos h,if_pos h,if_neg (by simp)]
 ·rw [if_neg h,if_neg h]
  by_cases he:e=0
  ·rw [if_pos ⟨rfl,he⟩,if_pos he]
  ·rw [if_neg (λhh=>he hh.2),if_neg he]
theorem lt5 (l:List Bool) (n:Nat):numB (l.take n)<2^n:=by
 have h1:=zI2 (l.take n);have h2:2^(l.take n).length≤2^n:=Nat.pow_le_pow_right (by omega) (by simp;omega)
 omega
theorem zZ8 {L:List Bool} {a:Nat} (h:a<L.length):(UInt64.ofNat (numB ((L.drop a).take 1))).toNat=(L[a]).toNat:=by
 rw [List.drop_eq_getElem_cons h,List.take_succ_cons,List.take_zero,zOv,zBi];cases L[a]<;>decide
theorem zYm {u:zNe} {b:List Bool} (h:u.a+u.s≤64) (hb:b.length≤u.s):shl64 (UInt64.ofNat (numB b)) (64-u.a-u.s)=UInt64.ofNat (plc u b):=by
 have h1:=(zd9 h hb).1;have h2:2^(64-u.a)≤2^64:=Nat.pow_le_pow_right (by omega) (by omega);have hp:=Nat.two_pow_pos (64-u.a-u.s);have h3:numB b≤plc u b:=Nat.le_mul_of_pos_right _ hp
 apply UInt64.toNat_inj.1
 have e:(UInt64.ofNat (numB b)).toNat=numB b:=zBi (by omega);rw [zMx,e,zBi (by omega)];exact Nat.mod_eq_of_lt (by unfold plc at h1;omega)
def tl1 (x0:zAj) (rd:zA) (e:Int):Option (UInt64×zA×zAj×Int):=
 (zD4 rd e x0.win.size).bind λp35=>
  (zB7 x0.win).bind λp40=>
  (remZ p40 64).bind λz42=>
  jn (λ(y48:Int)=>
   (some (shl64 p35.1 ((zAf z42).toNat),p35.2.1,x0,y48))) λj3=>
  if (((shl64 p35.1 ((zAf z42).toNat)).toNat:Int)=0)∧(p35.2.2=0) then
  (j3 3)
  else
  (j3 p35.2.2)
theorem zYb {L:List Bool} {a n:Nat} {last:UInt64} {w:zNe} (hw:w.ok) (hL:L.length≤8000000000) (ha:a≤L.length) {e:Int} (he:e≠0) :
 ∃ d rd x,tl1 ⟨(n:Int),last,zPk w⟩ (RdO L a) e=some (d,rd,x,e):=by
 have hws:w.a+w.s≤64:=by rcases hw with h | h<;>omega
 obtain ⟨z,hz⟩:∃ z,remZ ((64-w.a-w.s:Nat):Int) 64=some z:=⟨_,zPp (b:=64) (by omega)⟩;have t:=zJc (n:=w.s) e hL ha (by omega);rw [if_neg he] at t;unfold tl1;simp only [zB2];rw [show zD4 (RdO L a) e (zPk w).size=_ from t,zAh,zOo hws,zAh,hz,zAh]
 split
 ·rw [if_neg (λh=>he h.2)];exact ⟨_,_,_,rfl⟩
 ·rw [if_neg (λh=>he h.2)];exact ⟨_,_,_,rfl⟩
theorem zUu {u:zNe} {b:List Bool} (h:u.a+u.s≤64) (hb:b.length≤u.s):plc u b<2^64:=by
 have h1:=(zd9 h hb).1;have h2:2^(64-u.a)≤2^64:=Nat.pow_le_pow_right (by omega) (by omega)
 omega
theorem zeb {a s:Nat} (h:0<s):remZ ((64-a-s:Nat):Int) 64=some ((64-a-s:Nat):Int):=by
 have:=zPp (a:=64-a-s) (b:=64) (by omega);rw [Nat.mod_eq_of_lt (by omega)] at this;exact this
theorem zg4 {L:List Bool} {a n:Nat} {last:UInt64} {w:zNe} (hw:w.ok) (h0:0<w.s) (hL:L.length≤8000000000) (ha:a≤L.length) :
 tl1 ⟨(n:Int),last,zPk w⟩ (RdO L a) 0=some (if a+w.s≤L.length then (UInt64.ofNat (plc w ((L.drop a).take w.s)),RdO L (a+w.s),⟨(n:Int),last,zPk w⟩,if plc w ((L.drop a).take w.s)=0 then 3 else 0) else (0,RdO L a,⟨(n:Int),last,zPk w⟩,2)):=by
 have hws:w.a+w.s≤64:=by rcases hw with h | h<;>omega
 have t:=zJc (n:=w.s) 0 hL ha (by omega);unfold tl1;simp only [zB2];rw [show zD4 (RdO L a) 0 (zPk w).size=_ from t,zAh,zOo hws,zAh,zeb h0,zAh,zCk (by omega)]
 by_cases h:a+w.s≤L.length
 ·rw [if_pos h,if_pos h]
  dsimp only
  have hb:((L.drop a).take w.s).length≤w.s:=by simp;omega
  rw [zYm hws hb,zBi (zUu hws hb)]
  by_cases hz:plc w ((L.drop a).take w.s)=0
  ·rw [if_pos ⟨by rw [hz];rfl,rfl⟩,if_pos hz]
  ·rw [if_neg (λh=>hz (by have:=h.1;omega)),if_neg hz]
 ·rw [if_neg h,if_neg h]
  dsimp only;rw [if_neg (λh=>absurd h.2 (by decide))]
  have:shl64 0 (64-w.a-w.s)=0:=by apply UInt64.toNat_inj.1;rw [zMx];simp
  rw [this,if_pos rfl]
def tl2 (x0:zAj) (c1 c2:Int) (rd:zA) (e:Int):Option (UInt64×zA×zAj×Int):=
 (zD4 rd e c2).bind λp79=>
  if p79.2.2≠0 then
  (some ((0:UInt64),p79.2.1,x0,p79.2.2))
  else
  ((zB7 (⟨c1,c2⟩:zB)).bind λp85=>
   jn (λ(y88:Bool)=>
    (jn (λ(y91:Int)=>
     (some (shl64 p79.1 ((zAf p85).toNat),p79.2.1,(⟨x0.n,x0.last,(⟨c1,c2⟩:zB)⟩:zAj),y91))) λj7=>
     if y88=true then
     (j7 3)
     else
     (j7 p79.2.2))) λj6=>
   if ((shl64 p79.1 ((zAf p85).toNat)).toNat:Int)=0 then
   (j6 true)
   else
   ((zJ8 (shl64 p79.1 ((zAf p85).toNat))).bind λp106=>
    if ¬(p106=(⟨c1,c2⟩:zB)) then
    (j6 true)
    else
    ((zFf x0.win (shl64 p79.1 ((zAf p85).toNat))).bind λp111=>
     j6 p111)))
theorem zVg {L:List Bool} {a s c1:Nat} {x0:zAj} (hs:s≤64) (hL:L.length≤8000000000) (ha:a≤L.length) {e:Int} (he:e≠0) :
 ∃ d rd x,tl2 x0 c1 s (RdO L a) e=some (d,rd,x,e):=by
 have t:=zJc (n:=s) e hL ha hs;rw [if_neg he] at t;unfold tl2;rw [t,zAh]
 by_cases h:a+s≤L.length
 ·rw [if_pos h,if_pos he];exact ⟨_,_,_,rfl⟩
 ·rw [if_neg h,if_pos he];exact ⟨_,_,_,rfl⟩
theorem zg3 {L:List Bool} {a n:Nat} {last:UInt64} {w u:zNe} (hw:w.ok) (hu:u.a+u.s≤64) (h0:0<u.s) (hL:L.length≤8000000000) (ha:a≤L.length) :
 tl2 ⟨(n:Int),last,zPk w⟩ u.a u.s (RdO L a) 0=some (if a+u.s≤L.length then (UInt64.ofNat (plc u ((L.drop a).take u.s)),RdO L (a+u.s),⟨(n:Int),last,zPk u⟩,if plc u ((L.drop a).take u.s)=0∨arW (plc u ((L.drop a).take u.s))≠u∨(0<w.s∧inW w.a w.s (plc u ((L.drop a).take u.s))) then 3 else 0) else (0,RdO L a,⟨(n:Int),last,zPk w⟩,2)):=by
 have t:=zJc (n:=u.s) 0 hL ha (by omega);unfold tl2;rw [t,zAh]
 by_cases h:a+u.s≤L.length
 ·rw [if_pos h,if_pos h]
  dsimp only
  have hb:((L.drop a).take u.s).length≤u.s:=by simp;omega
  rw [if_neg (by simp),show zB7 (⟨(u.a:Int),(u.s:Int)⟩:zB)=_ from zOo hu,zAh,zCk (by omega),zYm hu hb,zBi (zUu hu hb)];simp only [zB2]
  by_cases hz:plc u ((L.drop a).take u.s)=0
  ·rw [if_pos (by rw [hz];rfl),if_pos trivial,if_pos (Or.inl hz)]
  ·have hz':(UInt64.ofNat (plc u ((L.drop a).take u.s))).toNat≠0:=by rw [zBi (zUu hu hb)];exact hz
   rw [if_neg (by omega),zV8 hz',zAh,zBi (zUu hu hb)]
   by_cases hk:arW (plc u ((L.drop a).take u.s))=u
   ·rw [if_neg (by rw [hk];simp),zX3 hw hz',zAh,zBi (zUu hu hb)]
    by_cases hh:0<w.s∧inW w.a w.s (plc u ((L.drop a).take u.s))
    ·rw [if_pos (decide_eq_true hh),if_pos (Or.inr (Or.inr hh))]
    ·rw [if_neg (by rw [decide_eq_false hh];decide),if_neg (λh=>h.elim hz (λh=>h.elim (λh=>h hk) hh))]
   ·rw [if_pos (by
     intro hh
     apply hk
     have e1:((arW (plc u ((L.drop a).take u.s))).a:Int)=u.a:=congrArg zB.ahead hh;have e2:((arW (plc u ((L.drop a).take u.s))).s:Int)=u.s:=congrArg zB.size hh;generalize arW (plc u ((L.drop a).take u.s))=v at e1 e2
     cases v;cases u;simp only at e1 e2;congr 1<;>omega),if_pos trivial,if_pos (Or.inr (Or.inl hk))]
 ·rw [if_neg h,if_neg h]
  dsimp only;rw [if_pos (by decide)];rfl
theorem zdu {n:Nat} {last:UInt64} {w:zNe} (hw:w.ok) {L:List Bool} {a:Nat} (hL:L.length≤8000000000) (ha:a≤L.length) (hn:n≠0) :
 ∃ d rd x,zHq ⟨(n:Int),last,zPk w⟩ (RdO L a) 0=some (d,rd,x,((zV4 n last w (L.drop a)).E:Int)) ∧
  ((zV4 n last w (L.drop a)).E=0→last^^^d=(zV4 n last w (L.drop a)).V∧rd=RdO L (a+(zV4 n last w (L.drop a)).N)∧x=⟨(n:Int),last,zPk (zV4 n last w (L.drop a)).w⟩∧a+(zV4 n last w (L.drop a)).N≤L.length):=by
 have hl:(L.drop a).length=L.length-a:=by simp
 have t1:zD4 (RdO L a) 0 1=_:=zJc (n:=1) 0 hL ha (by omega);unfold zHq zV4;dsimp only;rw [if_neg (show ¬(n:Int)=0 by omega),if_neg hn,hl]
 by_cases h0:L.length-a<1
 ·rw [if_neg (by omega),if_pos rfl] at t1
  rw [if_pos h0,t1,zAh,if_pos (by rfl)];exact ⟨_,_,_,rfl,λh=>by simp [erX] at h⟩
 rw [if_pos (by omega)] at t1
 have hh:(L.drop a).head?=some (L[a]'(by omega)):=by rw [List.drop_eq_getElem_cons (by omega)];rfl
 have o1:=zZ8 (L:=L) (a:=a) (by omega);rw [if_neg h0,hh,t1,zAh];dsimp only
 cases hx:L[a]'(by omega) with
 | false=>
  rw [hx] at o1;rw [o1,if_pos (by rfl),if_pos rfl];exact ⟨_,_,_,rfl,λ_=>⟨by simp,rfl,rfl,show a+1≤L.length by omega⟩⟩
 | true=>
  rw [hx] at o1;rw [o1,if_neg (by decide),if_neg (by simp)];have t2:zD4 (RdO L (a+1)) 0 1=_:=zJc (n:=1) 0 hL (by omega) (by omega)
  by_cases h2:L.length-a<2
  ·rw [if_neg (by omega),if_pos rfl] at t2
   rw [if_pos h2,t2,zAh];simp only [zB2];rw [if_pos (by rfl)];have fin:=zYb (n:=n) (last:=last) hw hL (show a+1≤L.length by omega) (e:=2) (by decide)
   by_cases hnone:zPk w=(⟨0,0⟩:zB)
   ·rw [if_pos hnone,decide_eq_false (show ¬(2:Int)=0 by decide),if_neg (by decide)]
    obtain ⟨d,rd,x,h⟩:=fin;exact ⟨d,rd,x,h,λh=>by simp [erX] at h⟩
   ·rw [if_neg hnone,if_neg (by decide)]
    obtain ⟨d,rd,x,h⟩:=fin;exact ⟨d,rd,x,h,λh=>by simp [erX] at h⟩
  ·rw [if_pos (by omega)] at t2
   have o2:=zZ8 (L:=L) (a:=a+1) (by omega)
   have hh2:(L.drop a)[1]?=some (L[a+1]'(by omega)):=by rw [List.getElem?_drop,List.getElem?_eq_getElem (by omega)]
   rw [if_neg h2,hh2,t2,zAh];dsimp only
   have hd2:(L.drop a).drop 2=L.drop (a+1+1):=by rw [List.drop_drop]
   have hd7:(L.drop a).drop 7=L.drop (a+1+1+5):=by rw [List.drop_drop]
   have hd13:(L.drop a).drop 13=L.drop (a+1+1+5+6):=by rw [List.drop_drop]
   have hwn:zPk w=(⟨0,0⟩:zB)↔w.s=0:=by
    constructor
    ·intro h;have:(w.s:Int)=0:=congrArg zB.size h;omega
    ·intro h
     have:w.a=0:=by rcases hw with h | h<;>omega
     unfold zPk;rw [h,this];rfl
   cases hy:L[a+1]'(by omega) with
   | false=>
    rw [hy] at o2;rw [o2,if_pos (by rfl),if_pos rfl];simp only [zB2]
    by_cases hs:w.s=0
    ·rw [if_pos hs,if_pos (hwn.2 hs),if_pos (by first | trivial | rfl | decide)]
     obtain ⟨d,rd,x,h⟩:=zYb (n:=n) (last:=last) hw hL (show a+1+1≤L.length by omega) (e:=3) (by decide);exact ⟨d,rd,x,h,λh=>by simp [erX] at h⟩
    ·rw [if_neg (λh=>hs (hwn.1 h)),if_neg (by decide),if_neg hs,hd2]
     have t:=zg4 (n:=n) (last:=last) hw (by omega) hL (show a+1+1≤L.length by omega)
     by_cases hg:L.length-a-2<w.s
     ·rw [if_neg (by omega)] at t
      rw [if_pos hg];exact ⟨_,_,_,t,λh=>by simp [erX] at h⟩
     ·rw [if_pos (by omega)] at t
      rw [if_neg hg]
      by_cases hz:plc w ((L.drop (a+1+1)).take w.s)=0
      ·rw [if_pos hz] at t
       rw [if_pos hz];exact ⟨_,_,_,t,λh=>by simp [erX] at h⟩
      ·rw [if_neg hz] at t
       rw [if_neg hz];refine ⟨_,_,_,t,λ_=>⟨rfl,?_,rfl,show a+(2+w.s)≤L.length by omega⟩⟩;show RdO L _=RdO L (a+(2+w.s))
       congr 1;omega
   | true=>
    rw [hy] at o2;rw [o2,if_neg (by decide),if_neg (by simp)];have t5:zD4 (RdO L (a+1+1)) 0 5=_:=zJc (n:=5) 0 hL (by omega) (by omega);have e5:=lt5 (L.drop (a+1+1)) 5;have e6:=lt5 (L.drop (a+1+1+5)) 6
    have c5:∀ k:Nat,k<2^5→W64 ((UInt64.ofNat k).toNat:Int)=(k:Int):=by
     intro k hk;rw [zBi (by omega)];exact zAs (by omega) (by omega)
    have c6:∀ k:Nat,k<2^6→W64 ((W64 ((UInt64.ofNat k).toNat:Int))+1)=((k+1:Nat):Int):=by
     intro k hk;rw [zBi (by omega),zAs (z:=(k:Int)) (by omega) (by omega),zAs (by omega) (by omega)];omega
    have c0:W64 (((0:UInt64)).toNat:Int)=((0:Nat):Int):=by decide
    have c01:W64 ((W64 (((0:UInt64)).toNat:Int))+1)=((1:Nat):Int):=by decide
    by_cases h3:L.length-a<13
    ·rw [if_pos h3]
     by_cases h7:L.length-a<7
     ·rw [if_neg (by omega),if_pos rfl] at t5
      have t6:zD4 (RdO L (a+1+1)) 2 6=_:=zJc (n:=6) 2 hL (by omega) (by omega);rw [if_neg (show ¬a+1+1+6≤L.length by omega)] at t6;rw [t5,zAh];dsimp only;rw [t6,zAh];simp only [zB2];rw [c01,c0];obtain ⟨d,rd,x,h⟩:=zVg (x0:=⟨(n:Int),last,zPk w⟩) (c1:=0) (s:=1) (by omega) hL (show a+1+1≤L.length by omega) (e:=2) (by decide);refine ⟨d,rd,x,?_,λh=>by simp [erX] at h⟩;rw [if_neg (by decide)];exact h
     ·rw [if_pos (by omega)] at t5
      have t6:zD4 (RdO L (a+1+1+5)) 0 6=_:=zJc (n:=6) 0 hL (by omega) (by omega);rw [if_neg (show ¬a+1+1+5+6≤L.length by omega),if_pos rfl] at t6;rw [t5,zAh];dsimp only;rw [t6,zAh];simp only [zB2];rw [c5 _ e5,c01];obtain ⟨d,rd,x,h⟩:=zVg (x0:=⟨(n:Int),last,zPk w⟩) (c1:=numB ((L.drop (a+1+1)).take 5)) (s:=1) (by omega) hL (show a+1+1+5≤L.length by omega) (e:=2) (by decide);refine ⟨d,rd,x,?_,λh=>by simp [erX] at h⟩;rw [if_neg (by decide)];exact h
    ·rw [if_neg h3]
     rw [if_pos (by omega)] at t5;have t6:zD4 (RdO L (a+1+1+5)) 0 6=_:=zJc (n:=6) 0 hL (by omega) (by omega);rw [if_pos (show a+1+1+5+6≤L.length by omega)] at t6;rw [t5,zAh];dsimp only;rw [t6,zAh];simp only [zB2];rw [c5 _ e5,c6 _ e6,hd13]
     have eu:nwW (L.drop a)=⟨numB ((L.drop (a+1+1)).take 5),numB ((L.drop (a+1+1+5)).take 6)+1⟩:=by unfold nwW;rw [hd2,hd7]
     rw [eu];generalize numB ((L.drop (a+1+1)).take 5)=k5 at *;generalize numB ((L.drop (a+1+1+5)).take 6)=k6 at *
     have hbe:zB7 (⟨(k5:Int),((k6+1:Nat):Int)⟩:zB)=some ((64:Int)-k5-(k6+1:Nat)):=by
      unfold zB7;dsimp only;rw [zAs (z:=64-(k5:Int)) (by omega) (by omega),zAs (by omega) (by omega)]
     rw [if_pos trivial,hbe,zAh]
     by_cases hg:k5+(k6+1)>64
     ·rw [if_pos hg,if_pos (decide_eq_true (by omega))]
      obtain ⟨d,rd,x,h⟩:=zVg (x0:=⟨(n:Int),last,zPk w⟩) (c1:=k5) (s:=k6+1) (by omega) hL (show a+1+1+5+6≤L.length by omega) (e:=3) (by decide);unfold tl2 at h;simp only [zB2] at h;rw [hbe] at h;exact ⟨d,rd,x,h,λh=>by simp [erX] at h⟩
     ·rw [if_neg hg,if_neg (by rw [decide_eq_false (by omega)];decide)]
      have t:=zg3 (n:=n) (last:=last) (u:=⟨k5,k6+1⟩) hw (show k5+(k6+1)≤64 by omega) (by simp) hL (show a+1+1+5+6≤L.length by omega);unfold tl2 at t;simp only [zB2] at t;rw [hbe] at t;dsimp only at t ⊢
      by_cases hq:L.length-a-13<k6+1
      ·rw [if_neg (by omega)] at t
       rw [if_pos hq];exact ⟨_,_,_,t,λh=>by simp [erX] at h⟩
      ·rw [if_pos (by omega)] at t
       rw [if_neg hq]
       by_cases hz:plc ⟨k5,k6+1⟩ ((L.drop (a+1+1+5+6)).take (k6+1))=0∨arW (plc ⟨k5,k6+1⟩ ((L.drop (a+1+1+5+6)).take (k6+1)))≠⟨k5,k6+1⟩∨(0<w.s∧inW w.a w.s (plc ⟨k5,k6+1⟩ ((L.drop (a+1+1+5+6)).take (k6+1))))
       ·rw [if_pos hz] at t
        rw [if_pos hz];exact ⟨_,_,_,t,λh=>by simp [erX] at h⟩
       ·rw [if_neg hz] at t
        rw [if_neg hz];refine ⟨_,_,_,t,λ_=>⟨rfl,?_,rfl,show a+(13+(k6+1))≤L.length by omega⟩⟩;show RdO L _=RdO L (a+(13+(k6+1)))
        congr 1;omega
end Go.Proofs.YthjhejgjcdajdaaGreatDoor
set_option maxRecDepth 20000
set_option linter.unusedVariables false
set_option linter.unusedSimpArgs false
namespace Go.Proofs.YthjhejgjcdajdaaGreatDoor
open Go Go.RowKit Go.Wk
theorem zdq {n:Nat} {last:UInt64} {w:zNe} (hw:w.ok) (hz:n=0→last=0) (hn:n≤1000000000) {L:List Bool} {a:Nat} (hL:L.length≤8000000000) (ha:a≤L.length) :
 zL4 ⟨(n:Int),last,zPk w⟩ (RdO L a)=some (if (zV4 n last w (L.drop a)).E=0 then ((zV4 n last w (L.drop a)).V,0,RdO L (a+(zV4 n last w (L.drop a)).N),⟨((n+1:Nat):Int),(zV4 n last w (L.drop a)).V,zPk (zV4 n last w (L.drop a)).w⟩) else (0,((zV4 n last w (L.drop a)).E:Int),RdO L a,⟨(n:Int),last,zPk w⟩)):=by
 have hW:W64 ((n:Int)+1)=((n+1:Nat):Int):=by rw [zAs (by omega) (by omega)];omega
 unfold zL4 zC;simp only [zB2]
 by_cases h0:n=0
 ·subst h0
  rw [hz rfl];have t:=zJc (n:=64) 0 hL ha (by omega)
  have hl:(L.drop a).length=L.length-a:=by simp
  have t':zHq ⟨((0:Nat):Int),0,zPk w⟩ (RdO L a) 0=some (if a+64≤L.length then (UInt64.ofNat (numB ((L.drop a).take 64)),RdO L (a+64),⟨((0:Nat):Int),0,zPk w⟩,0) else (0,RdO L a,⟨((0:Nat):Int),0,zPk w⟩,2)):=by
   unfold zHq;rw [if_pos (by rfl),show zD4 (RdO L a) 0 64=_ from t,zAh]
   by_cases h:a+64≤L.length
   ·rw [if_pos h,if_pos h]
   ·rw [if_neg h,if_neg h];rfl
  unfold zV4;rw [if_pos rfl,hl,t',zAh]
  by_cases h:a+64≤L.length
  ·rw [if_pos h,if_neg (show ¬L.length-a<64 by omega)]
   dsimp only;have sk:=zQd (a:=a) (n:=64) hL h;rw [if_neg (by simp),zAh,zAh,show W64 (((a+64:Nat):Int)-(a:Int))=((64:Nat):Int) by rw [zAs (by omega) (by omega)];omega,sk,zAh,if_pos rfl]
   have ex:(0:UInt64)^^^UInt64.ofNat (numB ((L.drop a).take 64))=UInt64.ofNat (numB ((L.drop a).take 64)):=by simp
   rw [ex];rfl
  ·rw [if_neg h,if_pos (show L.length-a<64 by omega)]
   dsimp only;rw [if_pos (by decide)];rfl
 ·obtain ⟨d,rd,x,h,hk⟩:=zdu (last:=last) hw hL ha h0
  generalize zV4 n last w (L.drop a)=g at *;rw [h,zAh]
  by_cases he:g.E=0
  ·obtain ⟨e1,e2,e3,e4⟩:=hk he
   have sk:=zQd (a:=a) (n:=g.N) hL e4;rw [if_neg (by simp [he]),if_pos he,zAh,zAh];dsimp only;rw [e2,e3];dsimp only;rw [e1,show W64 (((a+g.N:Nat):Int)-(a:Int))=((g.N:Nat):Int) by rw [zAs (by omega) (by omega)];omega,sk,zAh,hW]
  ·rw [if_pos (by dsimp only;omega),if_neg he]
end Go.Proofs.YthjhejgjcdajdaaGreatDoor
set_option maxRecDepth 20000
set_option linter.unusedVariables false
set_option linter.unusedSimpArgs false
namespace Go.Proofs.YthjhejgjcdajdaaGreatDoor
open Go Go.RowKit Go.Wk
theorem zTe (a v:UInt64):a^^^(v^^^a)=v:=by
 rw [UInt64.xor_comm v a,← UInt64.xor_assoc,UInt64.xor_self,UInt64.zero_xor]
theorem zZq {n:Nat} {last v:UInt64} {w:zNe} (hw:w.ok) (rest:List Bool) :
 zV4 n last w ((xB n last v w).1++rest)=⟨v,(xB n last v w).1.length,0,(xB n last v w).2⟩:=by
 have hws:w.a+w.s≤64:=by rcases hw with h | h<;>omega
 have hd:=(v^^^last).toNat_lt
 have pl:∀ (u:zNe) (x:Nat),inW u.a u.s x→u.a+u.s≤64→plc u (zG7 (x/2^(64-u.a-u.s)) u.s)=x:=by
  intro u x hi h;unfold plc;rw [zJy (zZn hi h)];exact Nat.div_mul_cancel (Nat.dvd_of_mod_eq_zero hi.2)
 unfold xB zV4
 by_cases h0:n=0
 ·rw [if_pos h0,if_pos h0]
  dsimp only;rw [if_neg (by rw [List.length_append,zAt];omega),List.take_left' (zAt _ _),zJy (by have:=v.toNat_lt;omega),zAt,UInt64.ofNat_toNat]
 rw [if_neg h0,if_neg h0]
 by_cases h1:(v^^^last).toNat=0
 ·have hv:last=v:=by
   have:v^^^last=0:=UInt64.toNat_inj.1 h1;have e:=zTe last v;rw [this,UInt64.xor_zero] at e;exact e
  rw [if_pos h1];dsimp only;rw [if_neg (by simp),if_pos (by rfl),hv];rfl
 rw [if_neg h1]
 by_cases h2:0<w.s∧inW w.a w.s (v^^^last).toNat
 ·rw [if_pos h2]
  dsimp only
  have e1:(([true,false]++zG7 ((v^^^last).toNat/2^(64-w.a-w.s)) w.s++rest).drop 2).take w.s=zG7 ((v^^^last).toNat/2^(64-w.a-w.s)) w.s:=by
   rw [List.append_assoc,List.drop_left' (by rfl),List.take_left' (zAt _ _)]
  rw [if_neg (by simp),if_neg (by simp),if_neg (by simp),if_pos (by rfl),if_neg (by omega),if_neg (by simp [zAt]),e1,pl w _ h2.2 hws,if_neg h1,UInt64.ofNat_toNat,zTe];simp [zAt];omega
 ·obtain ⟨ha,hs,has,hin⟩:=zV9 h1 (by omega)
  rw [if_neg h2];dsimp only;generalize hu:arW (v^^^last).toNat=u at *;generalize hB:zG7 ((v^^^last).toNat/2^(64-u.a-u.s)) u.s=B at *
  have lB:B.length=u.s:=by rw [← hB,zAt]
  generalize hX:[true,true]++(zG7 u.a 5++(zG7 (u.s-1) 6++B))++rest=X
  have hX':X=[true,true]++(zG7 u.a 5++(zG7 (u.s-1) 6++(B++rest))):=by rw [← hX];simp only [List.append_assoc]
  have d2:X.drop 2=zG7 u.a 5++(zG7 (u.s-1) 6++(B++rest)):=by rw [hX',List.drop_left' (by rfl)]
  have d7:X.drop 7=zG7 (u.s-1) 6++(B++rest):=by
   rw [show (7:Nat)=2+5 by rfl,← List.drop_drop,d2,List.drop_left' (zAt _ _)]
  have d13:X.drop 13=B++rest:=by
   rw [show (13:Nat)=7+6 by rfl,← List.drop_drop,d7,List.drop_left' (zAt _ _)]
  have hnw:nwW X=u:=by
   unfold nwW;rw [d2,d7,List.take_left' (zAt _ _),List.take_left' (zAt _ _),zJy (by omega),zJy (by omega)]
   cases u;simp only at *;congr 1;omega
  have lX:X.length=13+u.s+rest.length:=by rw [hX'];simp [zAt,lB];omega
  have g0:X.head?=some true:=by rw [hX'];rfl
  have g1:X[1]?=some true:=by rw [hX'];rfl
  rw [if_neg (by omega),g0,if_neg (by simp),if_neg (by omega),g1,if_neg (by simp),if_neg (by omega),hnw,if_neg (by omega),if_neg (by omega),d13,List.take_left' lB,← hB,pl u _ hin has,if_neg (by
   rintro (h|h|h)
   ·exact h1 h
   ·exact h hu
   ·exact h2 h),UInt64.ofNat_toNat,zTe]
  simp [zAt];omega
end Go.Proofs.YthjhejgjcdajdaaGreatDoor
set_option maxRecDepth 20000
set_option linter.unusedVariables false
set_option linter.unusedSimpArgs false
namespace Go.Proofs.YthjhejgjcdajdaaGreatDoor
open Go Go.RowKit Go.Wk
def zUk (l:List UInt64):Nat:=(l.map UInt64.toNat).sum
theorem zUj (x:UInt64) (l:List UInt64):zUk (x::l)=x.toNat+zUk l:=by simp [zUk]
theorem zeg (a b:UInt64):a|||b=0↔a=0∧b=0:=by
 constructor
 ·intro h
  have h1:(a|||b).toNat=0:=by rw [h];rfl
  rw [UInt64.toNat_or] at h1;have:=Nat.or_eq_zero_iff.1 h1;exact ⟨UInt64.toNat_inj.1 this.1,UInt64.toNat_inj.1 this.2⟩
 ·rintro ⟨rfl,rfl⟩;rfl
theorem zWd (l:List UInt64):∀ (a b:UInt64),((l.foldl (λ(s:UInt64×UInt64) x=>(s.1+x,s.2|||cry s.1 x)) (a,b)).1.toNat=(a.toNat+zUk l)%2^64) ∧
 ((l.foldl (λ(s:UInt64×UInt64) x=>(s.1+x,s.2|||cry s.1 x)) (a,b)).2=0↔b=0∧a.toNat+zUk l<2^64):=by
 induction l with
 | nil=>intro a b;have:=a.toNat_lt;simp [zUk];omega
 | cons x l ih=>
  intro a b;have ha:=a.toNat_lt;have hx:=x.toNat_lt;obtain ⟨h1,h2⟩:=ih (a+x) (b|||cry a x);rw [List.foldl_cons];dsimp only;rw [h1,h2,zeg,zUj];have e:(a+x).toNat=(a.toNat+x.toNat)%2^64:=UInt64.toNat_add a x
  constructor
  ·rw [e];omega
  ·unfold cry
   by_cases hc:18446744073709551616≤a.toNat+x.toNat
   ·rw [if_pos hc]
    constructor
    ·rintro ⟨⟨_,h⟩,_⟩;exact absurd h (by decide)
    ·rintro ⟨_,h⟩;omega
   ·rw [if_neg hc,e]
    constructor
    ·rintro ⟨⟨h,_⟩,k⟩;exact ⟨h,by omega⟩
    ·rintro ⟨h,k⟩;exact ⟨⟨h,rfl⟩,by omega⟩
def zdv (h:zA2):Nat:=h.Zero.toNat+zUk h.Pos.Counts+zUk h.Neg.Counts
def zfo (h:zA2):UInt64×Bool:=if zdv h<2^64 then (UInt64.ofNat (zdv h),true) else (0,false)
theorem zcn (h:zA2) (h1:h.Pos.Counts.length≤1000000) (h2:h.Neg.Counts.length≤1000000):zMl h=some (zfo h):=by
 have hL2:∀ (z:zAa) (j:UInt64→UInt64→Option (UInt64×Bool)) (a b:UInt64),z.Counts.length≤1000000→zFb z j fuel a b 0=j (z.Counts.foldl (λ(s:UInt64×UInt64) x=>(s.1+x,s.2|||cry s.1 x)) (a,b)).1 (z.Counts.foldl (λ(s:UInt64×UInt64) x=>(s.1+x,s.2|||cry s.1 x)) (a,b)).2:=by
  intro z j a b h;rw [zP8 _ _ _ _ (by omega),zXk (λ(s:UInt64×UInt64) x=>(s.1+x,s.2|||cry s.1 x)) (λi x s k _=>by rw [zAh])]
 unfold zMl zKq;rw [zAh,zB2];obtain ⟨m,hm⟩:=zJs 3 (by omega)
 rw [show zDq { a0:=h.Pos,a1:=h.Neg } _ fuel _ _ _=zDq { a0:=h.Pos,a1:=h.Neg } _ (m+3) _ _ _ by rw [← hm],zDq,if_pos (by omega),show idx [h.Pos,h.Neg] 0=some h.Pos from rfl,zAh,zB2,hL2 _ _ _ _ h1,zAs (by omega) (by omega),show (0:Int)+1=1 from rfl,
  zDq,if_pos (by omega),show idx [h.Pos,h.Neg] 1=some h.Neg from rfl,zAh,zB2,hL2 _ _ _ _ h2,zAs (by omega) (by omega),show (1:Int)+1=2 from rfl,zDq,if_neg (by omega)]
 obtain ⟨p1,p2⟩:=zWd h.Pos.Counts h.Zero 0;generalize h.Pos.Counts.foldl (λ(s:UInt64×UInt64) x=>(s.1+x,s.2|||cry s.1 x)) (h.Zero,0)=P at *;obtain ⟨q1,q2⟩:=zWd h.Neg.Counts P.1 P.2;generalize h.Neg.Counts.foldl (λ(s:UInt64×UInt64) x=>(s.1+x,s.2|||cry s.1 x)) (P.1,P.2)=Q at *;unfold zfo zdv
 by_cases hq:Q.2=0
 ·obtain ⟨a1,a2⟩:=q2.1 hq
  obtain ⟨_,a3⟩:=p2.1 a1;rw [if_neg (by rw [hq];decide),if_pos (by omega)]
  have:Q.1=UInt64.ofNat (h.Zero.toNat+zUk h.Pos.Counts+zUk h.Neg.Counts):=by
   apply UInt64.toNat_inj.1
   rw [q1,zBi (by omega)];omega
  rw [this]
 ·have hq':Q.2.toNat≠0:=λh=>hq (UInt64.toNat_inj.1 h)
  rw [if_pos (by omega),if_neg];intro h
  apply hq
  rw [q2];exact ⟨p2.2 ⟨rfl,by omega⟩,by omega⟩
theorem zYt (y:UInt64) (l:List UInt64) (hl:l.length≤1000000):zF7 y l=some (if y.toNat+zUk l<2^64 then (UInt64.ofNat (y.toNat+zUk l),true) else (0,false)):=by
 unfold zF7;rw [zB2,zL0 _ _ _ (by omega),zMy (λ_ (q:List UInt64) (y:UInt64)=>some (if y.toNat+zUk q<2^64 then (UInt64.ofNat (y.toNat+zUk q),true) else (0,false)))]
 ·intro s
  have:=s.toNat_lt;rw [if_pos (by simp [zUk];omega)];simp [zUk]
 ·intro p x q s k _ hk
  have hs:=s.toNat_lt;have hx:=x.toNat_lt
  have e:((18446744073709551615:UInt64)-s).toNat=18446744073709551615-s.toNat:=by
   rw [UInt64.toNat_sub_of_le _ _ (by rw [UInt64.le_iff_toNat_le];show s.toNat≤18446744073709551615;omega)];rfl
  rw [zAh,zAh,e,zUj]
  by_cases hc:(x.toNat:Int)>((18446744073709551615-s.toNat:Nat):Int)
  ·rw [if_pos hc,if_neg (by omega)]
  ·rw [if_neg hc,hk,show (s+x).toNat=s.toNat+x.toNat by rw [UInt64.toNat_add];omega,Nat.add_assoc]
theorem zZ0 (h:zA2) (h1:h.Pos.Counts.length≤1000000) (h2:h.Neg.Counts.length≤1000000):zFu h=some (zfo h):=by
 unfold zFu zfo zdv;rw [zYt _ _ h1,zAh]
 by_cases hp:h.Zero.toNat+zUk h.Pos.Counts<2^64
 ·rw [if_pos hp,if_neg (by simp),zYt _ _ h2,zAh,zBi hp]
 ·rw [if_neg hp,if_pos (by simp),if_neg (by omega)]
def sdE (s:zAa):Int:=
 if s.Counts.length>160 then 4
 else if s.Counts=[] then (if s.Offset≠0 then 3 else 0)
 else if s.Counts.headD 0=0∨s.Counts.getLastD 0=0 then 3
 else if s.Offset < -1073741824∨s.Offset+s.Counts.length-1>1073741824 then 1 else 0
theorem zUg (x:UInt64):((x.toNat:Nat):Int)=0↔x=0:=by
 constructor
 ·intro h;apply UInt64.toNat_inj.1;show x.toNat=0;omega
 ·rintro rfl;rfl
theorem ends {l:List UInt64} (h:l≠[]) (hl:l.length≤1000000):idx l 0=some (l.headD 0)∧idx l (W64 ((l.length:Int)-1))=some (l.getLastD 0):=by
 have h0:0<l.length:=List.length_pos_iff.2 h
 constructor
 ·cases l with
  | nil=>exact absurd rfl h
  | cons a t=>rfl
 ·rw [zAs (by omega) (by omega),show (l.length:Int)-1=((l.length-1:Nat):Int) by omega,zNr,← List.getLast?_eq_getElem?,List.getLast?_eq_some_getLast h]
  cases l with
  | nil=>exact absurd rfl h
  | cons a t=>rw [List.getLastD_cons,List.getLast_eq_getLastD]
theorem zUn (s:zAa):zMk s=some (sdE s):=by
 unfold zMk sdE
 by_cases h1:s.Counts.length>160
 ·rw [if_pos (by omega),if_pos h1]
 rw [if_neg (by omega),if_neg h1]
 by_cases h2:s.Counts=[]
 ·rw [if_pos h2,h2]
  by_cases h3:s.Offset≠0
  ·rw [if_pos ⟨rfl,h3⟩,if_pos h3]
  ·rw [if_neg (λh=>h3 h.2),if_pos (by rfl),if_neg h3]
 have h0:0<s.Counts.length:=List.length_pos_iff.2 h2;obtain ⟨e1,e2⟩:=ends h2 (by omega);rw [if_neg (by omega),if_neg (by omega),if_neg h2,e1,zAh];simp only [zB2]
 by_cases h3:s.Counts.headD 0=0
 ·rw [if_pos ((zUg _).2 h3),if_pos (by trivial),if_pos (Or.inl h3)]
 rw [if_neg (λh=>h3 ((zUg _).1 h)),e2,zAh]
 by_cases h4:s.Counts.getLastD 0=0
 ·rw [if_pos (decide_eq_true ((zUg _).2 h4)),if_pos (Or.inr h4)]
 rw [if_neg (by rw [decide_eq_false (λh=>h4 ((zUg _).1 h))];decide),if_neg (show ¬(s.Counts.headD 0=0∨s.Counts.getLastD 0=0) from λh=>h.elim h3 h4),zAs (z:=(s.Counts.length:Int)-1) (by omega) (by omega),zAs (by omega) (by omega)]
 by_cases h5:s.Offset < -1073741824
 ·rw [if_pos h5,if_pos (by trivial),if_pos (Or.inl h5)]
 rw [if_neg h5]
 by_cases h6:s.Offset>1073741824-((s.Counts.length:Int)-1)
 ·rw [if_pos (decide_eq_true h6),if_pos (by omega)]
 ·rw [if_neg (by rw [decide_eq_false h6];decide),if_neg (by omega)]
theorem zUp (s:zAa):zEp s=some (sdE s):=by
 unfold zEp sdE
 by_cases h1:s.Counts.length>160
 ·rw [if_pos (by omega),if_pos h1]
 rw [if_neg (by omega),if_neg h1]
 by_cases h2:s.Counts=[]
 ·rw [if_pos h2,h2,if_pos (by rfl)]
  by_cases h3:s.Offset≠0
  ·rw [if_pos h3,if_pos h3]
  ·rw [if_neg h3,if_neg h3]
 have h0:0<s.Counts.length:=List.length_pos_iff.2 h2;obtain ⟨e1,e2⟩:=ends h2 (by omega);rw [if_neg (by omega),if_neg h2,e1,zAh];simp only [zB2]
 by_cases h3:s.Counts.headD 0=0
 ·rw [if_pos ((zUg _).2 h3),if_pos (by trivial),if_pos (Or.inl h3)]
 rw [if_neg (λh=>h3 ((zUg _).1 h)),e2,zAh]
 by_cases h4:s.Counts.getLastD 0=0
 ·rw [if_pos (decide_eq_true ((zUg _).2 h4)),if_pos (Or.inr h4)]
 rw [if_neg (by rw [decide_eq_false (λh=>h4 ((zUg _).1 h))];decide),if_neg (show ¬(s.Counts.headD 0=0∨s.Counts.getLastD 0=0) from λh=>h.elim h3 h4)]
 by_cases h5:s.Offset < -1073741824∨s.Offset>1073741824
 ·rw [if_pos h5,if_pos (by trivial),if_pos (by omega)]
 rw [if_neg h5,zAs (z:=s.Offset+(s.Counts.length:Int)) (by omega) (by omega),zAs (by omega) (by omega)]
 by_cases h6:s.Offset+(s.Counts.length:Int)-1>1073741824
 ·rw [if_pos (decide_eq_true h6),if_pos (Or.inr h6)]
 ·rw [if_neg (by rw [decide_eq_false h6];decide),if_neg (by omega)]
def hcE (h:zA2):Int:=
 if h.Scale < -10∨h.Scale>20 then 1 else if sdE h.Pos≠0 then sdE h.Pos else if sdE h.Neg≠0 then sdE h.Neg else if zdv h<2^64 then 0 else 4
theorem zae (h:zA2) (h1:h.Pos.Counts.length≤1000000) (h2:h.Neg.Counts.length≤1000000):zFv h=some (hcE h):=by
 unfold zFv hcE
 by_cases hs:h.Scale < -10∨h.Scale>20
 ·rw [if_pos hs,if_pos hs]
 rw [if_neg hs,if_neg hs,zUp,zAh]
 by_cases c1:sdE h.Pos≠0
 ·rw [if_pos c1,if_pos c1]
 rw [if_neg c1,if_neg c1,zUp,zAh]
 by_cases c2:sdE h.Neg≠0
 ·rw [if_pos c2,if_pos c2]
 rw [if_neg c2,if_neg c2,zZ0 h h1 h2,zAh];unfold zfo
 by_cases ht:zdv h<2^64
 ·rw [if_pos ht,if_pos ht,if_neg (by simp)]
 ·rw [if_neg ht,if_neg ht,if_pos (by simp)]
theorem zM0 (h:zA2) (h1:h.Pos.Counts.length≤1000000) (h2:h.Neg.Counts.length≤1000000):zHd h=some (hcE h):=by
 unfold zHd zKq hcE
 by_cases hs:h.Scale < -10∨h.Scale>20
 ·rw [if_pos hs,if_pos hs]
 rw [if_neg hs,if_neg hs,zAh,zB2];obtain ⟨m,hm⟩:=zJs 3 (by omega);rw [hm,zFc,if_pos (by omega),show idx [h.Pos,h.Neg] 0=some h.Pos from rfl,zAh,zUn,zAh]
 by_cases c1:sdE h.Pos≠0
 ·rw [if_pos c1,if_pos c1]
 rw [if_neg c1,if_neg c1,zAs (by omega) (by omega),show (0:Int)+1=1 from rfl,zFc,if_pos (by omega),show idx [h.Pos,h.Neg] 1=some h.Neg from rfl,zAh,zUn,zAh]
 by_cases c2:sdE h.Neg≠0
 ·rw [if_pos c2,if_pos c2]
 rw [if_neg c2,if_neg c2,zAs (by omega) (by omega),show (1:Int)+1=2 from rfl,zFc,if_neg (by omega),zcn h h1 h2,zAh];unfold zfo
 by_cases ht:zdv h<2^64
 ·rw [if_pos ht,if_pos ht,if_neg (by simp)]
 ·rw [if_neg ht,if_neg ht,if_pos (by simp)]
end Go.Proofs.YthjhejgjcdajdaaGreatDoor
set_option maxRecDepth 20000
set_option linter.unusedVariables false
set_option linter.unusedSimpArgs false
namespace Go.Proofs.YthjhejgjcdajdaaGreatDoor
open Go Go.RowKit Go.Wk
def zQ8 (a b:zA2):Prop:=a.Scale=b.Scale∧a.Pos.Offset=b.Pos.Offset∧a.Neg.Offset=b.Neg.Offset∧a.Pos.Counts.length=b.Pos.Counts.length∧a.Neg.Counts.length=b.Neg.Counts.length
instance (a b:zA2):Decidable (zQ8 a b):=by unfold zQ8;exact inferInstance
def zMo (h:zA2):List UInt64:=h.Zero::(h.Pos.Counts++h.Neg.Counts)
theorem zJp (h:zA2):(zMo h).length=1+h.Pos.Counts.length+h.Neg.Counts.length:=by simp [zMo];omega
def smS (l:List UInt64):List Bool:=l.flatMap λc=>smB c.toNat
theorem zTm (c:UInt64) (l:List UInt64):smS (c::l)=smB c.toNat++smS l:=rfl
theorem zYj (l:List UInt64):(smS l).length≤66*l.length:=by
 induction l with
 | nil=>simp [smS]
 | cons c l ih=>have:=zMv c.toNat;rw [zTm,List.length_append,List.length_cons];omega
theorem zWi (l:List UInt64) (c:UInt64):smS (l++[c])=smS l++smB c.toNat:=by simp [smS]
def dfS (l m:List UInt64):List Bool:=(l.zip m).flatMap λc=>smB (zig (sI (c.1-c.2))).toNat
theorem zZv (l m:List UInt64):(dfS l m).length≤66*l.length:=by
 induction l generalizing m with
 | nil=>simp [dfS]
 | cons a l ih=>
  cases m with
  | nil=>simp [dfS]
  | cons b m=>
   have h1:=zMv (zig (sI (a-b))).toNat;have h2:=ih m;have e:dfS (a::l) (b::m)=smB (zig (sI (a-b))).toNat++dfS l m:=rfl;rw [e,List.length_append,List.length_cons];omega
theorem zX8 {l m:List UInt64} (a b:UInt64) (h:l.length=m.length):dfS (l++[a]) (m++[b])=dfS l m++smB (zig (sI (a-b))).toNat:=by
 unfold dfS;rw [List.zip_append h,List.flatMap_append];simp
theorem zOc {α S R:Type} {l:List α} {B:Nat→α→S→(S→Option R)→Option R} {J:S→Option R} (st:List α→S)
 (h:∀ p x q k,p++x::q=l→B p.length x (st p) k=k (st (p++[x]))):zIo l (st []) B J=J (st l):=
 zMz (λp s=>s=st p) (λ_ _ _=>J (st l)) rfl (λs e=>by rw [e]) λp x q s k hp e hk=>by rw [e,h p x q k hp];exact hk _ rfl
def shB (s:zAa):List Bool:=zG7 s.Counts.length 8++if s.Counts.length>0 then smB (zig s.Offset).toNat else []
theorem zT5 (s:zAa):(shB s).length≤74:=by
 have:=zMv (zig s.Offset).toNat;unfold shB;rw [List.length_append,zAt];split
 ·omega
 ·simp
def zSc (h:zA2):List Bool:=false::(zG7 (h.Scale+10).toNat 5++(shB h.Pos++(shB h.Neg++smS (zMo h))))
def hB (n:Nat) (last h:zA2):List Bool:=if 0<n∧zQ8 last h then true::dfS (zMo h) (zMo last) else zSc h
structure HOk (h:zA2):Prop where
 p:h.Pos.Counts.length≤160
 n:h.Neg.Counts.length≤160
 s0:-10≤h.Scale
 s1:h.Scale≤20
 op:okI h.Pos.Offset
 on:okI h.Neg.Offset
theorem zd0 {s:zAa} (h:sdE s=0):s.Counts.length≤160∧okI s.Offset:=by
 unfold sdE at h
 by_cases h1:s.Counts.length>160
 ·rw [if_pos h1] at h;exact absurd h (by decide)
 rw [if_neg h1] at h;refine ⟨by omega,?_⟩;unfold okI
 by_cases h2:s.Counts=[]
 ·rw [if_pos h2] at h
  by_cases h3:s.Offset≠0
  ·rw [if_pos h3] at h;exact absurd h (by decide)
  ·omega
 rw [if_neg h2] at h
 by_cases h3:s.Counts.headD 0=0∨s.Counts.getLastD 0=0
 ·rw [if_pos h3] at h;exact absurd h (by decide)
 rw [if_neg h3] at h
 by_cases h4:s.Offset < -1073741824∨s.Offset+s.Counts.length-1>1073741824
 ·rw [if_pos h4] at h;exact absurd h (by decide)
 omega
theorem zQ3 {h:zA2} (e:hcE h=0):HOk h:=by
 unfold hcE at e
 by_cases hs:h.Scale < -10∨h.Scale>20
 ·rw [if_pos hs] at e;exact absurd e (by decide)
 rw [if_neg hs] at e
 by_cases c1:sdE h.Pos≠0
 ·rw [if_pos c1] at e;exact absurd e c1
 rw [if_neg c1] at e
 by_cases c2:sdE h.Neg≠0
 ·rw [if_pos c2] at e;exact absurd e c2
 have a:=zd0 (Classical.not_not.1 c1);have b:=zd0 (Classical.not_not.1 c2);exact ⟨a.1,b.1,by omega,by omega,a.2,b.2⟩
theorem zgu {n:Nat} {last h:zA2} (ok:HOk h):(hB n last h).length≤30000∧0<(hB n last h).length:=by
 have h1:=zJp h;have:=ok.p;have:=ok.n;unfold hB zSc
 split
 ·have:=zZv (zMo h) (zMo last)
  simp only [List.length_cons];omega
 ·have:=zYj (zMo h)
  have:=zT5 h.Pos;have:=zT5 h.Neg;simp only [List.length_cons,List.length_append,zAt];omega
theorem zQ2 (h:zA2) (h1:h.Pos.Counts.length≤1000000) (h2:h.Neg.Counts.length≤1000000):zE1 h=some h:=by
 unfold zE1 zDb;simp only [zB6 (show ([]:List UInt64).length+h.Pos.Counts.length≤1073741824 by simp;omega),zB6 (show ([]:List UInt64).length+h.Neg.Counts.length≤1073741824 by simp;omega),zAh,List.nil_append]
theorem zQ6 (h:zA2) (h1:h.Pos.Counts.length≤1000000) (h2:h.Neg.Counts.length≤1000000):zD5 h=some (zMo h):=by
 unfold zD5;rw [zB6 (by simp;omega),zAh,zB6 (by simp;omega),zAh];rfl
theorem za7 (h:zA2) (h1:h.Pos.Counts.length≤1000000) (h2:h.Neg.Counts.length≤1000000):zDf h=some (zMo h):=by
 unfold zDf;rw [zB6 (by simp;omega),zAh,zB6 (by simp;omega),zAh];rfl
theorem zcr (a b:zA2):zFt a b=some (decide (zQ8 a b)):=by
 unfold zFt zQ8
 congr 1
 apply decide_eq_decide.2
 constructor
 ·rintro ⟨⟨⟨⟨h1,h2⟩,h3⟩,h4⟩,h5⟩;exact ⟨h1,h2,h3,by omega,by omega⟩
 ·rintro ⟨h1,h2,h3,h4,h5⟩;exact ⟨⟨⟨⟨h1,h2⟩,h3⟩,by omega⟩,by omega⟩
theorem zbm (a b:zA2):((⟨a.Scale,a.Pos.Offset,(a.Pos.Counts.length:Int),a.Neg.Offset,(a.Neg.Counts.length:Int)⟩:zFn)=⟨b.Scale,b.Pos.Offset,(b.Pos.Counts.length:Int),b.Neg.Offset,(b.Neg.Counts.length:Int)⟩)↔zQ8 b a:=by
 unfold zQ8;simp only [zFn.mk.injEq]
 constructor
 ·rintro ⟨h1,h2,h3,h4,h5⟩;exact ⟨h1.symm,h2.symm,h4.symm,by omega,by omega⟩
 ·rintro ⟨h1,h2,h3,h4,h5⟩;exact ⟨h1.symm,h2.symm,by omega,h3.symm,by omega⟩
theorem zbd (l:List UInt64) (hl:l.length≤1000) (j:zA3→Option (Int×zA4×zA3)) {M:List Bool} (hM:M.length≤6500000000) :
 zCc l j fuel 0 (WrO M)=j (WrO (M++smS l)):=by
 have:=zOc (l:=l) (B:=λii xx ss kk=>(some xx).bind λz90=>(zIa ss z90).bind λp91=>kk p91) (J:=j) (λp=>WrO (M++smS p)) (by
  intro p x q k hp;have hp':=congrArg List.length hp;simp at hp';have:=zYj p
  rw [zAh,zVe _ (by simp;omega),zAh,zWi,List.append_assoc])
 rw [zMc _ _ _ (by omega)];simpa [smS] using this
theorem zZ2 (l m:List UInt64) (hlm:l.length=m.length) (hl:l.length≤1000) (j:zA3→Option (Int×zA4×zA3)) {M:List Bool} (hM:M.length≤6500000000) :
 zCd m l j fuel 0 (WrO M)=j (WrO (M++dfS l m)):=by
 have:=zOc (l:=l) (B:=λii xx ss kk=>(some xx).bind λz59=>(idx m (ii:Int)).bind λz60=>(zF0 ss (W64 ((z59-z60).toNat:Int))).bind λp61=>kk p61) (J:=j) (λp=>WrO (M++dfS p (m.take p.length))) (by
  intro p x q k hp;have hp':=congrArg List.length hp;simp at hp';have:=zZv p (m.take p.length)
  have hi:p.length<m.length:=by omega
  rw [zAh,zSb hi,zAh,zUo,zOp (zVj _) (by simp;omega),zAh,List.length_append,List.length_singleton,← List.take_append_getElem hi,zX8 _ _ (by simp;omega),List.append_assoc])
 rw [zMd _ _ _ _ (by omega)];have e:m.take l.length=m:=List.take_of_length_le (by omega);simpa [dfS,e] using this
theorem zWt {M:List Bool} {s:zAa} (h:s.Counts.length≤160) (ho:okI s.Offset) (hM:M.length≤6500000000) (j:zA3→Option (Int×zA4×zA3)) :
 ((zAk (WrO M) (zAf (s.Counts.length:Int)) 8).bind λp110=>if (s.Counts.length:Int)>0 then (zF0 p110.2 s.Offset).bind λp115=>j p115 else j p110.2)=j (WrO (M++shB s)):=by
 have hp:=zKh (M:=M) (v:=zAf (s.Counts.length:Int)) (n:=8) (by omega) (by omega) (by rw [zCk (by omega)];omega);rw [show zAk (WrO M) (zAf (s.Counts.length:Int)) 8=_ from hp,zAh,zCk (by omega)];unfold shB
 by_cases h0:s.Counts.length>0
 ·rw [if_pos (by omega),zOp ho (by simp [zAt];omega),zAh,if_pos h0,List.append_assoc]
 ·rw [if_neg (by omega),if_neg h0,List.append_nil]
theorem zev {n:Nat} {last h:zA2} {M:List Bool} (hn:n≤1000000000) (hM:M.length≤6000000000)
 (a1:h.Pos.Counts.length≤1000000) (a2:h.Neg.Counts.length≤1000000) (b1:last.Pos.Counts.length≤1000000) (b2:last.Neg.Counts.length≤1000000) :
 zFk ⟨(n:Int),last⟩ (WrO M) h=some (if hcE h=0 then (0,⟨((n+1:Nat):Int),h⟩,WrO (M++hB n last h)) else (hcE h,⟨(n:Int),last⟩,WrO M)):=by
 have hW:W64 ((n:Int)+1)=((n+1:Nat):Int):=by rw [zAs (by omega) (by omega)];omega
 unfold zFk hB;rw [zM0 h a1 a2,zAh]
 by_cases he:hcE h=0
 ·have ok:=zQ3 he
  have:=ok.p;have:=ok.n;have:=ok.s0;have:=ok.s1;have hl:=zJp h;rw [if_neg (λk=>k he),if_pos he];simp only [zB2]
  have fin:∀ (w:zA3),((zE1 h).bind λp27=>some ((0:Int),(⟨W64 ((n:Int)+1),p27⟩:zA4),w))=some (0,⟨((n+1:Nat):Int),h⟩,w):=by
   intro w;rw [zQ2 h a1 a2,zAh,hW]
  have dif:zQ8 last h→((zAk (WrO M) (1:UInt64) 1).bind λp36=>(zD5 last).bind λp43=>(zD5 h).bind λp46=>zCd p43 p46 (λy52=>(zE1 h).bind λp27=>some ((0:Int),(⟨W64 ((n:Int)+1),p27⟩:zA4),y52)) fuel 0 p36.2)=some (0,⟨((n+1:Nat):Int),h⟩,WrO (M++true::dfS (zMo h) (zMo last))):=by
   intro hal
   have hlen:(zMo h).length=(zMo last).length:=by rw [zJp,zJp,hal.2.2.2.1,hal.2.2.2.2]
   have hp:=zKh (M:=M) (v:=1) (n:=1) (by omega) (by omega) (by decide);rw [show zAk (WrO M) 1 1=_ from hp,zAh,zQ6 _ b1 b2,zAh,zQ6 _ a1 a2,zAh,zZ2 _ _ hlen (by omega) _ (by simp [zAt];omega),fin,List.append_assoc];rfl
  have ful:((zAk (WrO M) (0:UInt64) 1).bind λp65=>(zAk p65.2 (zAf (W64 (h.Scale-(-10)))) 5).bind λp69=>zBo h (λy77=>(zD5 h).bind λp79=>zCc p79 (λy83=>(zE1 h).bind λp27=>some ((0:Int),(⟨W64 ((n:Int)+1),p27⟩:zA4),y83)) fuel 0 y77) fuel 0 p69.2)=some (0,⟨((n+1:Nat):Int),h⟩,WrO (M++zSc h)):=by
   have e1:W64 (h.Scale-(-10))=(((h.Scale+10).toNat:Nat):Int):=by rw [zAs (by omega) (by omega)];omega
   have e2:(zAf (((h.Scale+10).toNat:Nat):Int)).toNat=(h.Scale+10).toNat:=zCk (by omega);have hp:=zKh (M:=M) (v:=0) (n:=1) (by omega) (by omega) (by decide);have hq:=zKh (M:=M++zG7 (0:UInt64).toNat 1) (v:=zAf (((h.Scale+10).toNat:Nat):Int)) (n:=5) (by simp [zAt];omega) (by omega) (by rw [e2];omega);have q1:=zT5 h.Pos;have q2:=zT5 h.Neg;obtain ⟨m,hm⟩:=zJs 3 (by omega)
   rw [show zAk (WrO M) 0 1=_ from hp,zAh,e1,show zAk (WrO (M++zG7 (0:UInt64).toNat 1)) _ 5=_ from hq,zAh,e2,
    show zBo h _ fuel _ _=zBo h _ (m+3) _ _ by rw [← hm],zBo,if_pos (by simp),zB2,show idx [h.Pos,h.Neg] 0=some h.Pos from rfl,zAh]
   rw [zWt ok.p ok.op (by simp [zAt];omega),show W64 ((0:Int)+1)=1 by decide,zBo,if_pos (by simp),zB2,show idx [h.Pos,h.Neg] 1=some h.Neg from rfl,zAh,
    zWt ok.n ok.on (by simp [zAt];omega),show W64 ((1:Int)+1)=2 by decide,zBo,if_neg (by simp),zQ6 _ a1 a2,zAh,zbd _ (by omega) _ (by simp [zAt];omega),fin]
   unfold zSc;simp only [List.append_assoc];rfl
  by_cases h0:0<n
  ·rw [if_pos (show (n:Int)>0 by omega)]
   unfold zHl;simp only [zAh]
   by_cases hal:zQ8 last h
   ·rw [if_pos (decide_eq_true ((zbm h last).2 hal)),if_pos ⟨h0,hal⟩];exact dif hal
   ·rw [if_neg (by rw [decide_eq_false (λk=>hal ((zbm h last).1 k))];decide),if_neg (λk=>hal k.2)];exact ful
  ·rw [if_neg (show ¬(n:Int)>0 by omega),if_neg (by decide),if_neg (λk=>h0 k.1)];exact ful
 ·rw [if_pos he,if_neg he]
end Go.Proofs.YthjhejgjcdajdaaGreatDoor
set_option maxRecDepth 20000
set_option linter.unusedVariables false
set_option linter.unusedSimpArgs false
namespace Go.Proofs.YthjhejgjcdajdaaGreatDoor
open Go Go.RowKit Go.Wk
abbrev h00:zA2:=⟨0,0,⟨0,[]⟩,⟨0,[]⟩⟩
def zO7 (L:List zA2):zA2:=L.getLastD h00
theorem zZj {L:List zA2} (h:L≠[]) (hl:L.length≤1000000):idx L (W64 ((L.length:Int)-1))=some (zO7 L):=by
 have h0:0<L.length:=List.length_pos_iff.2 h;rw [zAs (by omega) (by omega),show (L.length:Int)-1=((L.length-1:Nat):Int) by omega,zNr,← List.getLast?_eq_getElem?,List.getLast?_eq_some_getLast h,zO7]
 cases L with
 | nil=>exact absurd rfl h
 | cons a t=>rw [List.getLastD_cons,List.getLast_eq_getLastD]
theorem zd4 {v:Nat} {n:Nat} (hv:v<1000000) (hn:n≤64):zC3 (v:Int) (n:Int)=some (zs (zG7 v n)):=by
 unfold zC3;rw [zRt hn,zAh,zCk (by omega)]
theorem zd3 {s:zAa} (h:s.Counts.length≤160) (ho:okI s.Offset):zD s=some (zs (shB s)):=by
 unfold zD shB;rw [show zC3 (s.Counts.length:Int) 8=_ from zd4 (n:=8) (by omega) (by omega),zAh];simp only [zB2]
 by_cases h0:s.Counts.length>0
 ·have:=zMv (zig s.Offset).toNat
  rw [if_pos (by omega),if_pos h0,zXg ho,zAh,zP2,zAh,zB6 (by rw [zDv,zDv,zAt];omega),zAh,zJ6]
 ·rw [if_neg (by omega),if_neg h0,List.append_nil]
theorem zYv (l:List UInt64) (hl:l.length≤1000) (j:List Int→Option (List Int)) {M:List Bool} (hM:M.length≤1000000) :
 zBp l j fuel (zs M) 0=j (zs (M++smS l)):=by
 have:=zOc (l:=l) (B:=λii xx ss kk=>(some xx).bind λz83=>(zAv z83).bind λp84=>(zDu ss p84).bind λz87=>kk z87) (J:=j) (λp=>zs (M++smS p)) (by
  intro p x q k hp;have hp':=congrArg List.length hp;simp at hp';have h1:=zYj p;have h2:=zMv x.toNat
  rw [zAh,zP2,zAh,zB6 (by rw [zDv,zDv,List.length_append];omega),zAh,← zJ6,zWi,List.append_assoc])
 rw [zKz _ _ _ (by omega)];simpa [smS] using this
theorem zXl (l m:List UInt64) (hlm:l.length=m.length) (hl:l.length≤1000) (j:List Int→Option (List Int)) {M:List Bool} (hM:M.length≤1000000) :
 zC4 l m j fuel (zs M) 0=j (zs (M++dfS l m)):=by
 have:=zOc (l:=l) (B:=λii xx ss kk=>(some xx).bind λz43=>(idx m (ii:Int)).bind λz44=>(zBm (W64 ((z43-z44).toNat:Int))).bind λp45=>(zAv p45).bind λp47=>(zDu ss p47).bind λz50=>kk z50) (J:=j) (λp=>zs (M++dfS p (m.take p.length))) (by
  intro p x q k hp;have hp':=congrArg List.length hp;simp at hp';have h1:=zZv p (m.take p.length)
  have hi:p.length<m.length:=by omega
  have h2:=zMv (zig (sI (x-m[p.length]))).toNat
  rw [zAh,zSb hi,zAh,zUo,zXg (zVj _),zAh,zP2,zAh,zB6 (by rw [zDv,zDv,List.length_append];omega),zAh,← zJ6,List.length_append,List.length_singleton,← List.take_append_getElem hi,zX8 _ _ (by simp;omega),List.append_assoc])
 rw [zL _ _ _ _ (by omega)];have e:m.take l.length=m:=List.take_of_length_le (by omega);simpa [dfS,e] using this
theorem zYw {L:List zA2} {h:zA2} (hL:L.length≤1000000) (ok:HOk h) :
 zDx L h=some (zs (hB L.length (zO7 L) h)):=by
 have:=ok.p;have:=ok.n;have:=ok.s0;have:=ok.s1;have hl:=zJp h;unfold zDx hB
 have ful:((zC3 (W64 (h.Scale+10)) 5).bind λp55 =>
  (zDu ([0]:List Int) p55).bind λz58=>
  (zD h.Pos).bind λp60=>
  (zDu z58 p60).bind λz63=>
  (zD h.Neg).bind λp65=>
  (zDu z63 p65).bind λz68=>
  (zDf h).bind λp70=>
  zBp p70 (λy73=>some y73) fuel z68 0)=some (zs (zSc h)):=by
  have e1:W64 (h.Scale+10)=(((h.Scale+10).toNat:Nat):Int):=by rw [zAs (by omega) (by omega)];omega
  have q1:=zT5 h.Pos;have q2:=zT5 h.Neg
  rw [e1,show zC3 (((h.Scale+10).toNat:Nat):Int) 5=_ from zd4 (n:=5) (by omega) (by omega),zAh,show ([0]:List Int)=zs [false] by rfl,
   zB6 (by simp [zDv,zAt]),zAh,← zJ6,zd3 ok.p ok.op,zAh,zB6 (by rw [zDv,zDv];simp [zAt];omega),zAh,← zJ6,zd3 ok.n ok.on,zAh,
   zB6 (by rw [zDv,zDv];simp [zAt];omega),zAh,← zJ6,za7 h (by omega) (by omega),zAh,zYv _ (by omega) _ (by simp [zAt];omega)]
  unfold zSc;simp only [List.append_assoc];rfl
 simp only [zB2]
 by_cases h0:L=[]
 ·subst h0
  rw [if_neg (by simp),if_neg (by decide),if_neg (by simp)];exact ful
 ·have hp:0<L.length:=List.length_pos_iff.2 h0
  rw [if_pos (by omega),zZj h0 hL,zAh,zcr,zAh]
  by_cases hal:zQ8 (zO7 L) h
  ·have hlen:(zMo h).length=(zMo (zO7 L)).length:=by rw [zJp,zJp,hal.2.2.2.1,hal.2.2.2.2]
   have l1:=hal.2.2.2.1;have l2:=hal.2.2.2.2;rw [if_pos (decide_eq_true hal),zAh,za7 h (by omega) (by omega),zAh,za7 _ (by omega) (by omega),zAh,if_pos ⟨hp,hal⟩,show ([1]:List Int)=zs [true] by rfl,zXl _ _ hlen (by omega) _ (by simp)]
   rfl
  ·rw [if_neg (by rw [decide_eq_false hal];decide),if_neg (λk=>hal k.2)];exact ful
end Go.Proofs.YthjhejgjcdajdaaGreatDoor
set_option maxRecDepth 20000
set_option linter.unusedVariables false
set_option linter.unusedSimpArgs false
namespace Go.Proofs.YthjhejgjcdajdaaGreatDoor
open Go Go.RowKit Go.Wk
structure StH where
 a:Nat
 e:Nat
abbrev rdS (L:List Bool) (s:StH):zA1:=⟨RdO L s.a,(s.e:Int)⟩
def tkS (L:List Bool) (n:Nat) (s:StH):Nat×StH:=
 if s.e≠0 then (0,s) else if s.a+n≤L.length then (numB ((L.drop s.a).take n),⟨s.a+n,0⟩) else (0,⟨s.a,2⟩)
def nmS (L:List Bool) (s:StH):UInt64×StH:=
 if s.e≠0 then (0,s) else (UInt64.ofNat (zPg (L.drop s.a)).V,⟨s.a+(zPg (L.drop s.a)).N,(zPg (L.drop s.a)).E⟩)
def sdS (L:List Bool) (s:StH):zAa×StH:=
 let t:=tkS L 8 s
 let s1:StH:=if t.2.e=0∧t.1>160 then ⟨t.2.a,4⟩ else t.2
 if s1.e≠0∨t.1=0 then (⟨0,[]⟩,s1) else (⟨zSp (nmS L s1).1,List.replicate t.1 0⟩,(nmS L s1).2)
def rwS (L:List Bool):Nat→StH→List UInt64×StH
 | 0,s=>([],s)
 | k+1,s=>((nmS L s).1::(rwS L k (nmS L s).2).1,(rwS L k (nmS L s).2).2)
def vsS (L:List Bool):List UInt64→StH→List UInt64×StH
 | [],s=>([],s)
 | c::cs,s=>((c+zAf (zSp (nmS L s).1))::(vsS L cs (nmS L s).2).1,(vsS L cs (nmS L s).2).2)
theorem zWf {L:List Bool} {n:Nat} {s:StH} (h:s.a≤L.length):(tkS L n s).2.a≤L.length:=by
 unfold tkS;repeat' split
 all_goals first | exact h | assumption
theorem zcu (L:List Bool) (n:Nat) (s:StH):(tkS L n s).1<2^n:=by
 have hp:=Nat.two_pow_pos n;unfold tkS;repeat' split
 ·exact hp
 ·exact lt5 _ _
 ·exact hp
theorem zOh {L:List Bool} {s:StH} (h:s.a≤L.length):(nmS L s).2.a≤L.length:=by
 unfold nmS;split
 ·exact h
 ·have:=(zh (L.drop s.a)).1
  rw [List.length_drop] at this;show s.a+_≤_;omega
theorem zd {L:List Bool} {s:StH} (h:s.a≤L.length):(sdS L s).2.a≤L.length:=by
 have:=zWf (n:=8) h
 have h1:(if (tkS L 8 s).2.e=0∧(tkS L 8 s).1>160 then (⟨(tkS L 8 s).2.a,4⟩:StH) else (tkS L 8 s).2).a≤L.length:=by split<;>exact this
 unfold sdS;dsimp only;generalize (if (tkS L 8 s).2.e=0∧(tkS L 8 s).1>160 then (⟨(tkS L 8 s).2.a,4⟩:StH) else (tkS L 8 s).2)=q at *
 split
 ·exact h1
 ·exact zOh h1
theorem zYo (L:List Bool) (s:StH):(sdS L s).1.Counts.length≤160:=by
 unfold sdS;dsimp only;generalize tkS L 8 s=q
 by_cases k:q.2.e=0∧q.1>160
 ·rw [if_pos k,if_pos (Or.inl (show (4:Nat)≠0 by decide))];simp
 ·rw [if_neg k]
  by_cases o:q.2.e≠0∨q.1=0
  ·rw [if_pos o];simp
  ·rw [if_neg o]
   show (List.replicate _ (0:UInt64)).length≤160;rw [List.length_replicate]
   omega
theorem zWo {L:List Bool}:∀ (k:Nat) {s:StH},s.a≤L.length→(rwS L k s).2.a≤L.length∧(rwS L k s).1.length=k
 | 0,s,h=>⟨h,rfl⟩
 | k+1,s,h=>by
  have:=zWo k (zOh h);exact ⟨this.1,by rw [rwS,List.length_cons,this.2]⟩
theorem zW9 {L:List Bool}:∀ (cs:List UInt64) {s:StH},s.a≤L.length→(vsS L cs s).2.a≤L.length∧(vsS L cs s).1.length=cs.length
 | [],s,h=>⟨h,rfl⟩
 | c::cs,s,h=>by
  have:=zW9 cs (zOh h);exact ⟨this.1,by rw [vsS,List.length_cons,this.2,List.length_cons]⟩
theorem zYr (L:List Bool):∀ (m k:Nat) (s:StH),rwS L (m+k) s=((rwS L m s).1++(rwS L k (rwS L m s).2).1,(rwS L k (rwS L m s).2).2)
 | 0,k,s=>by rw [Nat.zero_add];rfl
 | m+1,k,s=>by
  rw [show m+1+k=(m+k)+1 by omega,rwS,zYr L m k,rwS];rfl
theorem zY9 (L:List Bool):∀ (x y:List UInt64) (s:StH),vsS L (x++y) s=((vsS L x s).1++(vsS L y (vsS L x s).2).1,(vsS L y (vsS L x s).2).2)
 | [],y,s=>rfl
 | c::x,y,s=>by rw [List.cons_append,vsS,zY9 L x y,vsS];rfl
theorem zTy {L:List Bool} {n:Nat} {s:StH} (hL:L.length≤1000000000) (hs:s.a≤L.length) (hn:n≤8):zC2 (rdS L s) (n:Int)=some (((tkS L n s).1:Int),rdS L (tkS L n s).2):=by
 unfold zC2 tkS
 by_cases he:s.e≠0
 ·rw [if_pos (show (s.e:Int)≠0 by omega),if_pos he];rfl
 ·rw [if_neg (show ¬(s.e:Int)≠0 by omega),if_neg he,zTj (by omega) hs (by omega),zAh]
  simp only [zB2];have he0:s.e=0:=Classical.not_not.1 he
  by_cases h:s.a+n≤L.length
  ·have:=lt5 (L.drop s.a) n
   have h8:2^n≤2^8:=Nat.pow_le_pow_right (by omega) hn;rw [if_pos h,if_pos h];dsimp only;rw [if_neg (by decide),zBi (by omega),zAs (by omega) (by omega),he0]
  ·rw [if_neg h,if_neg h];rfl
theorem zTz {L:List Bool} {s:StH} (hL:L.length≤1000000000) (hs:s.a≤L.length):zCs (rdS L s)=some (zSp (nmS L s).1,rdS L (nmS L s).2):=by
 unfold zCs nmS
 by_cases he:s.e≠0
 ·rw [if_pos (show (s.e:Int)≠0 by omega),if_pos he]
  show _=some (zSp 0,rdS L s);rw [show zSp 0=0 by decide]
 ·rw [if_neg (show ¬(s.e:Int)≠0 by omega),if_neg he,zT4 (by omega) hs,zAh]
theorem zVt {L:List Bool} {s:StH} (hL:L.length≤1000000000) (hs:s.a≤L.length):zE0 (rdS L s)=some ((nmS L s).1,rdS L (nmS L s).2):=by
 unfold zE0 nmS
 by_cases he:s.e≠0
 ·rw [if_pos (show (s.e:Int)≠0 by omega),if_pos he]
 ·rw [if_neg (show ¬(s.e:Int)≠0 by omega),if_neg he,zVf (by omega) hs,zAh]
theorem zX2 {L:List Bool} {s:StH} (hL:L.length≤1000000000) (hs:s.a≤L.length):zEu (rdS L s)=some ((sdS L s).1,rdS L (sdS L s).2):=by
 unfold zEu sdS;have t:=zTy (n:=8) hL hs (by omega);have tl:=zWf (n:=8) hs;have lt:=zcu L 8 s;rw [show zC2 (rdS L s) 8=_ from t,zAh];simp only [zB2];generalize tkS L 8 s=q at *
 have key:∀ s1:StH,s1.a≤L.length→(if ((rdS L s1).e≠0)∨((q.1:Int)=0) then (some ((⟨0,([]:List UInt64)⟩:zAa),rdS L s1)) else ((zCs (rdS L s1)).bind λp33=>(mkL (q.1:Int) ((0:UInt64):UInt64)).bind λz37=>some ((⟨p33.1,z37⟩:zAa),p33.2)))=some (if s1.e≠0∨q.1=0 then (⟨0,[]⟩,rdS L s1) else (⟨zSp (nmS L s1).1,List.replicate q.1 0⟩,rdS L (nmS L s1).2)):=by
  intro s1 h1
  by_cases h:s1.e≠0∨q.1=0
  ·rw [if_pos (show ((s1.e:Int)≠0)∨((q.1:Int)=0) by omega),if_pos h]
  ·have mk:mkL (q.1:Int) (0:UInt64)=some (List.replicate q.1 0):=by unfold mkL;rw [if_pos (by omega)];simp
   rw [if_neg (show ¬(((s1.e:Int)≠0)∨((q.1:Int)=0)) by omega),if_neg h,zTz hL h1,zAh,mk,zAh]
 by_cases h:q.2.e=0∧q.1>160
 ·rw [if_pos (show ((q.2.e:Int)=0)∧((q.1:Int)>160) by omega),if_pos h]
  have:=key ⟨q.2.a,4⟩ tl;refine this.trans ?_
  split<;>rfl
 ·rw [if_neg (show ¬(((q.2.e:Int)=0)∧((q.1:Int)>160)) by omega),if_neg h]
  refine (key q.2 tl).trans ?_
  split<;>rfl
end Go.Proofs.YthjhejgjcdajdaaGreatDoor
set_option maxRecDepth 20000
set_option linter.unusedVariables false
set_option linter.unusedSimpArgs false
namespace Go.Proofs.YthjhejgjcdajdaaGreatDoor
open Go Go.RowKit Go.Wk
theorem zgx {L:List Bool} (hL:L.length≤1000000000) (p111:zA2) (C:List UInt64) (H:zA2) (j:zA1→zA2→Int→Option (zA2×Int×zA4×zA)) :
 ∀ (cs W' pre Cp Cr:List UInt64) (s:StH) (i k f:Nat),C=Cp++(cs++Cr)→W'.length=cs.length→pre.length=i→Cp.length=k→i+cs.length=p111.Pos.Counts.length→cs.length<f→s.a≤L.length→k+cs.length≤100000→i+cs.length≤100000 →
 zCv p111 C j f (i:Int) (rdS L s) ⟨H.Scale,H.Zero,⟨H.Pos.Offset,pre++W'⟩,H.Neg⟩ (k:Int)=j (rdS L (vsS L cs s).2) ⟨H.Scale,H.Zero,⟨H.Pos.Offset,pre++(vsS L cs s).1⟩,H.Neg⟩ ((k+cs.length:Nat):Int):=by
 intro cs
 induction cs with
 | nil=>
  intro W' pre Cp Cr s i k f hC hW hp hk hb hf hs hk2 hi2;obtain ⟨f,rfl⟩:∃ m,f=m+1:=⟨f-1,by simp at hf;omega⟩;obtain rfl:W'=[]:=List.length_eq_zero_iff.1 hW;rw [zCv,if_neg (by simp at hb;omega)];rfl
 | cons c cs ih=>
  intro W' pre Cp Cr s i k f hC hW hp hk hb hf hs hk2 hi2;obtain ⟨f,rfl⟩:∃ m,f=m+1:=⟨f-1,by simp at hf;omega⟩
  obtain ⟨w,W',rfl⟩:∃ w t,W'=w::t:=by cases W' with|nil=>simp at hW|cons w t=>exact ⟨w,t,rfl⟩
  simp only [List.length_cons] at hW hb hf hk2 hi2;have e1:W64 ((i:Int)+1)=((i+1:Nat):Int):=zEx (by omega);have e2:W64 ((k:Int)+1)=((k+1:Nat):Int):=zEx (by omega)
  have hc:idx C (k:Int)=some c:=by rw [hC,← hk];exact zFy Cp c (cs++Cr)
  have hw:∀ v,zLd (pre++w::W') (i:Int) v=(pre++[v])++W':=by intro v;unfold zLd;rw [Int.toNat_natCast,← hp,List.set_append_right _ _ (Nat.le_refl _),Nat.sub_self];simp
  have hx:idx (pre++w::W') (i:Int)=some w:=by rw [← hp];exact zFy pre w W'
  have hlen:k<C.length:=by rw [hC];simp;omega
  rw [zCv,if_pos (by omega)];simp only [zB2];rw [zTz hL hs,zAh,if_pos (by omega),hc,zAh,hx,zAh,hw,e1,e2,UInt64.add_comm];have:=ih W' (pre++[c+zAf (zSp (nmS L s).1)]) (Cp++[c]) Cr (nmS L s).2 (i+1) (k+1) f (by rw [hC];simp) (by omega) (by simp;omega) (by simp;omega) (by omega) (by omega) (zOh hs) (by omega) (by omega);rw [vsS];refine this.trans ?_;simp only [List.append_assoc,List.singleton_append,List.length_cons];rw [show k+1+cs.length=k+(cs.length+1) by omega]
theorem zgy {L:List Bool} (hL:L.length≤1000000000) (C:List UInt64) (p111:zA2) (H:zA2) (j:zA1→zA2→Option (zA2×Int×zA4×zA)) :
 ∀ (cs W' pre Cp Cr:List UInt64) (s:StH) (i k f:Nat),C=Cp++(cs++Cr)→W'.length=cs.length→pre.length=i→Cp.length=k→i+cs.length=p111.Neg.Counts.length→cs.length<f→s.a≤L.length→k+cs.length≤100000→i+cs.length≤100000 →
 zCw C p111 j f (i:Int) (rdS L s) ⟨H.Scale,H.Zero,H.Pos,⟨H.Neg.Offset,pre++W'⟩⟩ (k:Int)=j (rdS L (vsS L cs s).2) ⟨H.Scale,H.Zero,H.Pos,⟨H.Neg.Offset,pre++(vsS L cs s).1⟩⟩:=by
 intro cs
 induction cs with
 | nil=>
  intro W' pre Cp Cr s i k f hC hW hp hk hb hf hs hk2 hi2;obtain ⟨f,rfl⟩:∃ m,f=m+1:=⟨f-1,by simp at hf;omega⟩;obtain rfl:W'=[]:=List.length_eq_zero_iff.1 hW;rw [zCw,if_neg (by simp at hb;omega)];rfl
 | cons c cs ih=>
  intro W' pre Cp Cr s i k f hC hW hp hk hb hf hs hk2 hi2;obtain ⟨f,rfl⟩:∃ m,f=m+1:=⟨f-1,by simp at hf;omega⟩
  obtain ⟨w,W',rfl⟩:∃ w t,W'=w::t:=by cases W' with|nil=>simp at hW|cons w t=>exact ⟨w,t,rfl⟩
  simp only [List.length_cons] at hW hb hf hk2 hi2;have e1:W64 ((i:Int)+1)=((i+1:Nat):Int):=zEx (by omega);have e2:W64 ((k:Int)+1)=((k+1:Nat):Int):=zEx (by omega)
  have hc:idx C (k:Int)=some c:=by rw [hC,← hk];exact zFy Cp c (cs++Cr)
  have hw:∀ v,zLd (pre++w::W') (i:Int) v=(pre++[v])++W':=by intro v;unfold zLd;rw [Int.toNat_natCast,← hp,List.set_append_right _ _ (Nat.le_refl _),Nat.sub_self];simp
  have hx:idx (pre++w::W') (i:Int)=some w:=by rw [← hp];exact zFy pre w W'
  have hlen:k<C.length:=by rw [hC];simp;omega
  rw [zCw,if_pos (by omega)];simp only [zB2];rw [zTz hL hs,zAh,if_pos (by omega),hc,zAh,hx,zAh,hw,e1,e2,UInt64.add_comm];have:=ih W' (pre++[c+zAf (zSp (nmS L s).1)]) (Cp++[c]) Cr (nmS L s).2 (i+1) (k+1) f (by rw [hC];simp) (by omega) (by simp;omega) (by simp;omega) (by omega) (by omega) (zOh hs) (by omega) (by omega);rw [vsS];refine this.trans ?_;simp only [List.append_assoc,List.singleton_append,List.length_cons]
  done
theorem zgv {L:List Bool} (hL:L.length≤1000000000) (p111:zAa×zA1) (H:zA2) (j:zA1→zA2→Int→Option (zA2×Int×zA4×zA)) :
 ∀ (n:Nat) (W' pre:List UInt64) (s:StH) (i k f:Nat),W'.length=n→pre.length=i→i+n=p111.1.Counts.length→n<f→s.a≤L.length→k+n≤100000→i+n≤100000 →
 zCt p111 j f (i:Int) (rdS L s) ⟨H.Scale,H.Zero,⟨H.Pos.Offset,pre++W'⟩,H.Neg⟩ (k:Int)=j (rdS L (rwS L n s).2) ⟨H.Scale,H.Zero,⟨H.Pos.Offset,pre++(rwS L n s).1⟩,H.Neg⟩ ((k+n:Nat):Int):=by
 intro n
 induction n with
 | zero=>
  intro W' pre s i k f hW hp hb hf hs hk2 hi2;obtain ⟨f,rfl⟩:∃ m,f=m+1:=⟨f-1,by omega⟩;obtain rfl:W'=[]:=List.length_eq_zero_iff.1 hW;rw [zCt,if_neg (by omega)];rfl
 | succ n ih=>
  intro W' pre s i k f hW hp hb hf hs hk2 hi2;obtain ⟨f,rfl⟩:∃ m,f=m+1:=⟨f-1,by omega⟩
  obtain ⟨w,W',rfl⟩:∃ w t,W'=w::t:=by cases W' with|nil=>simp at hW|cons w t=>exact ⟨w,t,rfl⟩
  simp only [List.length_cons] at hW;have e1:W64 ((i:Int)+1)=((i+1:Nat):Int):=zEx (by omega);have e2:W64 ((k:Int)+1)=((k+1:Nat):Int):=zEx (by omega)
  have hw:∀ v,zLd (pre++w::W') (i:Int) v=(pre++[v])++W':=by intro v;unfold zLd;rw [Int.toNat_natCast,← hp,List.set_append_right _ _ (Nat.le_refl _),Nat.sub_self];simp
  have hx:idx (pre++w::W') (i:Int)=some w:=by rw [← hp];exact zFy pre w W'
  rw [zCt,if_pos (by omega)];simp only [zB2];rw [zVt hL hs,zAh,if_neg (by omega),hx,zAh,hw,e1,e2];have:=ih W' (pre++[(nmS L s).1]) (nmS L s).2 (i+1) (k+1) f (by omega) (by simp;omega) (by omega) (by omega) (zOh hs) (by omega) (by omega);rw [rwS];refine this.trans ?_;simp only [List.append_assoc,List.singleton_append];rw [show k+1+n=k+(n+1) by omega]
theorem zgw {L:List Bool} (hL:L.length≤1000000000) (p111:zA2) (H:zA2) (j:zA1→zA2→Option (zA2×Int×zA4×zA)) :
 ∀ (n:Nat) (W' pre:List UInt64) (s:StH) (i k f:Nat),W'.length=n→pre.length=i→i+n=p111.Neg.Counts.length→n<f→s.a≤L.length→k+n≤100000→i+n≤100000 →
 zCu p111 j f (i:Int) (rdS L s) ⟨H.Scale,H.Zero,H.Pos,⟨H.Neg.Offset,pre++W'⟩⟩ (k:Int)=j (rdS L (rwS L n s).2) ⟨H.Scale,H.Zero,H.Pos,⟨H.Neg.Offset,pre++(rwS L n s).1⟩⟩:=by
 intro n
 induction n with
 | zero=>
  intro W' pre s i k f hW hp hb hf hs hk2 hi2;obtain ⟨f,rfl⟩:∃ m,f=m+1:=⟨f-1,by omega⟩;obtain rfl:W'=[]:=List.length_eq_zero_iff.1 hW;rw [zCu,if_neg (by omega)];rfl
 | succ n ih=>
  intro W' pre s i k f hW hp hb hf hs hk2 hi2;obtain ⟨f,rfl⟩:∃ m,f=m+1:=⟨f-1,by omega⟩
  obtain ⟨w,W',rfl⟩:∃ w t,W'=w::t:=by cases W' with|nil=>simp at hW|cons w t=>exact ⟨w,t,rfl⟩
  simp only [List.length_cons] at hW;have e1:W64 ((i:Int)+1)=((i+1:Nat):Int):=zEx (by omega);have e2:W64 ((k:Int)+1)=((k+1:Nat):Int):=zEx (by omega)
  have hw:∀ v,zLd (pre++w::W') (i:Int) v=(pre++[v])++W':=by intro v;unfold zLd;rw [Int.toNat_natCast,← hp,List.set_append_right _ _ (Nat.le_refl _),Nat.sub_self];simp
  have hx:idx (pre++w::W') (i:Int)=some w:=by rw [← hp];exact zFy pre w W'
  rw [zCu,if_pos (by omega)];simp only [zB2];rw [zVt hL hs,zAh,if_neg (by omega),hx,zAh,hw,e1,e2];have:=ih W' (pre++[(nmS L s).1]) (nmS L s).2 (i+1) (k+1) f (by omega) (by simp;omega) (by omega) (by omega) (zOh hs) (by omega) (by omega);rw [rwS];refine this.trans ?_;simp only [List.append_assoc,List.singleton_append]
  done
end Go.Proofs.YthjhejgjcdajdaaGreatDoor
set_option maxRecDepth 20000
set_option linter.unusedVariables false
set_option linter.unusedSimpArgs false
namespace Go.Proofs.YthjhejgjcdajdaaGreatDoor
open Go Go.RowKit Go.Wk
theorem zYd (L:List Bool) (n:Nat) (s:StH):s.a≤(tkS L n s).2.a:=by
 unfold tkS;repeat' split
 ·exact Nat.le_refl _
 ·exact Nat.le_add_right _ _
 ·exact Nat.le_refl _
theorem zUy (L:List Bool) (s:StH):s.a≤(nmS L s).2.a:=by
 unfold nmS;split
 ·exact Nat.le_refl _
 ·exact Nat.le_add_right _ _
theorem zcz (L:List Bool) (s:StH):s.a≤(sdS L s).2.a:=by
 have:=zYd L 8 s
 have h1:s.a≤(if (tkS L 8 s).2.e=0∧(tkS L 8 s).1>160 then (⟨(tkS L 8 s).2.a,4⟩:StH) else (tkS L 8 s).2).a:=by split<;>exact this
 unfold sdS;dsimp only;generalize (if (tkS L 8 s).2.e=0∧(tkS L 8 s).1>160 then (⟨(tkS L 8 s).2.a,4⟩:StH) else (tkS L 8 s).2)=q at *
 split
 ·exact h1
 ·exact Nat.le_trans h1 (zUy L q)
theorem zYq (L:List Bool):∀ (k:Nat) (s:StH),s.a≤(rwS L k s).2.a
 | 0,s=>Nat.le_refl _
 | k+1,s=>Nat.le_trans (zUy L s) (zYq L k _)
theorem zY8 (L:List Bool):∀ (cs:List UInt64) (s:StH),s.a≤(vsS L cs s).2.a
 | [],s=>Nat.le_refl _
 | c::cs,s=>Nat.le_trans (zUy L s) (zY8 L cs _)
structure zak where
 H:zA2
 a:Nat
 E:Int
def zbr (b:zA2) (vs:List UInt64):zA2:=⟨b.Scale,vs.headD 0,⟨b.Pos.Offset,(vs.drop 1).take b.Pos.Counts.length⟩,⟨b.Neg.Offset,vs.drop (1+b.Pos.Counts.length)⟩⟩
def zUd (H:zA2) (s:StH) (bad:Bool):zak:=if s.e≠0 then ⟨h00,0,(s.e:Int)⟩ else if hcE H≠0 then ⟨h00,0,hcE H⟩ else if bad=true then ⟨h00,0,3⟩ else ⟨H,s.a,0⟩
def zcc (L:List Bool) (s:StH):zA2×StH:=
 (⟨((tkS L 5 s).1:Int)-10,0,(sdS L (tkS L 5 s).2).1,(sdS L (sdS L (tkS L 5 s).2).2).1⟩,(sdS L (sdS L (tkS L 5 s).2).2).2)
def zhh (n:Nat) (last:zA2) (L:List Bool) (b:zA2×StH):zak:=
 zUd (zbr b.1 (rwS L (1+b.1.Pos.Counts.length+b.1.Neg.Counts.length) b.2).1) (rwS L (1+b.1.Pos.Counts.length+b.1.Neg.Counts.length) b.2).2 (decide (0<n∧zQ8 last (zbr b.1 (rwS L (1+b.1.Pos.Counts.length+b.1.Neg.Counts.length) b.2).1)))
def zez (n:Nat) (last:zA2) (L:List Bool) (a:Nat):zak:=
 if (tkS L 1 ⟨a,0⟩).1=1 then
  (if n=0 then ⟨h00,0,3⟩ else zUd (zbr last (vsS L (zMo last) (tkS L 1 ⟨a,0⟩).2).1) (vsS L (zMo last) (tkS L 1 ⟨a,0⟩).2).2 false)
 else zhh n last L (zcc L (tkS L 1 ⟨a,0⟩).2)
def zfq (n:Nat) (last:zA2) (L:List Bool) (a:Nat) (g:zak):zA2×Int×zA4×zA:=
 if g.E=0 then (g.H,0,⟨((n+1:Nat):Int),g.H⟩,RdO L g.a) else (h00,g.E,⟨(n:Int),last⟩,RdO L a)
def zf0 (x0:zA4) (x1:zA) (y49:zA1) (y37:zA2):Option (zA2×Int×zA4×zA):=
 if y49.e≠0 then
  (some ((⟨0,(0:UInt64),(⟨0,([]:List UInt64)⟩:zAa),(⟨0,([]:List UInt64)⟩:zAa)⟩:zA2),y49.e,x0,x1))
 else
  ((zC y49.r).bind λp65=>
   (zC x1).bind λp67=>
   (zCj x1 (W64 (p65-p67))).bind λp69=>
   (zE1 y37).bind λp78=>
   some (y37,0,(⟨W64 (x0.n+1),p78⟩:zA4),p69.2))
def zfs (x0:zA4) (x1:zA) (y36:zA1) (y37:zA2):Option (zA2×Int×zA4×zA):=
 if y36.e=0 then (zHd y37).bind λp90=>zf0 x0 x1 (⟨y36.r,p90⟩:zA1) y37 else zf0 x0 x1 y36 y37
section
variable {n a:Nat} {last H:zA2} {L:List Bool} {s:StH}
theorem zU1 (hL:L.length≤1000000000) (hn:n≤1000000000) (h1:a≤s.a) (h2:s.a≤L.length) (p:H.Pos.Counts.length≤1000000) (q:H.Neg.Counts.length≤1000000) (e:Int) :
 zf0 ⟨(n:Int),last⟩ (RdO L a) ⟨RdO L s.a,e⟩ H=some (zfq n last L a (if e≠0 then ⟨h00,0,e⟩ else ⟨H,s.a,0⟩)):=by
 unfold zf0 zfq zC
 by_cases he:e≠0
 ·rw [if_pos he,if_pos he,if_neg he]
 ·have hW:W64 ((n:Int)+1)=((n+1:Nat):Int):=zEx (by omega)
  have sk:=zQd (L:=L) (a:=a) (n:=s.a-a) (by omega) (by omega)
  have hd:W64 ((s.a:Int)-(a:Int))=((s.a-a:Nat):Int):=by rw [zAs (by omega) (by omega)];omega
  rw [if_neg he,if_neg he,if_pos rfl,zAh,zAh];dsimp only;rw [hd,sk,zAh,zQ2 H p q,zAh,hW,show a+(s.a-a)=s.a by omega]
theorem zf1 (hL:L.length≤1000000000) (hn:n≤1000000000) (h1:a≤s.a) (h2:s.a≤L.length) (p:H.Pos.Counts.length≤1000000) (q:H.Neg.Counts.length≤1000000) :
 zfs ⟨(n:Int),last⟩ (RdO L a) (rdS L s) H=some (zfq n last L a (zUd H s false)):=by
 unfold zfs zUd
 by_cases he:s.e≠0
 ·rw [if_neg (show ¬(s.e:Int)=0 by omega),zU1 hL hn h1 h2 p q,if_pos (by omega),if_pos he]
 ·rw [if_pos (show (s.e:Int)=0 by omega),if_neg he,zM0 H p q,zAh,zU1 hL hn h1 h2 p q]
  by_cases hc:hcE H≠0
  ·rw [if_pos hc,if_pos hc]
  ·rw [if_neg hc,if_neg hc,if_neg (by decide)]
end
theorem zan (L:List Bool) (h:zA2) {s:StH} (hs:s.a≤L.length) :
 zbr h (vsS L (zMo h) s).1=⟨h.Scale,h.Zero+zAf (zSp (nmS L s).1),⟨h.Pos.Offset,(vsS L h.Pos.Counts (nmS L s).2).1⟩,⟨h.Neg.Offset,(vsS L h.Neg.Counts (vsS L h.Pos.Counts (nmS L s).2).2).1⟩⟩ ∧
 (vsS L (zMo h) s).2=(vsS L h.Neg.Counts (vsS L h.Pos.Counts (nmS L s).2).2).2:=by
 have e:=zW9 h.Pos.Counts (zOh (s:=s) hs);unfold zMo zbr;rw [vsS,zY9];dsimp only;rw [List.headD_cons,List.drop_one,List.tail_cons,List.take_left' e.2,Nat.add_comm,List.drop_succ_cons,List.drop_left' e.2];exact ⟨rfl,rfl⟩
theorem zb2 (L:List Bool) (b:zA2) {s:StH} (hs:s.a≤L.length) :
 zbr b (rwS L (1+b.Pos.Counts.length+b.Neg.Counts.length) s).1=⟨b.Scale,(nmS L s).1,⟨b.Pos.Offset,(rwS L b.Pos.Counts.length (nmS L s).2).1⟩,⟨b.Neg.Offset,(rwS L b.Neg.Counts.length (rwS L b.Pos.Counts.length (nmS L s).2).2).1⟩⟩ ∧
 (rwS L (1+b.Pos.Counts.length+b.Neg.Counts.length) s).2=(rwS L b.Neg.Counts.length (rwS L b.Pos.Counts.length (nmS L s).2).2).2:=by
 have e:=zWo b.Pos.Counts.length (zOh (s:=s) hs);unfold zbr;rw [show 1+b.Pos.Counts.length+b.Neg.Counts.length=(b.Pos.Counts.length+b.Neg.Counts.length)+1 by omega,rwS,zYr];dsimp only;rw [List.headD_cons,List.drop_one,List.tail_cons,List.take_left' e.2,Nat.add_comm 1,List.drop_succ_cons,List.drop_left' e.2];exact ⟨rfl,rfl⟩
theorem zew {n a:Nat} {last:zA2} {L:List Bool} (hL:L.length≤1000000000) (hn:n≤1000000000) (ha:a≤L.length)
 (b1:last.Pos.Counts.length≤1000) (b2:last.Neg.Counts.length≤1000) :
 zFl ⟨(n:Int),last⟩ (RdO L a)=some (zfq n last L a (zez n last L a)):=by
 have t1:=zTy (n:=1) (s:=⟨a,0⟩) hL ha (by omega);have m1:=zYd L 1 ⟨a,0⟩;have l1:=zWf (n:=1) (s:=⟨a,0⟩) ha;obtain ⟨m,hm⟩:=zJs 1001 (by omega);unfold zFl zez;rw [show zC2 (⟨RdO L a,0⟩:zA1) 1=_ from t1,zAh];generalize tkS L 1 ⟨a,0⟩=t at *;simp only [zB2]
 by_cases h1:t.1=1
 ·rw [if_pos (show (t.1:Int)=1 by omega),if_pos h1]
  by_cases h0:n=0
  ·rw [if_pos (show (n:Int)=0 by omega),if_pos h0];rfl
  ·rw [if_neg (show ¬(n:Int)=0 by omega),if_neg h0,zQ2 last (by omega) (by omega),zAh,zQ6 last (by omega) (by omega),zAh,zTz hL l1,zAh]
   obtain ⟨v1,v2⟩:=zan L last l1;rw [v1,v2];have n1:=zOh (s:=t.2) l1;have p1:=zW9 last.Pos.Counts n1;have q1:=zW9 last.Neg.Counts p1.1;have mo:a≤(vsS L last.Neg.Counts (vsS L last.Pos.Counts (nmS L t.2).2).2).2.a:=Nat.le_trans m1 (Nat.le_trans (zUy L t.2) (Nat.le_trans (zY8 L last.Pos.Counts _) (zY8 L last.Neg.Counts _)));rw [if_pos (by rw [zJp];omega),show idx (zMo last) 0=some last.Zero from rfl,zAh]
   have g2:=λj=>zgx hL last (zMo last) ⟨last.Scale,zAf (zSp (nmS L t.2).1)+last.Zero,last.Pos,last.Neg⟩ j last.Pos.Counts last.Pos.Counts [] [last.Zero] last.Neg.Counts (nmS L t.2).2 0 1 fuel rfl rfl rfl rfl (by simp) (by rw [hm];omega) n1 (by omega) (by omega)
   refine (g2 _).trans ?_
   have g1:=λj=>zgy hL (zMo last) ⟨last.Scale,zAf (zSp (nmS L t.2).1)+last.Zero,⟨last.Pos.Offset,[]++(vsS L last.Pos.Counts (nmS L t.2).2).1⟩,last.Neg⟩ ⟨last.Scale,zAf (zSp (nmS L t.2).1)+last.Zero,⟨last.Pos.Offset,[]++(vsS L last.Pos.Counts (nmS L t.2).2).1⟩,last.Neg⟩ j last.Neg.Counts last.Neg.Counts [] (last.Zero::last.Pos.Counts) [] (vsS L last.Pos.Counts (nmS L t.2).2).2 0 (1+last.Pos.Counts.length) fuel (by simp [zMo]) rfl rfl (by simp;omega) (by simp) (by rw [hm];omega) p1.1 (by omega) (by omega)
   refine (g1 _).trans ?_;rw [UInt64.add_comm];exact zf1 hL hn mo q1.1 (show (vsS L last.Pos.Counts (nmS L t.2).2).1.length≤1000000 by omega) (show (vsS L last.Neg.Counts _).1.length≤1000000 by omega)
 ·rw [if_neg (show ¬(t.1:Int)=1 by omega),if_neg h1]
  have t5:=zTy (n:=5) (s:=t.2) hL l1 (by omega);have m5:=zYd L 5 t.2;have l5:=zWf (n:=5) l1;have k5:=zcu L 5 t.2;unfold zhh zcc;rw [show zC2 (rdS L t.2) 5=_ from t5,zAh];generalize tkS L 5 t.2=c at *;have z1:=zYo L c.2;have e1:=zX2 hL l5;have lp:=zd l5;have mp:=zcz L c.2;rw [e1,zAh];generalize sdS L c.2=p at *;have z2:=zYo L p.2;have e2:=zX2 hL lp;have lq:=zd lp;have mq:=zcz L p.2;rw [e2,zAh];generalize sdS L p.2=q at *;have n1:=zOh lq;rw [zVt hL lq,zAh,if_neg (by omega)];dsimp only;obtain ⟨v1,v2⟩:=zb2 L ⟨(c.1:Int)-10,0,p.1,q.1⟩ lq;dsimp only at v1 v2;rw [v1,v2];have p1:=zWo p.1.Counts.length n1;have q1:=zWo q.1.Counts.length p1.1
  have hsc:W64 ((c.1:Int)+(-10))=(c.1:Int)-10:=by rw [zAs (by omega) (by omega)];omega
  have mo:a≤(rwS L q.1.Counts.length (rwS L p.1.Counts.length (nmS L q.2).2).2).2.a:=Nat.le_trans m1 (Nat.le_trans m5 (Nat.le_trans mp (Nat.le_trans mq (Nat.le_trans (zUy L q.2) (Nat.le_trans (zYq L _ _) (zYq L _ _))))))
  have g4:=λj=>zgv hL (p.1,rdS L p.2) ⟨(c.1:Int)-10,(nmS L q.2).1,p.1,q.1⟩ j p.1.Counts.length p.1.Counts [] (nmS L q.2).2 0 1 fuel rfl rfl (by simp) (by rw [hm];omega) n1 (by omega) (by omega)
  rw [hsc];refine (g4 _).trans ?_
  have g3:=λj=>zgw hL ⟨(c.1:Int)-10,(nmS L q.2).1,⟨p.1.Offset,[]++(rwS L p.1.Counts.length (nmS L q.2).2).1⟩,q.1⟩ ⟨(c.1:Int)-10,(nmS L q.2).1,⟨p.1.Offset,[]++(rwS L p.1.Counts.length (nmS L q.2).2).1⟩,q.1⟩ j q.1.Counts.length q.1.Counts [] (rwS L p.1.Counts.length (nmS L q.2).2).2 0 (1+p.1.Counts.length) fuel rfl rfl (by simp) (by rw [hm];omega) p1.1 (by omega) (by omega)
  refine (g3 _).trans ?_;rw [List.nil_append,List.nil_append];generalize hr:(rwS L q.1.Counts.length (rwS L p.1.Counts.length (nmS L q.2).2).2)=r at *;generalize hpp:(rwS L p.1.Counts.length (nmS L q.2).2).1=pp at *;generalize (nmS L q.2).1=z at *;generalize hH:(⟨(c.1:Int)-10,z,⟨p.1.Offset,pp⟩,⟨q.1.Offset,r.1⟩⟩:zA2)=H at *
  have hP:H.Pos.Counts.length≤1000000:=by rw [← hH];show pp.length≤_;omega
  have hN:H.Neg.Counts.length≤1000000:=by rw [← hH];show r.1.length≤_;omega
  have k1:=λe:Int=>zU1 (last:=last) (H:=H) hL hn mo q1.1 hP hN e
  unfold zf0 at k1;unfold zHl;simp only [zAh];generalize hb:decide (0<n∧zQ8 last H)=bad
  by_cases he:r.2.e≠0
  ·have f1:zUd H r.2 bad=⟨h00,0,(r.2.e:Int)⟩:=by unfold zUd;rw [if_pos he]
   have k:=k1 (r.2.e:Int)
   have hz:(r.2.e:Int)≠0:=by omega
   rw [if_pos (c:=(r.2.e:Int)≠0) (t:=(⟨h00,0,(r.2.e:Int)⟩:zak)) hz] at k;rw [f1,if_neg (show ¬(r.2.e:Int)=0 by omega),if_neg (show ¬(r.2.e:Int)=0 by omega),if_neg (show ¬(false=true) by decide)];rw [if_neg (show ¬(r.2.e:Int)=0 by omega)];exact k
  ·rw [if_pos (show (r.2.e:Int)=0 by omega),zM0 H hP hN,zAh]
   by_cases hc:hcE H≠0
   ·have f1:zUd H r.2 bad=⟨h00,0,hcE H⟩:=by unfold zUd;rw [if_neg he,if_pos hc]
    have k:=k1 (hcE H);rw [if_pos (t:=(⟨h00,0,hcE H⟩:zak)) hc] at k;rw [f1,if_neg hc,if_neg (show ¬(false=true) by decide),if_neg hc];exact k
   ·have hc0:hcE H=0:=Classical.not_not.1 hc
    have good:bad=false→zfs ⟨(n:Int),last⟩ (RdO L a) ⟨RdO L r.2.a,hcE H⟩ H=some (zfq n last L a (zUd H r.2 bad)):=by
     intro hbad
     have f1:zUd H r.2 bad=⟨H,r.2.a,0⟩:=by unfold zUd;rw [if_neg he,if_neg hc,hbad,if_neg (by decide)]
     have k:=zU1 (last:=last) (H:=H) hL hn mo q1.1 hP hN (hcE H);rw [if_neg hc] at k;unfold zfs;rw [f1,if_pos hc0,zM0 H hP hN,zAh];exact k
    rw [if_pos hc0]
    by_cases h0:0<n
    ·rw [if_pos (show (n:Int)>0 by omega)]
     by_cases hal:zQ8 last H
     ·have hbad:bad=true:=by rw [← hb];exact decide_eq_true ⟨h0,hal⟩
      have f1:zUd H r.2 bad=⟨h00,0,3⟩:=by unfold zUd;rw [if_neg he,if_neg hc,hbad,if_pos rfl]
      have k:=k1 3;rw [if_pos (t:=(⟨h00,0,3⟩:zak)) (by decide)] at k;rw [if_pos (decide_eq_true ((zbm H last).2 hal)),f1,if_neg (show ¬(3:Int)=0 by decide)];exact k
     ·have hbad:bad=false:=by rw [← hb];exact decide_eq_false (λk=>hal k.2)
      have k:=good hbad;unfold zfs zf0 at k;rw [zM0 H hP hN] at k;rw [if_neg (by rw [decide_eq_false (λk=>hal ((zbm H last).1 k))];decide)];exact k
    ·have hbad:bad=false:=by rw [← hb];exact decide_eq_false (λk=>h0 k.1)
     have k:=good hbad;unfold zfs zf0 at k;rw [zM0 H hP hN] at k;rw [if_neg (show ¬(n:Int)>0 by omega),if_neg (show ¬(false=true) by decide)];exact k
end Go.Proofs.YthjhejgjcdajdaaGreatDoor
set_option maxRecDepth 20000
set_option linter.unusedVariables false
set_option linter.unusedSimpArgs false
namespace Go.Proofs.YthjhejgjcdajdaaGreatDoor
open Go Go.RowKit Go.Wk
section
variable {L:List Bool} {s:StH}
end
end Go.Proofs.YthjhejgjcdajdaaGreatDoor
set_option maxRecDepth 20000
set_option linter.unusedVariables false
set_option linter.unusedSimpArgs false
namespace Go.Proofs.YthjhejgjcdajdaaGreatDoor
open Go Go.RowKit Go.Wk
end Go.Proofs.YthjhejgjcdajdaaGreatDoor
set_option maxRecDepth 20000
set_option linter.unusedVariables false
set_option linter.unusedSimpArgs false
namespace Go.Proofs.YthjhejgjcdajdaaGreatDoor
open Go Go.RowKit Go.Wk
section shift
def shS (a:Nat) (s:StH):StH:=⟨a+s.a,s.e⟩
variable {L:List Bool} {a:Nat}
theorem zYc (ha:a≤L.length) (n:Nat) (s:StH):tkS L n (shS a s)=((tkS (L.drop a) n s).1,shS a (tkS (L.drop a) n s).2):=by
 unfold tkS shS;dsimp only
 by_cases he:s.e≠0
 ·rw [if_pos he,if_pos he]
 ·rw [if_neg he,if_neg he,List.length_drop,List.drop_drop]
  by_cases h:a+s.a+n≤L.length
  ·rw [if_pos h,if_pos (by omega),Nat.add_assoc]
  ·rw [if_neg h,if_neg (by omega)]
theorem zZa (s:StH):nmS L (shS a s)=((nmS (L.drop a) s).1,shS a (nmS (L.drop a) s).2):=by
 unfold nmS shS;dsimp only
 by_cases he:s.e≠0
 ·rw [if_pos he,if_pos he]
 ·rw [if_neg he,if_neg he,List.drop_drop,Nat.add_assoc]
theorem zcy (ha:a≤L.length) (s:StH):sdS L (shS a s)=((sdS (L.drop a) s).1,shS a (sdS (L.drop a) s).2):=by
 unfold sdS;dsimp only;rw [zYc ha];generalize tkS (L.drop a) 8 s=q;dsimp only
 have e:(if (shS a q.2).e=0∧q.1>160 then (⟨(shS a q.2).a,4⟩:StH) else shS a q.2)=shS a (if q.2.e=0∧q.1>160 then (⟨q.2.a,4⟩:StH) else q.2):=by
  show (if q.2.e=0∧q.1>160 then (⟨(shS a q.2).a,4⟩:StH) else shS a q.2)=_
  split<;>rfl
 rw [e];generalize (if q.2.e=0∧q.1>160 then (⟨q.2.a,4⟩:StH) else q.2)=s1;rw [zZa];show (if s1.e≠0∨q.1=0 then _ else _)=_
 split<;>rfl
theorem zd2:∀ (k:Nat) (s:StH),rwS L k (shS a s)=((rwS (L.drop a) k s).1,shS a (rwS (L.drop a) k s).2)
 | 0,s=>rfl
 | k+1,s=>by rw [rwS,zZa,zd2 k,rwS]
theorem zct:∀ (cs:List UInt64) (s:StH),vsS L cs (shS a s)=((vsS (L.drop a) cs s).1,shS a (vsS (L.drop a) cs s).2)
 | [],s=>rfl
 | c::cs,s=>by rw [vsS,zZa,zct cs,vsS]
def shG (a:Nat) (g:zak):zak:=if g.E=0 then ⟨g.H,a+g.a,0⟩ else g
theorem zZt (H:zA2) (s:StH) (b:Bool):zUd H (shS a s) b=shG a (zUd H s b):=by
 unfold zUd;show (if s.e≠0 then _ else _)=_
 by_cases he:s.e≠0
 ·rw [if_pos he,if_pos he];unfold shG;rw [if_neg (by dsimp only;omega)];rfl
 ·rw [if_neg he,if_neg he]
  by_cases hc:hcE H≠0
  ·rw [if_pos hc,if_pos hc];unfold shG;rw [if_neg hc]
  ·rw [if_neg hc,if_neg hc];cases b<;>rfl
theorem zey (ha:a≤L.length) (n:Nat) (last:zA2):zez n last L a=shG a (zez n last (L.drop a) 0):=by
 have t:=zYc ha 1 ⟨0,0⟩;unfold zez;rw [show (⟨a,0⟩:StH)=shS a ⟨0,0⟩ from rfl,t];dsimp only
 by_cases h1:(tkS (L.drop a) 1 ⟨0,0⟩).1=1
 ·rw [if_pos h1,if_pos h1]
  by_cases h0:n=0
  ·rw [if_pos h0,if_pos h0];rfl
  ·rw [if_neg h0,if_neg h0,zct,zZt]
 ·rw [if_neg h1,if_neg h1]
  generalize tkS (L.drop a) 1 ⟨0,0⟩=t1;unfold zhh zcc;have c5:=zYc ha 5 t1.2;rw [c5];generalize tkS (L.drop a) 5 t1.2=c;dsimp only;have e1:=zcy ha c.2;rw [e1];generalize sdS (L.drop a) c.2=p;dsimp only;have e2:=zcy ha p.2;rw [e2];generalize sdS (L.drop a) p.2=q;dsimp only;have r:=zd2 (L:=L) (a:=a) (1+p.1.Counts.length+q.1.Counts.length) q.2;rw [r];generalize rwS (L.drop a) (1+p.1.Counts.length+q.1.Counts.length) q.2=z;exact zZt _ _ _
end shift
section back
variable {L:List Bool}
theorem zLz {a:Nat} {x R:List Bool} (h:L.drop a=x++R):L.drop (a+x.length)=R:=by
 rw [← List.drop_drop,h,List.drop_left]
theorem zTu {a:Nat} {v:UInt64} {R:List Bool} (h:L.drop a=smB v.toNat++R):nmS L ⟨a,0⟩=(v,⟨a+(smB v.toNat).length,0⟩):=by
 unfold nmS;rw [if_neg (show ¬(0:Nat)≠0 by decide),h,zU _ (by have:=v.toNat_lt;omega)];dsimp only;rw [UInt64.ofNat_toNat]
theorem zWp:∀ (l:List UInt64) (a:Nat) (R:List Bool),L.drop a=smS l++R→rwS L l.length ⟨a,0⟩=(l,⟨a+(smS l).length,0⟩)
 | [],a,R,h=>rfl
 | c::l,a,R,h=>by
  rw [zTm,List.append_assoc] at h;have:=zWp l _ R (zLz h);rw [List.length_cons,rwS,zTu h];dsimp only;rw [this,zTm,List.length_append,Nat.add_assoc]
theorem zcm (a b:UInt64):b+zAf (zSp (zig (sI (a-b))))=a:=by
 rw [zRa (zVj _),zRb,UInt64.add_comm,UInt64.sub_add_cancel]
theorem zWa:∀ (l m:List UInt64) (a:Nat) (R:List Bool),l.length=m.length→L.drop a=dfS l m++R→vsS L m ⟨a,0⟩=(l,⟨a+(dfS l m).length,0⟩)
 | [],[],a,R,_,h=>rfl
 | x::l,y::m,a,R,hl,h=>by
  have e:dfS (x::l) (y::m)=smB (zig (sI (x-y))).toNat++dfS l m:=rfl;rw [e,List.append_assoc] at h;have:=zWa l m _ R (by simpa using hl) (zLz h);rw [vsS,zTu h];dsimp only;rw [this,zcm,e,List.length_append,Nat.add_assoc]
 | [],y::m,a,R,hl,h=>by simp at hl
 | x::l,[],a,R,hl,h=>by simp at hl
theorem zRc {a n v:Nat} {R:List Bool} (hv:v<2^n) (h:L.drop a=zG7 v n++R) (hn:0<n):tkS L n ⟨a,0⟩=(v,⟨a+n,0⟩):=by
 have hl:=congrArg List.length h;rw [List.length_drop,List.length_append,zAt] at hl;unfold tkS;dsimp only;rw [if_neg (by decide),if_pos (by omega),h,List.take_left' (zAt _ _),zJy hv]
theorem zWl {a:Nat} {s:zAa} {R:List Bool} (hl:s.Counts.length≤160) (ho:okI s.Offset) (hz:s.Counts=[]→s.Offset=0) (h:L.drop a=shB s++R) :
 sdS L ⟨a,0⟩=(⟨s.Offset,List.replicate s.Counts.length 0⟩,⟨a+(shB s).length,0⟩):=by
 have h':=h;unfold shB at h';rw [List.append_assoc] at h';unfold sdS;rw [zRc (by omega) h' (by decide)];dsimp only;rw [if_neg (show ¬((0:Nat)=0∧s.Counts.length>160) by omega)];have hd:=zLz h';rw [zAt] at hd
 by_cases h0:s.Counts.length>0
 ·rw [if_pos h0] at hd
  rw [if_neg (show ¬((0:Nat)≠0∨s.Counts.length=0) by omega),zTu hd];dsimp only;rw [zRa ho];unfold shB;rw [if_pos h0,List.length_append,zAt,Nat.add_assoc]
 ·have hc:s.Counts=[]:=List.length_eq_zero_iff.1 (by omega)
  rw [if_pos (Or.inr (by omega))];unfold shB;rw [if_neg h0,hz hc,hc,List.append_nil,zAt];rfl
end back
theorem zgd {s:zAa} (h:sdE s=0):s.Counts=[]→s.Offset=0:=by
 intro hc;unfold sdE at h;rw [hc] at h;rw [if_neg (by simp),if_pos rfl] at h
 by_cases h3:s.Offset≠0
 ·rw [if_pos h3] at h;exact absurd h (by decide)
 ·exact Classical.not_not.1 h3
theorem hcE_z {h:zA2} (e:hcE h=0):(h.Pos.Counts=[]→h.Pos.Offset=0)∧(h.Neg.Counts=[]→h.Neg.Offset=0):=by
 unfold hcE at e
 by_cases hs:h.Scale < -10∨h.Scale>20
 ·rw [if_pos hs] at e;exact absurd e (by decide)
 rw [if_neg hs] at e
 by_cases c1:sdE h.Pos≠0
 ·rw [if_pos c1] at e;exact absurd e c1
 rw [if_neg c1] at e
 by_cases c2:sdE h.Neg≠0
 ·rw [if_pos c2] at e;exact absurd e c2
 exact ⟨zgd (Classical.not_not.1 c1),zgd (Classical.not_not.1 c2)⟩
theorem zWz {b h:zA2} (h1:b.Scale=h.Scale) (h2:b.Pos.Offset=h.Pos.Offset) (h3:b.Neg.Offset=h.Neg.Offset) (h4:b.Pos.Counts.length=h.Pos.Counts.length):zbr b (zMo h)=h:=by
 unfold zbr zMo;rw [h1,h2,h3,h4,List.headD_cons,List.drop_one,List.tail_cons,List.take_left,Nat.add_comm,List.drop_succ_cons,List.drop_left]
theorem zZr {n:Nat} {last h:zA2} (e:hcE h=0) (R:List Bool):zez n last (hB n last h++R) 0=⟨h,(hB n last h).length,0⟩:=by
 have ok:=zQ3 e;have z:=hcE_z e
 have fin:∀ (s:StH) (b:Bool),s.e=0→b=false→zUd h s b=⟨h,s.a,0⟩:=by
  intro s b h1 h2;unfold zUd;rw [if_neg (λk=>k h1),if_neg (λk=>k e),h2,if_neg (by decide)]
 unfold zez
 by_cases hd:0<n∧zQ8 last h
 ·have hB':hB n last h=true::dfS (zMo h) (zMo last):=by unfold hB;rw [if_pos hd]
  have hal:=hd.2;rw [hB'];have t:=zRc (L:=true::dfS (zMo h) (zMo last)++R) (a:=0) (n:=1) (v:=1) (R:=dfS (zMo h) (zMo last)++R) (by decide) rfl (by decide);rw [t,if_pos rfl,if_neg (by omega)];dsimp only
  have hl:(zMo h).length=(zMo last).length:=by rw [zJp,zJp,hal.2.2.2.1,hal.2.2.2.2]
  have v:=zWa (L:=true::dfS (zMo h) (zMo last)++R) (zMo h) (zMo last) (0+1) R hl rfl;rw [v,zWz hal.1 hal.2.1 hal.2.2.1 hal.2.2.2.1,fin _ _ rfl rfl];dsimp only;rw [List.length_cons];congr 1;omega
 ·have hB':hB n last h=zSc h:=by unfold hB;rw [if_neg hd]
  rw [hB'];have:=ok.s0;have:=ok.s1;generalize hX:zSc h++R=X
  have hX':X=zG7 0 1++(zG7 (h.Scale+10).toNat 5++(shB h.Pos++(shB h.Neg++(smS (zMo h)++R)))):=by
   rw [← hX];unfold zSc;simp only [List.cons_append,List.append_assoc];rfl
  have d0:X.drop 0=zG7 0 1++(zG7 (h.Scale+10).toNat 5++(shB h.Pos++(shB h.Neg++(smS (zMo h)++R)))):=hX';have d1:=zLz d0;rw [zAt] at d1;have d2:=zLz d1;rw [zAt] at d2;have d3:=zLz d2;have d4:=zLz d3;have t:=zRc (by decide) d0 (by decide);have t5:=zRc (show (h.Scale+10).toNat<2^5 by omega) d1 (by decide);have p:=zWl ok.p ok.op z.1 d2;have q:=zWl ok.n ok.on z.2 d3;have r:=zWp (zMo h) _ R d4;rw [zJp] at r;rw [t,if_neg (by decide)];unfold zhh zcc;dsimp only;rw [t5];dsimp only;rw [p];dsimp only;rw [q];dsimp only;rw [List.length_replicate,List.length_replicate,r];dsimp only;rw [zWz (b:=⟨(((h.Scale+10).toNat:Nat):Int)-10,0,⟨h.Pos.Offset,List.replicate h.Pos.Counts.length 0⟩,⟨h.Neg.Offset,List.replicate h.Neg.Counts.length 0⟩⟩) (h:=h) (show (((h.Scale+10).toNat:Nat):Int)-10=h.Scale by omega) rfl rfl (List.length_replicate ..),fin _ _ rfl (decide_eq_false hd)]
  have el:0+1+5+(shB h.Pos).length+(shB h.Neg).length+(smS (zMo h)).length=(zSc h).length:=by
   unfold zSc;simp only [List.length_cons,List.length_append,zAt];omega
  show (⟨h,0+1+5+(shB h.Pos).length+(shB h.Neg).length+(smS (zMo h)).length,0⟩:zak)=_;rw [el]
end Go.Proofs.YthjhejgjcdajdaaGreatDoor
