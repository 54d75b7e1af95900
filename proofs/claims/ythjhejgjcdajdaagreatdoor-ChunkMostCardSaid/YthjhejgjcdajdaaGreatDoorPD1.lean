import Derived.Test.YthjhejgjcdajdaaGreatDoorVD2
import Derived.Test.YthjhejgjcdajdaaGreatDoorND
set_option linter.unusedVariables false
set_option linter.unusedSimpArgs false
namespace Go.Wk
def numB (l:List Bool):Nat:=l.foldl (fun a b=>2*a+b.toNat) 0
def zG9 (v:Nat):Nat→List Bool
 | 0=>[]
 | n+1=>zG9 (v/2) n++[v%2==1]
theorem foldB (l:List Bool):∀ a:Nat,l.foldl (fun a b=>2*a+b.toNat) a=a*2^l.length+numB l:=by
 induction l with
 | nil=>intro a;simp [numB]
 | cons b t ih=>
  intro a;have h1:=ih (2*a+b.toNat);have h2:=ih (2*0+b.toNat);simp only [numB,List.foldl_cons,List.length_cons] at *;rw [h1,h2,Nat.pow_succ,Nat.add_mul]
  have:2*a*2^t.length=a*(2^t.length*2):=by rw [Nat.mul_comm 2 a,Nat.mul_assoc,Nat.mul_comm 2]
  rw [this];simp only [Nat.mul_zero,Nat.zero_add];omega
theorem zXt:numB []=0:=rfl
theorem zH5 (a b:List Bool):numB (a++b)=numB a*2^b.length+numB b:=by
 unfold numB;rw [List.foldl_append,foldB];rfl
theorem zMo (b:Bool):numB [b]=b.toNat:=by simp [numB]
theorem zVk (b:Bool) (l:List Bool):numB (b::l)=b.toNat*2^l.length+numB l:=by
 have:=zH5 [b] l;rwa [zMo] at this
theorem zGl (l:List Bool):numB l<2^l.length:=by
 induction l with
 | nil=>simp [numB]
 | cons b t ih=>
  rw [zVk,List.length_cons,Nat.pow_succ]
  cases b<;>simp<;>omega
theorem zAw (n:Nat):∀ v,(zG9 v n).length=n:=by
 induction n with
 | zero=>intro v;rfl
 | succ n ih=>intro v;simp [zG9,ih]
theorem zV8 (v:Nat):zG9 v 0=[]:=rfl
theorem zb3 (v:Nat):(v%2==1).toNat=v%2:=by
 rcases Nat.mod_two_eq_zero_or_one v with h|h<;>simp [h]
theorem zOd (n:Nat):∀ v,numB (zG9 v n)=v%2^n:=by
 induction n with
 | zero=>intro v;simp [zG9,numB,Nat.mod_one]
 | succ n ih=>
  intro v;rw [zG9,zH5,ih,zMo,zb3]
  have:2^(n+1)=2*2^n:=by rw [Nat.pow_succ,Nat.mul_comm]
  rw [this,Nat.mod_mul];simp;omega
theorem zHm {v n:Nat} (h:v<2^n):numB (zG9 v n)=v:=by rw [zOd,Nat.mod_eq_of_lt h]
theorem zV9 (l:List Bool):∀ k,zG9 (k*2^l.length+numB l) l.length=l:=by
 generalize hn:l.length=n
 induction n generalizing l with
 | zero=>intro k;rw [List.eq_nil_of_length_eq_zero hn];rfl
 | succ n ih=>
  intro k
  have hne:l≠[]:=by intro h;subst h;simp at hn
  obtain ⟨t,b,rfl⟩:∃ t b,l=t++[b]:=⟨l.dropLast,l.getLast hne,(List.dropLast_concat_getLast hne).symm⟩
  have hl:t.length=n:=by simpa using hn
  rw [zG9,zH5,zMo]
  have e2:b.toNat<2:=by cases b<;>simp
  have e:(k*2^(n+1)+(numB t*2^[b].length+b.toNat))=2*(k*2^n+numB t)+b.toNat:=by
   have:k*2^(n+1)=2*(k*2^n):=by rw [Nat.pow_succ,← Nat.mul_assoc,Nat.mul_comm]
   rw [this];simp;omega
  rw [e]
  have e3:(2*(k*2^n+numB t)+b.toNat)/2=k*2^n+numB t:=by omega
  have e4:(2*(k*2^n+numB t)+b.toNat)%2=b.toNat:=by omega
  rw [e3,e4,ih t hl k]
  congr 1
  cases b<;>rfl
theorem zXe (l:List Bool):zG9 (numB l) l.length=l:=by
 have:=zV9 l 0;rwa [Nat.zero_mul,Nat.zero_add] at this
theorem zXg (v:Nat) (m n:Nat):zG9 v (m+n)=zG9 (v/2^n) m++zG9 v n:=by
 induction n generalizing v with
 | zero=>simp [zG9]
 | succ n ih=>
  rw [← Nat.add_assoc,zG9,ih,zG9,List.append_assoc]
  congr 2
  rw [Nat.div_div_eq_div_mul,Nat.pow_succ,Nat.mul_comm 2]
theorem zXf (v n:Nat):zG9 (v%2^n) n=zG9 v n:=by
 have h:=zXe (zG9 v n);rw [zAw,zOd] at h;exact h
def zI0 (l:List Bool):UInt8:=UInt8.ofNat (numB l*2^(8-l.length))
theorem zK9 {l:List Bool} (h:l.length≤8):(zI0 l).toNat=numB l*2^(8-l.length):=by
 unfold zI0;rw [UInt8.toNat_ofNat']
 apply Nat.mod_eq_of_lt
 have h1:=zGl l
 have h2:2^l.length*2^(8-l.length)=2^8:=by rw [← Nat.pow_add];congr 1;omega
 have h3:0<2^(8-l.length):=Nat.two_pow_pos _
 calc numB l*2^(8-l.length)<2^l.length*2^(8-l.length):=Nat.mul_lt_mul_of_pos_right h1 h3
  _=2^8:=h2
def zD9 (l:List Bool):List UInt8:=if h:l=[] then [] else zI0 (l.take 8)::zD9 (l.drop 8)
termination_by l.length
decreasing_by
 have:0<l.length:=by cases l with
  | nil=>exact (h rfl).elim
  | cons=>simp
 simp;omega
theorem zMn:zD9 []=[]:=by rw [zD9];simp
theorem zLn {l:List Bool} (h:l≠[]):zD9 l=zI0 (l.take 8)::zD9 (l.drop 8):=by rw [zD9,dif_neg h]
theorem zL6:∀ (k:Nat) (a b:List Bool),a.length=8*k→zD9 (a++b)=zD9 a++zD9 b:=by
 intro k
 induction k with
 | zero=>intro a b h;rw [List.eq_nil_of_length_eq_zero (by omega:a.length=0)];simp [zMn]
 | succ k ih=>
  intro a b h
  have h1:a≠[]:=by intro hh;subst hh;simp at h
  have h2:a++b≠[]:=by simp [h1]
  rw [zLn h1,zLn h2,List.take_append_of_le_length (by omega),List.drop_append_of_le_length (by omega),ih (a.drop 8) b (by simp;omega)]
  rfl
theorem zKd {l:List Bool} (h:l≠[]) (h8:l.length≤8):zD9 l=[zI0 l]:=by
 rw [zLn h,List.take_of_length_le h8,List.drop_of_length_le h8,zMn]
theorem zEj (l:List Bool):(zD9 l).length=(l.length+7)/8:=by
 generalize hn:l.length=n
 induction n using Nat.strongRecOn generalizing l with
 | ind n ih=>
  by_cases h:l=[]
  ·subst h;rw [zMn];simp at hn;subst hn;rfl
  ·have hp:0<l.length:=List.length_pos_iff.2 h
   rw [zLn h,List.length_cons,ih (n-8) (by omega) (l.drop 8) (by simp;omega)]
   omega
theorem cut8 (l:List Bool):∃ (k:Nat) (a b:List Bool),l=a++b∧a.length=8*k∧b.length<8∧b.length=l.length%8∧k=l.length/8:=
 ⟨l.length/8,l.take (8*(l.length/8)),l.drop (8*(l.length/8)),(List.take_append_drop _ _).symm,by simp;omega,by simp;omega,by simp;omega,rfl⟩
theorem zVf {l:List Bool} {i:Nat} (h:8*i<l.length):(zD9 l)[i]?=some (zI0 ((l.drop (8*i)).take 8)):=by
 have h1:l=l.take (8*i)++l.drop (8*i):=(List.take_append_drop _ _).symm
 have h2:(l.take (8*i)).length=8*i:=by simp;omega
 have h3:(zD9 (l.take (8*i))).length=i:=by rw [zEj,h2];omega
 have h4:l.drop (8*i)≠[]:=by intro hh;have:=congrArg List.length hh;simp at this;omega
 conv=>lhs;rw [h1,zL6 i _ _ h2,zLn h4]
 rw [List.getElem?_append_right (by omega),h3,Nat.sub_self];rfl
abbrev biZ (b:Bool):Int:=if b=true then 1 else 0
end Go.Wk
set_option linter.unusedVariables false
set_option linter.unusedSimpArgs false
namespace Go.Wk
theorem zJv (z:Int):(zAe z).toNat=(z%18446744073709551616).toNat:=by
 unfold zAe;rw [UInt64.toNat_ofNat'];apply Nat.mod_eq_of_lt;omega
theorem zCl {k:Nat} (h:k<18446744073709551616):(zAe (k:Int)).toNat=k:=by rw [zJv];omega
theorem zWy (z:Int):(zKv z).toNat=(z%256).toNat:=by
 unfold zKv;rw [UInt8.toNat_ofNat'];apply Nat.mod_eq_of_lt;omega
theorem zXm:(2:Nat)^64=18446744073709551616:=by decide
theorem zca {m:Nat} (h:64≤m):18446744073709551616≤2^m:=by rw [← zXm];exact Nat.pow_le_pow_right (by omega) h
theorem zJx (a:UInt64) (m:Nat):(shl64 a m).toNat=a.toNat*2^m%18446744073709551616:=by
 unfold shl64
 split
 ·rename_i h
  rw [UInt64.toNat_shiftLeft,Nat.shiftLeft_eq,zXm]
  have:(UInt64.ofNat m).toNat%64=m:=by rw [UInt64.toNat_ofNat'];omega
  rw [this]
 ·rename_i h
  obtain ⟨q,rfl⟩:∃ q,m=64+q:=⟨m-64,by omega⟩;rw [Nat.pow_add,zXm,Nat.mul_left_comm,Nat.mul_mod_right];rfl
theorem zOn {a:UInt64} {m:Nat} (h:a.toNat*2^m<18446744073709551616):(shl64 a m).toNat=a.toNat*2^m:=by rw [zJx,Nat.mod_eq_of_lt h]
theorem zJw (a:UInt64) (m:Nat):(shr64 a m).toNat=a.toNat/2^m:=by
 unfold shr64
 split
 ·rename_i h
  rw [UInt64.toNat_shiftRight,Nat.shiftRight_eq_div_pow]
  have:(UInt64.ofNat m).toNat%64=m:=by rw [UInt64.toNat_ofNat'];omega
  rw [this]
 ·rename_i h
  have:=a.toNat_lt;have h2:=zca (Nat.le_of_not_lt h);rw [Nat.div_eq_of_lt (by omega)];rfl
theorem zZa {k:Nat} (h:k≤64) (a:UInt64):(a&&&(shl64 1 k-1)).toNat=a.toNat%2^k:=by
 have ha:=a.toNat_lt
 rcases Nat.lt_or_ge k 64 with hk|hk
 ·have h1:(2:Nat)^k<2^64:=Nat.pow_lt_pow_right (by omega) hk
  have h2:=Nat.two_pow_pos k
  have e1:(shl64 1 k).toNat=2^k:=by rw [zOn];simp;simp;omega
  have e2:(shl64 1 k-1).toNat=2^k-1:=by
   rw [UInt64.toNat_sub_of_le _ _ (by rw [UInt64.le_iff_toNat_le,e1];exact h2),e1];rfl
  rw [UInt64.toNat_and,e2,Nat.and_two_pow_sub_one_eq_mod]
 ·obtain rfl:k=64:=by omega
  have:(shl64 1 64-1:UInt64)=18446744073709551615:=by decide
  rw [this,UInt64.toNat_and]
  have:(18446744073709551615:UInt64).toNat=2^64-1:=by decide
  rw [this,Nat.and_two_pow_sub_one_eq_mod]
theorem zSy (a:UInt8) (m:Nat):(shl8 a m).toNat=a.toNat*2^m%256:=by
 unfold shl8
 split
 ·rename_i h
  rw [UInt8.toNat_shiftLeft,Nat.shiftLeft_eq]
  have:(UInt8.ofNat m).toNat%8=m:=by rw [UInt8.toNat_ofNat'];omega
  rw [this]
 ·rename_i h
  obtain ⟨q,rfl⟩:∃ q,m=8+q:=⟨m-8,by omega⟩;rw [Nat.pow_add,Nat.mul_left_comm,show (2:Nat)^8=256 by decide,Nat.mul_mod_right];rfl
theorem zX7 (a:UInt8) (m:Nat):(shr8 a m).toNat=a.toNat/2^m:=by
 unfold shr8
 split
 ·rename_i h
  rw [UInt8.toNat_shiftRight,Nat.shiftRight_eq_div_pow]
  have:(UInt8.ofNat m).toNat%8=m:=by rw [UInt8.toNat_ofNat'];omega
  rw [this]
 ·rename_i h
  have:=a.toNat_lt
  have h2:256≤2^m:=by rw [show (256:Nat)=2^8 by decide];exact Nat.pow_le_pow_right (by omega) (by omega)
  rw [Nat.div_eq_of_lt (by omega)];rfl
theorem mask8 {k:Nat} (h:k≤8) (a:UInt8):(a&&&(shl8 1 k-1)).toNat=a.toNat%2^k:=by
 have ha:=a.toNat_lt
 have hk:k=0∨k=1∨k=2∨k=3∨k=4∨k=5∨k=6∨k=7∨k=8:=by omega
 have key:(shl8 1 k-1).toNat=2^k-1:=by rcases hk with rfl | rfl | rfl | rfl | rfl | rfl | rfl | rfl | rfl<;>decide
 rw [UInt8.toNat_and,key,Nat.and_two_pow_sub_one_eq_mod]
theorem zVg {a b i:Nat} (h:b<2^i):(a*2^i)|||b=a*2^i+b:=by
 rw [← Nat.shiftLeft_eq,← Nat.shiftLeft_add_eq_or_of_lt h]
theorem zR5 {α:Type} (l:List α) (x y:α):zGq (l++[x]) (l.length:Int) y=l++[y]:=by
 unfold zGq;simp
theorem zLm {a b:Nat} (h:b≠0) (ha:a≤9223372036854775807):quoZ (a:Int) (b:Int)=some ((a/b:Nat):Int):=by
 unfold quoZ;rw [if_neg (by omega),← Int.ofNat_tdiv];have h1:a/b≤a:=Nat.div_le_self a b;generalize a/b=q at h1 ⊢;rw [zAr (by omega) (by omega)]
theorem zMj {a b:Nat} (h:b≠0):remZ (a:Int) (b:Int)=some ((a%b:Nat):Int):=by
 unfold remZ;rw [if_neg (by omega),← Int.ofNat_tmod]
end Go.Wk
set_option maxRecDepth 20000
set_option linter.unusedVariables false
set_option linter.unusedSimpArgs false
namespace Go.Proofs.YthjhejgjcdajdaaGreatDoor
open Go Go.RowKit Go.Wk
abbrev WrO (L:List Bool):zA2:=⟨zD9 L,(L.length:Int)⟩
theorem zRd {A B:List Bool} {q:Nat} (hA:A.length=8*q):zD9 (A++B)=zD9 A++zD9 B:=zL6 q A B hA
theorem zWc {B K:List Bool} (h:B.length+K.length≤8):zI0 (B++K)=zI0 B|||UInt8.ofNat (numB K*2^(8-B.length-K.length)):=by
 apply UInt8.toNat_inj.1
 have hk:=zGl K;have hp:=Nat.two_pow_pos (8-B.length-K.length)
 have e1:2^K.length*2^(8-B.length-K.length)=2^(8-B.length):=by rw [← Nat.pow_add];congr 1;omega
 have h1:numB K*2^(8-B.length-K.length)<2^(8-B.length):=by rw [← e1];exact Nat.mul_lt_mul_of_pos_right hk hp
 have h2:2^(8-B.length)≤2^8:=Nat.pow_le_pow_right (by omega) (by omega)
 have h3:(UInt8.ofNat (numB K*2^(8-B.length-K.length))).toNat=numB K*2^(8-B.length-K.length):=by
  rw [UInt8.toNat_ofNat'];exact Nat.mod_eq_of_lt (by omega)
 rw [UInt8.toNat_or,h3,zK9 (by simp;omega),zK9 (by omega),zVg h1,zH5,List.length_append,Nat.add_mul,Nat.mul_assoc,show 8-(B.length+K.length)=8-B.length-K.length by omega,e1]
theorem za8 (v:UInt64) {A B:List Bool} {q m k:Nat} (hA:A.length=8*q) (hm:m≤64) (hk:k≤m) (hk0:0<k) (hB:B.length+k≤8) (hq:q≤1000000000) :
 zGq (zD9 A++[zI0 B]) (W64 (((zD9 A++[zI0 B]).length:Int)-1)) (zI0 B|||zKv ((shl64 ((shr64 v ((zAe (W64 ((m:Int)-(k:Int)))).toNat))&&&((shl64 (1:UInt64) ((zAe (k:Int)).toNat))-(1:UInt64))) ((zAe (W64 (((8-B.length:Nat):Int)-(k:Int)))).toNat)).toNat:Int))=zD9 (A++(B++zG9 (v.toNat/2^(m-k)) k)):=by
 have hl:(zD9 A).length=q:=by rw [zEj,hA];omega
 have e1:W64 (((zD9 A++[zI0 B]).length:Int)-1)=((zD9 A).length:Int):=by rw [List.length_append,hl];simp only [List.length_cons,List.length_nil];rw [zAr (by omega) (by omega)];omega
 rw [e1,zR5]
 have e2:(zAe (W64 ((m:Int)-(k:Int)))).toNat=m-k:=by rw [zAr (by omega) (by omega),show (m:Int)-(k:Int)=((m-k:Nat):Int) by omega,zCl (by omega)]
 have e3:(zAe (k:Int)).toNat=k:=zCl (by omega)
 have e4:(zAe (W64 (((8-B.length:Nat):Int)-(k:Int)))).toNat=8-B.length-k:=by rw [zAr (by omega) (by omega),show ((8-B.length:Nat):Int)-(k:Int)=((8-B.length-k:Nat):Int) by omega,zCl (by omega)]
 rw [e2,e3,e4];generalize hK:zG9 (v.toNat/2^(m-k)) k=K
 have hKl:K.length=k:=by rw [← hK,zAw]
 have e5:((shr64 v (m-k))&&&((shl64 (1:UInt64) k)-(1:UInt64))).toNat=numB K:=by rw [zZa (by omega),zJw,← hK,zOd]
 have hK1:=zGl K;rw [hKl] at hK1
 have h8:numB K*2^(8-B.length-k)<256:=by
  have e1:2^k*2^(8-B.length-k)=2^(8-B.length):=by rw [← Nat.pow_add];congr 1;omega
  have h1:numB K*2^(8-B.length-k)<2^(8-B.length):=by rw [← e1];exact Nat.mul_lt_mul_of_pos_right hK1 (Nat.two_pow_pos _)
  have h2:2^(8-B.length)≤2^8:=Nat.pow_le_pow_right (by omega) (by omega)
  omega
 have e6:(shl64 ((shr64 v (m-k))&&&((shl64 (1:UInt64) k)-(1:UInt64))) (8-B.length-k)).toNat=numB K*2^(8-B.length-k):=by
  rw [zOn (by rw [e5];omega),e5]
 rw [e6]
 have hne:B++K≠[]:=by intro h;have:=congrArg List.length h;simp [hKl] at this;omega
 rw [zRd hA,zKd hne (by simp [hKl];omega),zWc (by rw [hKl];exact hB),hKl]
 congr 3
 apply UInt8.toNat_inj.1
 rw [zWy,UInt8.toNat_ofNat',show (256:Int)=((256:Nat):Int) by rfl,← Int.natCast_emod,Int.toNat_natCast]
theorem za3 {M:List Bool} (h:M.length≤8000000000):zCr (WrO M)=some ((8*((M.length+7)/8)-M.length:Nat):Int):=by
 unfold zCr;dsimp only
 have e:W64 (8*((zD9 M).length:Int))=8*((zD9 M).length:Int):=by rw [zEj,zAr (by omega) (by omega)]
 rw [e,zEj,zAr (by omega) (by omega)]
 congr 1;omega
theorem zXl (v:UInt64) (j2:zA2→Option (Bool×zA2)):∀ (m:Nat) (M:List Bool) (n:Nat),m≤64→M.length+m≤8000000000→m<n →
 zC9 v j2 n (m:Int) (WrO M)=j2 (WrO (M++zG9 v.toNat m)):=by
 intro m
 induction m using Nat.strongRecOn with
 | ind m ih=>
  intro M n hm hM hn;obtain ⟨n,rfl⟩:∃ k,n=k+1:=⟨n-1,by omega⟩;rw [zC9]
  by_cases h0:m=0
  ·subst h0;rw [if_neg (by omega),zV8,List.append_nil]
  rw [if_pos (by omega),za3 (by omega),zAn,zBm];obtain ⟨q,A,B,hAB,hA,hB,hBl,hq⟩:=cut8 M
  have hl:M.length=8*q+B.length:=by rw [hAB,List.length_append,hA]
  generalize hy:({ b:=zD9 A++[zI0 B],n:=(M.length:Int) }:zA2)=y
  have key:(zCr y).bind (fun p18 => jn (fun (y21:UInt64) =>
   ((idx y.b (W64 ((y.b.length:Int)-1))).bind fun z26=>
    (idx y.b (W64 ((y.b.length:Int)-1))).bind fun z27=>
    zC9 v j2 n (W64 ((m:Int)-(min (m:Int) p18))) ({ b:=(zGq y.b (W64 ((y.b.length:Int)-1)) (z26|||(zKv ((shl64 y21 ((zAe (W64 (p18-(min (m:Int) p18)))).toNat)).toNat:Int)))),n:=W64 (y.n+(min (m:Int) p18)) }:zA2))) fun j4=>
   if min (m:Int) p18<64 then
   (j4 ((shr64 v ((zAe (W64 ((m:Int)-(min (m:Int) p18)))).toNat))&&&((shl64 (1:UInt64) ((zAe (min (m:Int) p18)).toNat))-(1:UInt64))))
   else
   (j4 (shr64 v ((zAe (W64 ((m:Int)-(min (m:Int) p18)))).toNat))))=j2 (WrO (M++zG9 v.toNat m)):=by
   have hyb:y.b=zD9 A++[zI0 B]:=by rw [← hy]
   have hyn:y.n=(M.length:Int):=by rw [← hy]
   have hlen:(zD9 A).length=q:=by rw [zEj,hA];omega
   have er:zCr y=some ((8-B.length:Nat):Int):=by
    unfold zCr;rw [hyb,hyn,List.length_append,hlen];simp only [List.length_cons,List.length_nil];have e:W64 (8*((q+(0+1):Nat):Int))=8*((q+(0+1):Nat):Int):=zAr (by omega) (by omega);rw [e,zAr (by omega) (by omega)]
    congr 1;omega
   rw [er,zAn,zBm,hyb,hyn];generalize hk:min m (8-B.length)=k
   have ek:min (m:Int) ((8-B.length:Nat):Int)=(k:Int):=by omega
   rw [ek,if_pos (by omega)];dsimp only
   have ei:idx (zD9 A++[zI0 B]) (W64 (((zD9 A++[zI0 B]).length:Int)-1))=some (zI0 B):=by
    have e1:W64 (((zD9 A++[zI0 B]).length:Int)-1)=((zD9 A).length:Int):=by rw [List.length_append,hlen];simp only [List.length_cons,List.length_nil];rw [zAr (by omega) (by omega)];omega
    rw [e1];exact zGp _ _ _
   rw [ei,zAn,zAn,za8 v hA hm (by omega) (by omega) (by omega) (by omega)]
   have e7:W64 ((m:Int)-(k:Int))=((m-k:Nat):Int):=by rw [zAr (by omega) (by omega)];omega
   have e8:W64 ((M.length:Int)+(k:Int))=((M++zG9 (v.toNat/2^(m-k)) k).length:Int):=by rw [zAr (by omega) (by omega),List.length_append,zAw];omega
   have e9:A++(B++zG9 (v.toNat/2^(m-k)) k)=M++zG9 (v.toNat/2^(m-k)) k:=by rw [hAB,List.append_assoc]
   rw [e7,e8,e9];have:=ih (m-k) (by omega) (M++zG9 (v.toNat/2^(m-k)) k) n (by omega) (by rw [List.length_append,zAw];omega) (by omega);rw [this,List.append_assoc,← zXg,show k+(m-k)=m by omega]
  by_cases hB0:B.length=0
  ·rw [if_pos (by omega)]
   obtain rfl:B=[]:=List.eq_nil_of_length_eq_zero hB0
   have hMA:M=A:=by rw [hAB,List.append_nil]
   have hb:zI0 []=0:=by decide
   rw [zDg (by rw [zEj];simp;omega),zAn];rw [hb,← hMA] at hy;subst hy;exact key
  ·rw [if_neg (by omega)]
   have hne:B≠[]:=by intro h;subst h;exact hB0 rfl
   have:WrO M=y:=by rw [← hy];unfold WrO;rw [hAB,zRd hA,zKd hne (by omega)]
   rw [this];exact key
theorem zI7 {M:List Bool} {v:UInt64} {n:Nat} (hM:M.length+n≤8000000000) (hn:n≤64) (hv:v.toNat<2^n) :
 zAf (WrO M) v (n:Int)=some (true,WrO (M++zG9 v.toNat n)):=by
 unfold zAf;simp only [zBm];rw [if_neg (by omega)];obtain ⟨f,hf⟩:=zM9 65 (by omega);have hl:=zXl v (fun y8=>some (true,y8)) n M fuel hn hM (by rw [hf];omega)
 by_cases h64:n<64
 ·have e1:(zAe (n:Int)).toNat=n:=zCl (by omega)
  rw [if_pos (by omega),e1,zJw,Nat.div_eq_of_lt hv,decide_eq_false (by simp)];simp only [Bool.false_eq_true,if_false];exact hl
 ·rw [if_neg (by omega)]
  simp only [Bool.false_eq_true,if_false];exact hl
end Go.Proofs.YthjhejgjcdajdaaGreatDoor
set_option maxRecDepth 20000
set_option linter.unusedVariables false
set_option linter.unusedSimpArgs false
namespace Go.Proofs.YthjhejgjcdajdaaGreatDoor
open Go Go.RowKit Go.Wk
abbrev RdO (L:List Bool) (a:Nat):zA0:=⟨zD9 L,(L.length:Int),(a:Int)⟩
theorem zaw {a b c k e:Nat} (hb:b<2^k) (hc:c<2^e):(a*2^(k+e)+b*2^e+c)/2^e%2^k=b:=by
 have hp:=Nat.two_pow_pos e
 have e1:a*2^(k+e)+b*2^e+c=(a*2^k+b)*2^e+c:=by rw [Nat.add_mul,Nat.mul_assoc,← Nat.pow_add]
 rw [e1,Nat.mul_comm,Nat.mul_add_div hp,Nat.div_eq_of_lt hc,Nat.add_zero,Nat.mul_comm,Nat.mul_add_mod,Nat.mod_eq_of_lt hb]
theorem zYf {C1 K C2:List Bool} (h:C1.length+K.length+C2.length≤8):(zI0 (C1++(K++C2))).toNat/2^(8-C1.length-K.length)%2^K.length=numB K:=by
 have hl:(C1++(K++C2)).length=C1.length+K.length+C2.length:=by simp [Nat.add_assoc]
 rw [zK9 (by omega),zH5,zH5,hl];have h2:=zGl C2;have hp:=Nat.two_pow_pos (8-(C1.length+K.length+C2.length))
 have e1:2^C2.length*2^(8-(C1.length+K.length+C2.length))=2^(8-C1.length-K.length):=by rw [← Nat.pow_add];congr 1;omega
 have e2:2^(K++C2).length*2^(8-(C1.length+K.length+C2.length))=2^(K.length+(8-C1.length-K.length)):=by rw [← Nat.pow_add];congr 1;simp;omega
 rw [Nat.add_mul,Nat.add_mul,Nat.mul_assoc,e2,Nat.mul_assoc,e1,← Nat.add_assoc];exact zaw (zGl K) (by rw [← e1];exact Nat.mul_lt_mul_of_pos_right h2 hp)
theorem zVo {L:List Bool} {a k:Nat} (h:a+k≤L.length) (hk:k≤8-a%8) (hk0:0<k) :
 ∃ z,idx (zD9 L) ((a/8:Nat):Int)=some z∧z.toNat/2^(8-a%8-k)%2^k=numB ((L.drop a).take k):=by
 refine ⟨_,by rw [zNg,zVf (by omega)],?_⟩
 have e1:(L.drop (8*(a/8))).take 8=((L.drop (8*(a/8))).take 8).take (a%8)++((((L.drop (8*(a/8))).take 8).drop (a%8)).take k++(((L.drop (8*(a/8))).take 8).drop (a%8)).drop k):=by
  rw [List.take_append_drop,List.take_append_drop]
 have e2:(((L.drop (8*(a/8))).take 8).drop (a%8)).take k=(L.drop a).take k:=by
  rw [List.drop_take,List.drop_drop,show 8*(a/8)+a%8=a by omega,List.take_take,Nat.min_eq_left hk]
 have l1:(((L.drop (8*(a/8))).take 8).take (a%8)).length=a%8:=by simp;omega
 have l2:((L.drop a).take k).length=k:=by simp;omega
 have l3:((((L.drop (8*(a/8))).take 8).drop (a%8)).drop k).length+a%8+k≤8:=by simp;omega
 rw [e1,e2];have:=zYf (C1:=((L.drop (8*(a/8))).take 8).take (a%8)) (K:=(L.drop a).take k) (C2:=(((L.drop (8*(a/8))).take 8).drop (a%8)).drop k) (by rw [l1,l2];omega);rw [l1,l2] at this;exact this
theorem zVn {L:List Bool} (hL:L.length≤8000000000) (a0:Nat) (j2:UInt64→Option (UInt64×Bool)):∀ (m a:Nat) (v:UInt64) (n:Nat),m≤64→a+m≤L.length→v.toNat<2^(64-m)→m<n →
 zCk (RdO L a0) j2 n (m:Int) v (a:Int)=j2 (UInt64.ofNat (v.toNat*2^m+numB ((L.drop a).take m))):=by
 intro m
 induction m using Nat.strongRecOn with
 | ind m ih=>
  intro a v n hm hM hv hn;obtain ⟨n,rfl⟩:∃ k,n=k+1:=⟨n-1,by omega⟩;rw [zCk]
  by_cases h0:m=0
  ·subst h0
   rw [if_neg (by omega)]
   congr 1
   apply UInt64.toNat_inj.1
   rw [UInt64.toNat_ofNat'];have:=v.toNat_lt;simp [zXt]
  have q1:remZ (a:Int) 8=some ((a%8:Nat):Int):=zMj (b:=8) (by omega);have q2:quoZ (a:Int) 8=some ((a/8:Nat):Int):=zLm (b:=8) (by omega) (by omega);rw [if_pos (by omega),q1,zAn,q2,zAn]
  have e8:W64 (8-((a%8:Nat):Int))=((8-a%8:Nat):Int):=by rw [zAr (by omega) (by omega)];omega
  generalize hk:min m (8-a%8)=k
  have ek:min (m:Int) ((8-a%8:Nat):Int)=(k:Int):=by omega
  obtain ⟨z,hz,hzn⟩:=zVo (L:=L) (a:=a) (k:=k) (by omega) (by omega) (by omega)
  have e9:W64 (((8-a%8:Nat):Int)-(k:Int))=((8-a%8-k:Nat):Int):=by rw [zAr (by omega) (by omega)];omega
  have e10:W64 ((m:Int)-(k:Int))=((m-k:Nat):Int):=by rw [zAr (by omega) (by omega)];omega
  have e11:W64 ((a:Int)+(k:Int))=((a+k:Nat):Int):=by rw [zAr (by omega) (by omega)];omega
  show ((idx (zD9 L) ((a/8:Nat):Int)).bind _)=_;rw [hz,zAn];rw [e8,ek,e9,e10,e11,zCl (by omega),zCl (by omega)]
  have hp:(((shr8 z (8-a%8-k))&&&((shl8 (1:UInt8) k)-(1:UInt8))).toNat)=numB ((L.drop a).take k):=by
   rw [mask8 (by omega),zX7,hzn]
  rw [hp]
  have hkl:((L.drop a).take k).length=k:=by simp;omega
  have hK:=zGl ((L.drop a).take k);rw [hkl] at hK;have hK8:2^k≤2^8:=Nat.pow_le_pow_right (by omega) (by omega)
  have hvk:v.toNat*2^k<2^(64-(m-k)):=by
   have e1:2^(64-m)*2^k=2^(64-(m-k)):=by rw [← Nat.pow_add];congr 1;omega
   rw [← e1];exact Nat.mul_lt_mul_of_pos_right hv (Nat.two_pow_pos _)
  have h64:2^(64-(m-k))≤2^64:=Nat.pow_le_pow_right (by omega) (by omega)
  have hnv:((shl64 v k)|||(zAe ((numB ((L.drop a).take k):Nat):Int))).toNat=v.toNat*2^k+numB ((L.drop a).take k):=by
   rw [UInt64.toNat_or,zOn (by omega),zCl (by omega),zVg hK]
  have hlt:v.toNat*2^k+numB ((L.drop a).take k)<2^(64-(m-k)):=by
   have e1:2^(64-(m-k))=2^(64-m)*2^k:=by rw [← Nat.pow_add];congr 1;omega
   rw [e1]
   calc v.toNat*2^k+numB ((L.drop a).take k)<v.toNat*2^k+2^k:=by omega
    _=(v.toNat+1)*2^k:=by rw [Nat.add_mul,Nat.one_mul]
    _≤2^(64-m)*2^k:=Nat.mul_le_mul_right _ hv
  rw [ih (m-k) (by omega) (a+k) _ n (by omega) (by omega) (by rw [hnv];exact hlt) (by omega),hnv]
  congr 2
  have e12:(L.drop a).take m=(L.drop a).take k++(L.drop (a+k)).take (m-k):=by
   rw [← List.drop_drop,← List.take_add];congr 1;omega
  have hr:((L.drop (a+k)).take (m-k)).length=m-k:=by simp;omega
  rw [e12,zH5,hr,Nat.add_mul,Nat.mul_assoc,← Nat.pow_add,show k+(m-k)=m by omega,Nat.add_assoc]
theorem zP1 {L:List Bool} {a n:Nat} (hL:L.length≤8000000000) (ha:a≤L.length) (hn:n≤64) :
 zCa (RdO L a) (n:Int)=some (if a+n≤L.length then (UInt64.ofNat (numB ((L.drop a).take n)),true) else (0,false)):=by
 unfold zCa zBy;simp only [zBm,zAn];rw [if_neg (by omega),zAr (by omega) (by omega)]
 by_cases h:a+n≤L.length
 ·rw [if_pos h,decide_eq_false (by omega)]
  simp only [Bool.false_eq_true,if_false];obtain ⟨f,hf⟩:=zM9 65 (by omega);have h1:(0:UInt64).toNat=0:=rfl;have hl:=zVn hL a (fun y13=>some (y13,true)) n a 0 fuel hn h (by rw [h1];exact Nat.two_pow_pos _) (by rw [hf];omega);rw [h1,Nat.zero_mul,Nat.zero_add] at hl;exact hl
 ·rw [if_neg h,decide_eq_true (by omega)];rfl
theorem zN2 {L:List Bool} {a n:Nat} (hL:L.length≤8000000000) (ha:a+n≤L.length):zBx (RdO L a) (n:Int)=some (true,RdO L (a+n)):=by
 unfold zBx zBy;simp only [zBm,zAn];rw [if_neg (by omega),zAr (by omega) (by omega),decide_eq_false (by omega)];simp only [Bool.false_eq_true,if_false];rw [zAr (by omega) (by omega)];simp
theorem zQa {L:List Bool} {a n:Nat} (hL:L.length≤8000000000) (ha:a≤L.length) (hn:n≤64) :
 zCs (RdO L a) (n:Int)=some (if a+n≤L.length then (UInt64.ofNat (numB ((L.drop a).take n)),true,RdO L (a+n)) else (0,false,RdO L a)):=by
 unfold zCs;rw [zP1 hL ha hn,zAn];simp only [zBm]
 by_cases h:a+n≤L.length
 ·rw [if_pos h,if_pos h];simp only [if_true]
  rw [zAr (by omega) (by omega)];simp
 ·rw [if_neg h,if_neg h];simp only [Bool.false_eq_true,if_false]
theorem zXi {L:List Bool} {a:Nat} (hL:L.length≤8000000000) (ha:a≤L.length):zBy (RdO L a)=some ((L.length-a:Nat):Int):=by
 unfold zBy;dsimp only;rw [zAr (by omega) (by omega)];congr 1;omega
end Go.Proofs.YthjhejgjcdajdaaGreatDoor
set_option maxRecDepth 20000
set_option linter.unusedVariables false
set_option linter.unusedSimpArgs false
namespace Go.Proofs.YthjhejgjcdajdaaGreatDoor
open Go Go.RowKit Go.Wk
abbrev zs (l:List Bool):List Int:=l.map biZ
end Go.Proofs.YthjhejgjcdajdaaGreatDoor
set_option linter.unusedVariables false
set_option linter.unusedSimpArgs false
namespace Go.Proofs.YthjhejgjcdajdaaGreatDoor
open Go Go.RowKit Go.Wk
theorem zNf {α β:Type} {F:α} {B:α→β} {r:β} (Q:α→Prop) (hF:Q F) (hB:∀ j,Q j→B j=r):jn F B=r:=hB F hF
def bl (n:Nat):Nat:=if n=0 then 0 else n.log2+1
theorem zUa (n:Nat):n<2^bl n:=by
 unfold bl;split
 ·rename_i h;subst h;decide
 ·exact Nat.lt_log2_self
theorem zb2 {n:Nat} (h:n≠0):2^(bl n-1)≤n:=by
 unfold bl;rw [if_neg h];exact Nat.log2_self_le h
theorem bl_of {n L:Nat} (h1:n<2^L) (h2:L=0∨2^(L-1)≤n):bl n=L:=by
 rcases h2 with rfl|h2
 ·have:n=0:=by simpa using h1
  subst this;rfl
 ·have hn:n≠0:=by have:=Nat.two_pow_pos (L-1);omega
  have hl:=zb2 hn;have hh:=zUa n;have a1:L-1<bl n:=(Nat.pow_lt_pow_iff_right (a:=2) (by omega)).1 (by omega);have a2:bl n-1<L:=(Nat.pow_lt_pow_iff_right (a:=2) (by omega)).1 (by omega)
  have a3:0<bl n:=by omega
  omega
theorem zQv {n:Nat} (k:Nat) (h:2^k≤n):bl n=bl (n/2^k)+k:=by
 have hp:=Nat.two_pow_pos k;have hq:n/2^k≠0:=Nat.pos_iff_ne_zero.1 (Nat.div_pos h hp);have h1:=zUa (n/2^k);have h2:=zb2 hq
 have h3:0<bl (n/2^k):=by
  rcases Nat.eq_zero_or_pos (bl (n/2^k)) with h0|h0
  ·rw [h0] at h1;exact absurd (by simpa using h1) hq
  ·exact h0
 refine bl_of ?_ (.inr ?_)
 ·rw [Nat.pow_add];exact (Nat.div_lt_iff_lt_mul hp).1 h1
 ·rw [show bl (n/2^k)+k-1=bl (n/2^k)-1+k by omega,Nat.pow_add];exact (Nat.le_div_iff_mul_le hp).1 h2
theorem zRt {n k:Nat} (h:n<2^k):bl n≤k:=by
 by_cases h0:n=0
 ·subst h0;exact Nat.zero_le _
 ·have:=zb2 h0
  have:bl n-1<k:=(Nat.pow_lt_pow_iff_right (a:=2) (by omega)).1 (by omega)
  omega
theorem tabL {T:List UInt8} (hT:∀ n,n<256→T[n]?=some (UInt8.ofNat (bl n))) {n:Nat} (h:n<256):idx T (n:Int)=some (UInt8.ofNat (bl n)):=by rw [zNg];exact hT n h
theorem zXr {n:Nat} (h:n<256):(UInt8.ofNat (bl n)).toNat=bl n:=by
 have:bl n≤8:=zRt h;simp [UInt8.toNat_ofNat'];omega
theorem zTg (x:UInt64):zFb x=some ((bl x.toNat:Nat):Int):=by
 unfold zFb
 have hsh:∀ (y:UInt64) (k:Nat),k<64→(y>>>UInt64.ofNat k).toNat=y.toNat/2^k:=fun y k hk=>by
  rw [UInt64.toNat_shiftRight,Nat.shiftRight_eq_div_pow];congr 2;simp [UInt64.toNat_ofNat'];omega
 refine zNf (fun j=>∀ (y:UInt64) (a:Int),y.toNat<4294967296→0≤a→a≤32→j y a=some (a+(bl y.toNat:Nat))) (fun y a hy h0 h1=>?_) (fun j hj=>?_)
 ·refine zNf (fun j=>∀ (y:UInt64) (a:Int),y.toNat<65536→0≤a→a≤48→j y a=some (a+(bl y.toNat:Nat))) (fun y a hy h0 h1=>?_) (fun j hj=>?_)
  ·refine zNf (fun j=>∀ (y:UInt64) (a:Int),y.toNat<256→0≤a→a≤56→j y a=some (a+(bl y.toNat:Nat))) (fun y a hy h0 h1=>?_) (fun j hj=>?_)
   ·have hb:bl y.toNat≤8:=zRt hy
    have e8:(zKv (y.toNat:Int)).toNat=y.toNat:=by simp [zKv,UInt8.toNat_ofNat'];omega
    dsimp only;rw [e8,tabL ?_ hy]
    ·rw [zAn,zXr hy,zAr (by omega) (by omega)]
    ·decide +kernel
   ·by_cases hc:(y.toNat:Int)≥256
    ·rw [if_pos hc,zAr (by omega) (by omega),hj _ _ (by rw [hsh _ _ (by omega)];omega) (by omega) (by omega),hsh _ _ (by omega),zQv (n:=y.toNat) 8 (by omega)]
     congr 1;omega
    ·rw [if_neg hc,hj _ _ (by omega) h0 (by omega)]
  ·by_cases hc:(y.toNat:Int)≥65536
   ·rw [if_pos hc,zAr (by omega) (by omega),hj _ _ (by rw [hsh _ _ (by omega)];omega) (by omega) (by omega),hsh _ _ (by omega),zQv (n:=y.toNat) 16 (by omega)]
    congr 1;omega
   ·rw [if_neg hc,hj _ _ (by omega) h0 (by omega)]
 ·have hx:=x.toNat_lt
  by_cases hc:(x.toNat:Int)≥4294967296
  ·rw [if_pos hc,hj _ _ (by rw [hsh _ _ (by omega)];omega) (by omega) (by omega),hsh _ _ (by omega),zQv (n:=x.toNat) 32 (by omega)]
   congr 1;omega
  ·rw [if_neg hc,hj _ _ (by omega) (by omega) (by omega)];congr 1;omega
def oth (n:Nat):Nat:=if 56<bl n then 8 else (bl n-1)/7
theorem zRe (x:UInt64):zH9 x=some ((oth x.toNat:Nat):Int):=by
 unfold zH9;have hb:bl x.toNat≤64:=zRt x.toNat_lt;rw [zTg,zAn];unfold oth
 by_cases h:56<bl x.toNat
 ·rw [if_pos h,if_pos (by omega)];rfl
 ·rw [if_neg h,if_neg (by omega),zAr (by omega) (by omega)]
  unfold quoZ;rw [if_neg (by omega),zAn];rw [Int.tdiv_eq_ediv_of_nonneg (by omega),zAr (by omega) (by omega)]
  congr 1;omega
theorem zT9 (n:Nat):oth n≤8:=by unfold oth;split<;>omega
theorem zce {n:Nat} (h:oth n<8):n<2^(7*oth n+7):=by
 have h1:=zUa n;unfold oth at h ⊢
 split at h
 ·omega
 ·rename_i hb
  rw [if_neg hb];exact Nat.lt_of_lt_of_le h1 (Nat.pow_le_pow_right (by omega) (by omega))
def byt (n:Nat):Nat→List UInt8
 | 0=>[]
 | k+1=>UInt8.ofNat (n/256^k%256)::byt n k
theorem zSk (n k:Nat):(byt n k).length=k:=by induction k with
 | zero=>rfl
 | succ k ih=>simp [byt,ih]
def zW0 (n k:Nat):UInt8:=if k<8 then UInt8.ofNat (256-2^(8-k)+n/256^k) else 255
def enc (v:UInt64):List UInt8:=zW0 v.toNat (oth v.toNat)::byt v.toNat (oth v.toNat)
theorem zQp (v:UInt64):(enc v).length=oth v.toNat+1:=by simp [enc,zSk]
theorem zIw (v:UInt64):(enc v).length≤9:=by have:=zT9 v.toNat;rw [zQp];omega
theorem zZ6 (k:Nat):256^k=2^(8*k):=by rw [Nat.pow_mul]
theorem zUw (x:UInt64) (k:Nat) (hk:k<8):(shr64 x (8*k)).toNat=x.toNat/256^k:=by
 unfold shr64;rw [if_pos (by omega),UInt64.toNat_shiftRight,Nat.shiftRight_eq_div_pow,zZ6]
 congr 2
 simp [UInt64.toNat_ofNat'];omega
theorem zQ7 (n:Nat):zKv (n:Int)=UInt8.ofNat (n%256):=by unfold zKv;congr 1
theorem zSs (k:Nat) (h:k≤64):(zAe (k:Int)).toNat=k:=by
 simp [zAe,UInt64.toNat_ofNat'];omega
theorem zMf {n:Nat} (h:oth n<8):n/256^oth n<2^(7-oth n):=by
 have h1:=zce h;rw [Nat.div_lt_iff_lt_mul (Nat.pow_pos (by omega)),zZ6,← Nat.pow_add];rw [show 7-oth n+8*oth n=7*oth n+7 by omega];exact h1
theorem zY6:∀ k,k<8→∀ t,t<2^(7-k)→shl8 (255:UInt8) (8-k)|||UInt8.ofNat (t%256)=UInt8.ofNat (256-2^(8-k)+t):=by
 decide +kernel
theorem zbo (x:UInt64) (j:zAd→Option zAd):∀ (k n:Nat) (b:List UInt8),k<n→k≤8→b.length+k≤1073741824→zCi x j n (k:Int) ⟨b⟩=j ⟨b++byt x.toNat k⟩
 | 0,n,b,hn,_,_=>by
  obtain ⟨n,rfl⟩:∃ m,n=m+1:=⟨n-1,by omega⟩;rw [zCi,if_neg (by omega)];simp [byt]
 | k+1,n,b,hn,hk,hb=>by
  obtain ⟨n,rfl⟩:∃ m,n=m+1:=⟨n-1,by omega⟩;rw [zCi,if_pos (by omega),zAr (z:=8*((k+1:Nat):Int)) (by omega) (by omega),zAr (z:=8*((k+1:Nat):Int)-8) (by omega) (by omega)];rw [show 8*((k+1:Nat):Int)-8=((8*k:Nat):Int) by omega,zSs _ (by omega),zUw _ _ (by omega),zQ7];rw [zDg (by simp;omega),zAn,zAr (by omega) (by omega),show ((k+1:Nat):Int)-1=(k:Int) by omega];rw [zbo x j k n _ (by omega) (by omega) (by simp;omega)];simp [byt]
theorem zRy (b:List UInt8) (v:UInt64) (h:b.length≤1000000000):zEi ⟨b⟩ v=some ⟨b++enc v⟩:=by
 unfold zEi;have hle:=zT9 v.toNat;rw [zRe,zAn]
 refine zNf (fun j=>j (zW0 v.toNat (oth v.toNat))=some ⟨b++enc v⟩) ?_ fun j hj=>?_
 ·rw [zDg (by simp;omega),zAn,zBm]
  obtain ⟨m,hm⟩:=zM9 9 (by omega);rw [zbo v _ _ _ _ (by omega) hle (by simp;omega)];simp [enc]
 ·by_cases hk:oth v.toNat<8
  ·rw [if_pos (by omega)]
   rw [zAr (by omega) (by omega),zAr (by omega) (by omega)];rw [show (8:Int)-(oth v.toNat:Nat)=((8-oth v.toNat:Nat):Int) by omega,show 8*((oth v.toNat:Nat):Int)=((8*oth v.toNat:Nat):Int) by omega,zSs _ (by omega),zSs _ (by omega),zUw _ _ (by omega),zQ7];rw [zY6 _ hk _ (zMf hk)];unfold zW0 at hj;rw [if_pos hk] at hj;exact hj
  ·have:oth v.toNat=8:=by omega
   rw [if_neg (by omega),zAr (by omega) (by omega)];rw [this] at hj ⊢;exact hj
end Go.Proofs.YthjhejgjcdajdaaGreatDoor
set_option linter.unusedVariables false
set_option linter.unusedSimpArgs false
namespace Go.Proofs.YthjhejgjcdajdaaGreatDoor
open Go Go.RowKit Go.Wk
theorem zaj:∀ k,k<8→∀ t,t<2^(7-k)→zCy (~~~ (UInt8.ofNat (256-2^(8-k)+t)))=some ((k:Nat):Int):=by decide +kernel
theorem zY0:zCy (~~~ (255:UInt8))=some 8:=by decide +kernel
theorem zag:∀ k,k<8→∀ t,t<2^(7-k)→(UInt8.ofNat (256-2^(8-k)+t)&&&shr8 (127:UInt8) k)=UInt8.ofNat t:=by decide +kernel
theorem zU2 (v:UInt64):zCy (~~~ (zW0 v.toNat (oth v.toNat)))=some ((oth v.toNat:Nat):Int):=by
 have hle:=zT9 v.toNat;unfold zW0
 by_cases hk:oth v.toNat<8
 ·rw [if_pos hk];exact zaj _ hk _ (zMf hk)
 ·rw [if_neg hk,zY0,show oth v.toNat=8 by omega];rfl
theorem zc1 (y:UInt64) (c:UInt8) (h:y.toNat<2^56):((y<<<UInt64.ofNat 8)|||zAe (c.toNat:Int)).toNat=y.toNat*256+c.toNat:=by
 have hc:=c.toNat_lt
 have e1:(zAe (c.toNat:Int)).toNat=c.toNat:=by simp [zAe,UInt64.toNat_ofNat'];omega
 have e2:(y<<<UInt64.ofNat 8).toNat=y.toNat*256:=by
  rw [UInt64.toNat_shiftLeft]
  have:(UInt64.ofNat 8).toNat%64=8:=by decide
  rw [this,Nat.shiftLeft_eq];exact Nat.mod_eq_of_lt (by omega)
 rw [UInt64.toNat_or,e1,e2,show y.toNat*256=y.toNat<<<8 by rw [Nat.shiftLeft_eq],← Nat.shiftLeft_add_eq_or_of_lt (by omega)]
theorem zY7 (n k:Nat):n/256^(k+1)*256+n/256^k%256=n/256^k:=by
 rw [Nat.pow_succ,← Nat.div_div_eq_div_mul];omega
theorem zc5 (x:UInt64) (z:List UInt8) (j:UInt64→Option (UInt64×zAa)):∀ (k n:Nat) (p:List UInt8) (y:UInt64),z=p++byt x.toNat k→k<n→k≤8→z.length≤1000→y.toNat=x.toNat/256^k→zCj z j n y (p.length:Int)=j x
 | 0,n,p,y,hz,hn,_,_,hy=>by
  obtain ⟨n,rfl⟩:∃ m,n=m+1:=⟨n-1,by omega⟩;rw [zCj,if_neg (by rw [hz];simp [byt])]
  congr 1;apply UInt64.toNat_inj.1;rw [hy];simp
 | k+1,n,p,y,hz,hn,hk,hl,hy=>by
  obtain ⟨n,rfl⟩:∃ m,n=m+1:=⟨n-1,by omega⟩;have hzl:=congrArg List.length hz;simp only [List.length_append,zSk] at hzl
  have hyl:y.toNat<2^56:=by
   rw [hy,Nat.div_lt_iff_lt_mul (Nat.pow_pos (by omega))];refine Nat.lt_of_lt_of_le x.toNat_lt ?_;have:256^1≤256^(k+1):=Nat.pow_le_pow_right (by omega) (by omega)
   calc 2^64=2^56*256^1:=by decide
    _≤2^56*256^(k+1):=Nat.mul_le_mul_left _ this
  rw [zCj,if_pos (by omega),hz,byt,zGp,zAn,zAr (by omega) (by omega),← byt,← hz]
  have hc:(UInt8.ofNat (x.toNat/256^k%256)).toNat=x.toNat/256^k%256:=by simp [UInt8.toNat_ofNat']
  have hy':=zc1 y (UInt8.ofNat (x.toNat/256^k%256)) hyl;rw [hy,hc,zY7] at hy';rw [← hc] at hy';have h:=zc5 x z j k n (p++[UInt8.ofNat (x.toNat/256^k%256)]) _ (by rw [hz,byt];simp) (by omega) (by omega) hl hy';rw [show ((p++[UInt8.ofNat (x.toNat/256^k%256)]).length:Int)=(p.length:Int)+1 by simp] at h;exact h
theorem zSa (b:List UInt8) (at_:Nat) (e:Int) (h:at_≤b.length) (hb:b.length≤1000000000):zDa ⟨b,at_,e⟩=some ((b.length-at_:Nat):Int):=by
 unfold zDa;rw [zAr (by dsimp only;omega) (by dsimp only;omega)];congr 1;dsimp only;omega
theorem za4 (pre post:List UInt8) (v:UInt64) {b:List UInt8} {at_:Int} (hb:b=pre++(enc v++post)) (ha:at_=pre.length) (hl:b.length≤1000000000):zGd ⟨b,at_,0⟩=some (v,⟨b,((pre++enc v).length:Nat),0⟩):=by
 subst ha;have hle:=zT9 v.toNat;have hlen:=congrArg List.length hb;simp only [List.length_append,zQp] at hlen
 have hb2:b=pre++zW0 v.toNat (oth v.toNat)::(byt v.toNat (oth v.toNat)++post):=by rw [hb];simp [enc]
 have hi:idx b (pre.length:Int)=some (zW0 v.toNat (oth v.toNat)):=by rw [hb2];exact zGp _ _ _
 unfold zGd;rw [zBm];dsimp only;rw [if_neg (by omega),zSa _ _ _ (by omega) hl,zAn,if_neg (by omega),hi,zAn,zU2,zAn,zAn,if_neg (by omega)]
 have hcut:zM2 b ((pre.length:Int)+1) ((pre.length:Int)+1+(oth v.toNat:Nat))=some (byt v.toNat (oth v.toNat)):=by
  rw [zQr (by omega) (by omega) (by omega)]
  congr 1
  have e1:((pre.length:Int)+1+(oth v.toNat:Nat)).toNat=(pre++enc v).length:=by rw [List.length_append,zQp];omega
  have e2:((pre.length:Int)+1).toNat=(pre++[zW0 v.toNat (oth v.toNat)]).length:=by simp
  rw [e1,e2,hb,← List.append_assoc,List.take_left];unfold enc;rw [show pre++zW0 v.toNat (oth v.toNat)::byt v.toNat (oth v.toNat)=(pre++[zW0 v.toNat (oth v.toNat)])++byt v.toNat (oth v.toNat) by simp,List.drop_left]
 refine zNf (fun j=>∀ y:UInt64,y.toNat=v.toNat/256^oth v.toNat→j y=some (v,⟨b,((pre++enc v).length:Nat),0⟩)) (fun y hy=>?_) fun j hj=>?_
 ·rw [zAr (z:=(pre.length:Int)+1) (by omega) (by omega),zAr (z:=(pre.length:Int)+1+_) (by omega) (by omega),hcut,zAn]
  refine zNf (fun j=>j v=some (v,⟨b,((pre++enc v).length:Nat),0⟩)) ?_ fun j hj=>?_
  ·rw [zRe,zAn,if_neg (by omega),zAr (z:=1+((oth v.toNat:Nat):Int)) (by omega) (by omega),zAr (by omega) (by omega)]
   simp only [List.length_append,zQp];congr 3;omega
  ·obtain ⟨m,hm⟩:=zM9 9 (by omega)
   have:=zc5 v (byt v.toNat (oth v.toNat)) j (oth v.toNat) fuel [] y (by simp) (by omega) hle (by rw [zSk];omega) hy;exact this.trans hj
 ·by_cases hk:oth v.toNat<8
  ·rw [if_pos (by omega),zSs _ (by omega)]
   refine hj _ ?_;unfold zW0;rw [if_pos hk,zag _ hk _ (zMf hk)];have ht:=zMf hk;have h7:2^(7-oth v.toNat)≤2^7:=Nat.pow_le_pow_right (by omega) (by omega);generalize v.toNat/256^oth v.toNat=t at ht ⊢
   have ht2:t<128:=by omega
   simp [zAe,UInt64.toNat_ofNat',UInt8.toNat_ofNat'];omega
  ·rw [if_neg (by omega)]
   refine hj _ ?_
   have:oth v.toNat=8:=by omega
   rw [this];have:=v.toNat_lt;exact (Nat.div_eq_of_lt (by omega)).symm
end Go.Proofs.YthjhejgjcdajdaaGreatDoor
set_option linter.unusedVariables false
set_option linter.unusedSimpArgs false
namespace Go.Proofs.YthjhejgjcdajdaaGreatDoor
open Go Go.RowKit Go.Wk
abbrev okI (x:Int):Prop:=-9223372036854775808≤x∧x≤9223372036854775807
def zig (x:Int):UInt64:=UInt64.ofNat (if 0≤x then 2*x.toNat else 2*(-1-x).toNat+1)
theorem zOk {x:Int} (h:okI x):(zig x).toNat=if 0≤x then 2*x.toNat else 2*(-1-x).toNat+1:=by
 unfold zig;rw [UInt64.toNat_ofNat',Nat.mod_eq_of_lt]
 split<;>omega
theorem zUd (y:Nat) (h:y<18446744073709551616):y^^^18446744073709551615=18446744073709551615-y:=by
 have e:=congrArg BitVec.toNat (BitVec.xor_allOnes (x:=BitVec.ofNat 64 y));rw [BitVec.toNat_xor,BitVec.toNat_not,BitVec.toNat_ofNat,BitVec.toNat_allOnes,Nat.mod_eq_of_lt (by simpa using h)] at e;simpa using e
theorem zSm {z:Int} (h0:9223372036854775808≤z) (h1:z<18446744073709551616):W64 z=z-18446744073709551616:=by
 unfold W64 IntKind.wrap;simp [IntKind.signed,IntKind.bits]
 split<;>omega
theorem zOw (n:Nat) (h:n<18446744073709551616):(BitVec.ofInt 64 (n:Int)).toNat=n:=by
 rw [BitVec.toNat_ofInt];simp;omega
theorem zXs:BitVec.ofInt 64 (-1)=BitVec.allOnes 64:=by decide
theorem zUe (n:Nat) (h:n<9223372036854775808):xorZ (n:Int) 0=n:=by
 unfold xorZ;rw [BitVec.toNat_xor,zOw _ (by omega),show (0:Int)=((0:Nat):Int) from rfl,zOw _ (by omega),Nat.xor_zero,zAr (by omega) (by omega)]
theorem zZl (n:Nat) (h:n<9223372036854775808):xorZ (n:Int) (-1)=-1-n:=by
 unfold xorZ;rw [BitVec.toNat_xor,zOw _ (by omega),zXs,BitVec.toNat_allOnes,show 2^64-1=18446744073709551615 by decide,zUd _ (by omega),zSm (by omega) (by omega)]
 omega
theorem zbm {x:Int} (h:okI x):zLo x=some (zig x):=by
 unfold zLo
 congr 1
 apply UInt64.toNat_inj.1
 rw [zOk h,UInt64.toNat_xor]
 have e1:(zAe x<<<UInt64.ofNat 1).toNat=if 0≤x then 2*x.toNat else 18446744073709551616-2*(-x).toNat:=by
  rw [UInt64.toNat_shiftLeft]
  have:(UInt64.ofNat 1).toNat%64=1:=by decide
  rw [this,Nat.shiftLeft_eq];simp only [zAe,UInt64.toNat_ofNat']
  split<;>omega
 have e2:(zAe (shrZ x 63)).toNat=if 0≤x then 0 else 18446744073709551615:=by
  have:shrZ x 63=if 0≤x then 0 else -1:=by
   unfold shrZ;rw [show min 63 64=63 by decide,Int.fdiv_eq_ediv_of_nonneg _ (by decide)]
   split<;>omega
  rw [this]
  split<;>rfl
 rw [e1,e2]
 by_cases h0:0≤x
 ·rw [if_pos h0,if_pos h0,if_pos h0,Nat.xor_zero]
 ·rw [if_neg h0,if_neg h0,if_neg h0]
  rw [zUd _ (by omega)];omega
theorem zZj {x:Int} (h:okI x):zK1 (zig x)=some x:=by
 unfold zK1
 have e1:((zig x)>>>UInt64.ofNat 1).toNat=if 0≤x then x.toNat else (-1-x).toNat:=by
  rw [UInt64.toNat_shiftRight]
  have:(UInt64.ofNat 1).toNat%64=1:=by decide
  rw [this,Nat.shiftRight_eq_div_pow,zOk h]
  split<;>omega
 have e2:((zig x)&&&(1:UInt64)).toNat=if 0≤x then 0 else 1:=by
  rw [UInt64.toNat_and,show (1:UInt64).toNat=1 from rfl,Nat.and_one_is_mod,zOk h]
  split<;>omega
 rw [e1,e2]
 by_cases h0:0≤x
 ·rw [if_pos h0,if_pos h0,zAr (z:=((x.toNat:Nat):Int)) (by omega) (by omega)]
  rw [show IntKind.i64.wrap (0-W64 ((0:Nat):Int))=0 by decide,zUe _ (by omega)];congr 1;omega
 ·rw [if_neg h0,if_neg h0,zAr (z:=(((-1-x).toNat:Nat):Int)) (by omega) (by omega)]
  rw [show IntKind.i64.wrap (0-W64 ((1:Nat):Int))=-1 by decide,zZl _ (by omega)];congr 1;omega
theorem zOr (pre post:List UInt8) (n most:Nat) {b:List UInt8} {at_:Int} (hb:b=pre++(enc (UInt64.ofNat n)++post)) (ha:at_=pre.length) (hl:b.length≤1000000000) (hn:n≤most) (hm:most<9223372036854775808):zCp ⟨b,at_,0⟩ (most:Int)=some ((n:Int),⟨b,((pre++enc (UInt64.ofNat n)).length:Nat),0⟩):=by
 unfold zCp
 have e:(UInt64.ofNat n).toNat=n:=by simp [UInt64.toNat_ofNat'];omega
 have e2:(zAe (most:Int)).toNat=most:=by simp [zAe,UInt64.toNat_ofNat'];omega
 rw [za4 pre post _ hb ha hl,zAn,if_neg,zAr (by dsimp only;omega) (by dsimp only;omega)]
 ·dsimp only;rw [e]
 ·dsimp only;rw [e,e2];omega
theorem zOi (l:List UInt8) (h:l.length≤1073741824):zDs l=some l:=by unfold zDs;rw [zDg (by simpa using h)];rfl
theorem zZ5 (pre s post:List UInt8) {b:List UInt8} {at_:Int} (hb:b=pre++(s++post)) (ha:at_=pre.length) (hl:b.length≤1000000000):zF9 ⟨b,at_,0⟩ (s.length:Int)=some (s,⟨b,((pre++s).length:Nat),0⟩):=by
 subst ha;have hlen:=congrArg List.length hb;simp only [List.length_append] at hlen;unfold zF9;dsimp only;rw [if_neg (by omega),if_neg (by omega),zSa _ _ _ (by omega) hl,zAn,if_neg (by omega)];rw [zAr (z:=(pre.length:Int)+s.length) (by omega) (by omega),zAr (by omega) (by omega)]
 have hcut:zM2 b ((pre.length:Int)+s.length-s.length) ((pre.length:Int)+s.length)=some s:=by
  rw [zQr (by omega) (by omega) (by omega)]
  congr 1
  have e1:((pre.length:Int)+s.length).toNat=(pre++s).length:=by rw [List.length_append];omega
  have e2:((pre.length:Int)+s.length-s.length).toNat=pre.length:=by omega
  rw [e1,e2,hb,← List.append_assoc,List.take_left,List.drop_left]
 rw [hcut,zAn,zOi _ (by omega),zAn];simp
def zQq (s:List UInt8):List UInt8:=enc (UInt64.ofNat s.length)++s
theorem zWu (b s:List UInt8) (h:b.length≤1000000000) (hs:s.length≤10000000):zFy ⟨b⟩ s=some ⟨b++zQq s⟩:=by
 unfold zFy
 have e:zAe (s.length:Int)=UInt64.ofNat s.length:=by unfold zAe;congr 1;omega
 have:=zIw (UInt64.ofNat s.length);rw [e,zRy _ _ h,zAn,zDg (by simp;omega),zAn];simp [zQq]
theorem zXd (pre s post:List UInt8) (most:Nat) {b:List UInt8} {at_:Int} (hb:b=pre++(zQq s++post)) (ha:at_=pre.length) (hl:b.length≤1000000000) (hs:s.length≤most) (hm:most<9223372036854775808):zEy ⟨b,at_,0⟩ (most:Int)=some (s,⟨b,((pre++zQq s).length:Nat),0⟩):=by
 unfold zEy;rw [zOr pre (s++post) s.length most (by rw [hb,zQq];simp) ha hl hs hm,zAn,zZ5 (pre++enc (UInt64.ofNat s.length)) s post (by rw [hb,zQq];simp) rfl hl,zAn,zBm];dsimp only;rw [if_neg (by omega)];simp [zQq]
theorem zav (b:List UInt8) (hl:b.length≤1000000000):zFz ⟨b,(b.length:Nat),0⟩=some 0:=by
 unfold zFz;rw [zBm];dsimp only;rw [if_pos rfl,zSa _ _ _ (Nat.le_refl _) hl,zAn];simp
theorem zcg (b:List UInt8) (hl:b.length≤1000000000):zGv b=some ⟨b,0,0⟩:=by
 unfold zGv;rw [zOi _ (by omega),zAn]
end Go.Proofs.YthjhejgjcdajdaaGreatDoor
set_option maxRecDepth 20000
set_option linter.unusedVariables false
set_option linter.unusedSimpArgs false
namespace Go.Proofs.YthjhejgjcdajdaaGreatDoor
open Go Go.RowKit Go.Wk
def szN (c:Nat):Nat:=if c=0 then 0 else if c=1 then 7 else if c=2 then 20 else 64
def clsN (v:Nat):Nat:=if v<1 then 0 else if v<128 then 1 else if v<1048576 then 2 else 3
theorem zW6 (v:Nat):clsN v<4:=by unfold clsN;(repeat' split)<;>omega
theorem zSv (c:Nat):szN c≤64:=by unfold szN;(repeat' split)<;>omega
theorem zTp {v:Nat} (h:v<18446744073709551616):v<2^szN (clsN v):=by
 unfold clsN
 split
 ·simp [szN];omega
 ·split
  ·simp [szN];omega
  ·split
   ·simp [szN];omega
   ·simp [szN];omega
theorem idx4 {i:Nat} (h:i<4):idx ([0,7,20,64]:List Int) (i:Int)=some ((szN i:Nat):Int):=by
 rcases (show i=0∨i=1∨i=2∨i=3 by omega) with rfl|rfl|rfl|rfl<;>rfl
theorem zTq (v:UInt64):zH1 v=some ((clsN v.toNat:Nat):Int):=by
 have hv:=v.toNat_lt;unfold zH1 zG6;rw [zAn,zBm];obtain ⟨f,hf⟩:=zM9 5 (by omega)
 have step:∀ (f i T:Nat),i<4→2^szN i=T→zDu v { a0:=0,a1:=7,a2:=20,a3:=64 } (fun _=>some 3) (f+1) (i:Int)=if v.toNat<T then some (i:Int) else zDu v { a0:=0,a1:=7,a2:=20,a3:=64 } (fun _=>some 3) f ((i+1:Nat):Int):=by
  intro f i T hi hT;have hs:=zSv i;rw [zDu,if_pos (by omega),idx4 hi,zAn,zCl (by omega),zJw,zDo (by omega),hT]
  have hp:0<T:=by rw [← hT];exact Nat.two_pow_pos _
  by_cases h:v.toNat<T
  ·rw [if_pos h,Nat.div_eq_of_lt h,if_pos (by rfl)]
  ·have:=Nat.div_pos (Nat.le_of_not_lt h) hp
   rw [if_neg h,if_neg (by omega)]
 have h0:=step (f+4) 0 1 (by omega) rfl;have h1:=step (f+3) 1 128 (by omega) rfl;have h2:=step (f+2) 2 1048576 (by omega) rfl;have h3:=step (f+1) 3 18446744073709551616 (by omega) rfl;rw [hf];refine h0.trans ?_;rw [h1,h2,h3];unfold clsN
 by_cases a:v.toNat<1
 ·rw [if_pos a,if_pos a]
 ·rw [if_neg a,if_neg a]
  by_cases b:v.toNat<128
  ·rw [if_pos b,if_pos b]
  ·rw [if_neg b,if_neg b]
   by_cases c:v.toNat<1048576
   ·rw [if_pos c,if_pos c]
   ·rw [if_neg c,if_neg c,if_pos (by omega)]
def smB (v:Nat):List Bool:=zG9 (clsN v) 2++zG9 v (szN (clsN v))
theorem zUv (v:Nat):(smB v).length=2+szN (clsN v):=by rw [smB,List.length_append,zAw,zAw]
theorem zOm (v:Nat):(smB v).length≤66:=by have:=zSv (clsN v);rw [zUv];omega
theorem zS {M:List Bool} (v:UInt64) (hM:M.length≤7000000000):zGa (WrO M) v=some (WrO (M++smB v.toNat)):=by
 unfold zGa zG6;have hc:=zW6 v.toNat;have hs:=zSv (clsN v.toNat);have e1:(zAe ((clsN v.toNat:Nat):Int)).toNat=clsN v.toNat:=zCl (by omega);have p1:=zI7 (M:=M) (v:=zAe ((clsN v.toNat:Nat):Int)) (n:=2) (by omega) (by omega) (by rw [e1];omega);rw [e1] at p1;have p2:=zI7 (M:=M++zG9 (clsN v.toNat) 2) (v:=v) (n:=szN (clsN v.toNat)) (by rw [List.length_append,zAw];omega) hs (zTp (by have:=v.toNat_lt;omega));rw [zTq,zAn,show (2:Int)=((2:Nat):Int) by rfl,p1,zAn,zAn];dsimp only;rw [idx4 hc,zAn,p2,zAn,List.append_assoc];rfl
structure zbl where
 V:Nat
 N:Nat
 E:Nat
def zM8 (L:List Bool):zbl:=
 if L.length<2 then ⟨0,0,2⟩
 else if L.length-2<szN (numB (L.take 2)) then ⟨0,0,2⟩
 else if clsN (numB ((L.drop 2).take (szN (numB (L.take 2)))))≠numB (L.take 2) then ⟨0,0,3⟩
 else ⟨numB ((L.drop 2).take (szN (numB (L.take 2)))),2+szN (numB (L.take 2)),0⟩
theorem zX2 (L:List Bool):numB (L.take 2)<4:=by
 have h1:=zGl (L.take 2);have h2:2^(L.take 2).length≤2^2:=Nat.pow_le_pow_right (by omega) (by simp;omega)
 omega
theorem zcr (L:List Bool):(zM8 L).N≤L.length∧((zM8 L).E=0→2≤(zM8 L).N):=by
 unfold zM8
 split
 ·simp
 ·split
  ·simp
  ·split
   ·simp
   ·dsimp only;omega
theorem zcs (L:List Bool):(zM8 L).E=0∨((zM8 L).E=2∨(zM8 L).E=3)∧(zM8 L).V=0∧(zM8 L).N=0:=by
 unfold zM8
 repeat' split
 all_goals simp
theorem zQl (v:Nat) (h:v<18446744073709551616) (R:List Bool):zM8 (smB v++R)=⟨v,(smB v).length,0⟩:=by
 have hc:=zW6 v;have hl:=zUv v
 have h1:(smB v++R).take 2=zG9 (clsN v) 2:=by rw [smB,List.append_assoc,List.take_append_of_le_length (by rw [zAw];omega),List.take_of_length_le (by rw [zAw];omega)]
 have h2:numB ((smB v++R).take 2)=clsN v:=by rw [h1,zHm (by omega)]
 have h3:((smB v++R).drop 2).take (szN (clsN v))=zG9 v (szN (clsN v)):=by
  rw [smB,List.append_assoc,List.drop_append_of_le_length (by rw [zAw];omega),List.drop_of_length_le (by rw [zAw];omega),List.nil_append,List.take_append_of_le_length (by rw [zAw];omega),List.take_of_length_le (by rw [zAw];omega)]
 unfold zM8;rw [if_neg (by rw [List.length_append];omega),h2,if_neg (by rw [List.length_append];omega),h3,zHm (zTp h),if_neg (by simp),hl]
end Go.Proofs.YthjhejgjcdajdaaGreatDoor
set_option maxRecDepth 20000
set_option linter.unusedVariables false
set_option linter.unusedSimpArgs false
namespace Go.Proofs.YthjhejgjcdajdaaGreatDoor
open Go Go.RowKit Go.Wk
theorem zBs {n:Nat} (h:n<18446744073709551616):(UInt64.ofNat n).toNat=n:=by rw [UInt64.toNat_ofNat'];exact Nat.mod_eq_of_lt h
theorem zO9 (L:List Bool) {n:Nat} (h:n≤64):numB (L.take n)<18446744073709551616:=by
 have h1:=zGl (L.take n);have h2:2^(L.take n).length≤2^64:=Nat.pow_le_pow_right (by omega) (by simp;omega)
 omega
theorem zZo {L:List Bool} {a:Nat} (hL:L.length≤8000000000) (ha:a+66≤L.length):zKe (RdO L a) 2=some (UInt64.ofNat (numB ((L.drop (a+2)).take 64))):=by
 unfold zKe;have l1:=zP1 (L:=L) (a:=a) (n:=64) hL (by omega) (by omega);have s1:=zN2 (L:=L) (a:=a) (n:=64) hL (by omega);have l2:=zP1 (L:=L) (a:=a+64) (n:=2) hL (by omega) (by omega);rw [if_pos (by omega)] at l1 l2;rw [show (64:Int)=((64:Nat):Int) by rfl,show (2:Int)=((2:Nat):Int) by rfl,l1,zAn,s1,zAn,l2,zAn,zCl (by omega)]
 congr 1
 apply UInt64.toNat_inj.1
 have e1:(L.drop a).take 64=(L.drop a).take 2++(L.drop (a+2)).take 62:=by rw [← List.drop_drop,← List.take_add]
 have e2:(L.drop (a+2)).take 64=(L.drop (a+2)).take 62++(L.drop (a+64)).take 2:=by
  rw [show a+64=a+2+62 by omega,← List.drop_drop (i:=62),← List.take_add]
 have n1:((L.drop (a+2)).take 62).length=62:=by simp;omega
 have n2:((L.drop (a+64)).take 2).length=2:=by simp;omega
 have h0:=zO9 (L.drop a) (n:=64) (by omega);have h3:=zO9 (L.drop (a+2)) (n:=64) (by omega);have b1:=zGl ((L.drop (a+2)).take 62);have b2:=zGl ((L.drop (a+64)).take 2);rw [n1] at b1;rw [n2] at b2;rw [UInt64.toNat_or,zJx,zBs h0,zBs (by omega),zBs h3,e1,e2,zH5,zH5,n1,n2]
 have e3:(numB ((L.drop a).take 2)*2^62+numB ((L.drop (a+2)).take 62))*2^2%18446744073709551616=numB ((L.drop (a+2)).take 62)*2^2:=by omega
 rw [e3,zVg b2]
theorem zS0 {L:List Bool} {a:Nat} (hL:L.length≤8000000000) (ha:a≤L.length) :
 zIv (RdO L a)=some (UInt64.ofNat (zM8 (L.drop a)).V,((zM8 (L.drop a)).E:Int),RdO L (a+(zM8 (L.drop a)).N)):=by
 unfold zIv zM8;have l0:zCa (RdO L a) 2=_:=zP1 (L:=L) (a:=a) (n:=2) hL ha (by omega)
 have hdl:(L.drop a).length=L.length-a:=by simp
 by_cases h0:a+2≤L.length
 ·rw [if_pos h0] at l0
  rw [l0,zAn,if_neg (show ¬(L.drop a).length<2 by omega)];simp only [Bool.not_true,Bool.false_eq_true,if_false];have h4:=zX2 (L.drop a);generalize hq:numB ((L.drop a).take 2)=q at *;have hs:=zSv q;rw [show zG6=some { a0:=0,a1:=7,a2:=20,a3:=64 } by rfl,zAn,zBs (by omega)];dsimp only;rw [idx4 h4,zAn,zXi hL ha,zAn]
  have e2:W64 ((2:Int)+((szN q:Nat):Int))=((2+szN q:Nat):Int):=by rw [zAr (by omega) (by omega)];rfl
  rw [e2]
  by_cases h1:(L.drop a).length-2<szN q
  ·rw [if_pos (show ((2+szN q:Nat):Int)>((L.length-a:Nat):Int) by omega),if_pos h1];simp
  rw [if_neg (show ¬((2+szN q:Nat):Int)>((L.length-a:Nat):Int) by omega),if_neg h1]
  have em:min ((2+szN q:Nat):Int) 64=((min (2+szN q) 64:Nat):Int):=by omega
  have l1:=zP1 (L:=L) (a:=a) (n:=min (2+szN q) 64) hL ha (by omega);rw [if_pos (by omega)] at l1;have hl3:=zO9 ((L.drop a).drop 2) hs
  have tail:(zH1 (UInt64.ofNat (numB (((L.drop a).drop 2).take (szN q))))).bind (fun p16 =>
   if p16≠W64 ((q:Nat):Int) then
   (some ((0:UInt64),(3:Int),RdO L a))
   else
   ((zBx (RdO L a) ((2+szN q:Nat):Int)).bind fun p19=>
    some (UInt64.ofNat (numB (((L.drop a).drop 2).take (szN q))),(0:Int),p19.2))) =
   some (UInt64.ofNat (if clsN (numB (((L.drop a).drop 2).take (szN q)))≠q then (⟨0,0,3⟩:zbl) else ⟨numB (((L.drop a).drop 2).take (szN q)),2+szN q,0⟩).V,
    (((if clsN (numB (((L.drop a).drop 2).take (szN q)))≠q then (⟨0,0,3⟩:zbl) else ⟨numB (((L.drop a).drop 2).take (szN q)),2+szN q,0⟩).E:Nat):Int),
    RdO L (a+(if clsN (numB (((L.drop a).drop 2).take (szN q)))≠q then (⟨0,0,3⟩:zbl) else ⟨numB (((L.drop a).drop 2).take (szN q)),2+szN q,0⟩).N)):=by
   rw [zTq,zAn,zBs hl3,zAr (by omega) (by omega)]
   by_cases h2:clsN (numB (((L.drop a).drop 2).take (szN q)))≠q
   ·rw [if_pos (by omega),if_pos h2];rfl
   ·rw [if_neg (by omega),if_neg h2,zN2 hL (by omega),zAn];rfl
  rw [em,l1,zAn];simp only [zBm]
  by_cases h64:szN q<64
  ·have hs20:szN q≤20:=by
    rcases (show q=0∨q=1∨q=2∨q=3 by omega) with rfl|rfl|rfl|rfl<;>simp [szN] at h64 ⊢
   rw [if_pos (show ((szN q:Nat):Int)<64 by omega)]
   have e5:UInt64.ofNat (numB ((L.drop a).take (min (2+szN q) 64)))&&&(shl64 1 ((zAe ((szN q:Nat):Int)).toNat)-1)=UInt64.ofNat (numB (((L.drop a).drop 2).take (szN q))):=by
    apply UInt64.toNat_inj.1
    rw [zCl (by omega),zZa (by omega),zBs (zO9 _ (by omega)),zBs hl3,Nat.min_eq_left (by omega),List.take_add,zH5]
    have hl:(((L.drop a).drop 2).take (szN q)).length=szN q:=by simp;omega
    have hb:=zGl (((L.drop a).drop 2).take (szN q));rw [hl] at hb ⊢;rw [Nat.mul_comm,Nat.mul_add_mod,Nat.mod_eq_of_lt hb]
   rw [e5];exact tail
  ·have hq64:szN q=64:=by omega
   rw [if_neg (show ¬((szN q:Nat):Int)<64 by omega),zZo hL (by omega),zAn,← List.drop_drop,← hq64];exact tail
 ·rw [if_neg h0] at l0
  rw [l0,zAn,if_pos (show (L.drop a).length<2 by omega)];rfl
end Go.Proofs.YthjhejgjcdajdaaGreatDoor
set_option maxRecDepth 20000
set_option linter.unusedVariables false
set_option linter.unusedSimpArgs false
namespace Go.Proofs.YthjhejgjcdajdaaGreatDoor
open Go Go.RowKit Go.Wk
def sI (u:UInt64):Int:=if u.toNat<9223372036854775808 then (u.toNat:Int) else (u.toNat:Int)-18446744073709551616
theorem zV1 (u:UInt64):W64 ((u.toNat:Nat):Int)=sI u:=by
 have:=u.toNat_lt;unfold sI
 split
 ·rw [zAr (by omega) (by omega)]
 ·rw [zSm (by omega) (by omega)]
theorem zV0 (u:UInt64):okI (sI u):=by have:=u.toNat_lt;unfold sI okI;split<;>omega
theorem zO7 (u:UInt64):zAe (sI u)=u:=by
 have:=u.toNat_lt
 apply UInt64.toNat_inj.1
 rw [zJv];unfold sI;split<;>omega
theorem zT2 {x:Int} (h:okI x):sI (zAe x)=x:=by
 unfold okI at h;have e:=zJv x;unfold sI;rw [e];split<;>omega
def zPg (u:UInt64):Int:=if u.toNat%2=0 then ((u.toNat/2:Nat):Int) else -1-((u.toNat/2:Nat):Int)
theorem zUc (u:UInt64):okI (zPg u):=by have:=u.toNat_lt;unfold zPg okI;split<;>omega
theorem zWt (u:UInt64):zig (zPg u)=u:=by
 have:=u.toNat_lt
 apply UInt64.toNat_inj.1
 rw [zOk (zUc u)];unfold zPg;split<;>split<;>omega
theorem zO6 {x:Int} (h:okI x):zPg (zig x)=x:=by
 have e:=zOk h;unfold okI at h;unfold zPg;rw [e];split<;>split<;>omega
theorem zbn (u:UInt64):zK1 u=some (zPg u):=by
 conv=>lhs;rw [← zWt u]
 exact zZj (zUc u)
theorem zLk {M:List Bool} {x:Int} (h:okI x) (hM:M.length≤7000000000):zDq (WrO M) x=some (WrO (M++smB (zig x).toNat)):=by
 unfold zDq;rw [zbm h,zAn,zS _ hM,zAn]
theorem zPv {L:List Bool} {a:Nat} (hL:L.length≤8000000000) (ha:a≤L.length) :
 zH7 (RdO L a)=some (zPg (UInt64.ofNat (zM8 (L.drop a)).V),((zM8 (L.drop a)).E:Int),RdO L (a+(zM8 (L.drop a)).N)):=by
 unfold zH7;rw [zS0 hL ha,zAn,zbn,zAn]
def wdN (k:Nat):Nat:=if k=0 then 0 else if k=1 then 6 else if k=2 then 10 else if k=3 then 16 else 64
theorem zSo (k:Nat):wdN k≤64:=by unfold wdN;(repeat' split)<;>omega
def wayN (d:Int):Nat:=if d=0 then 0 else if -32≤d∧d<32 then 1 else if -512≤d∧d<512 then 2 else if -32768≤d∧d<32768 then 3 else 4
theorem zRz (d:Int):wayN d≤4:=by unfold wayN;(repeat' split)<;>omega
theorem idx5 {i:Nat} (h:i<5):idx ([0,6,10,16,64]:List Int) (i:Int)=some ((wdN i:Nat):Int):=by
 rcases (show i=0∨i=1∨i=2∨i=3∨i=4 by omega) with rfl|rfl|rfl|rfl|rfl<;>rfl
theorem zP7 (d:Int) (n:Nat) (b:Int) (hn:n=0∧b=0∨n=6∧b=32∨n=10∧b=512∨n=16∧b=32768∨n=64∧b=0) :
 zJ d (n:Int)=some (if n=0 then decide (d=0) else if n=64 then true else decide (-b≤d∧d<b)):=by
 unfold zJ;simp only [zBm]
 rcases hn with ⟨rfl,rfl⟩|⟨rfl,rfl⟩|⟨rfl,rfl⟩|⟨rfl,rfl⟩|⟨rfl,rfl⟩
 ·rfl
 ·refine (if_neg (by decide)).trans ((if_neg (by decide)).trans ?_)
  show _=some (decide (-32≤d∧d<32));rw [show shlZ (-1) ((zAe (W64 (((6:Nat):Int)-1))).toNat)=-32 by decide,show shlZ 1 ((zAe (W64 (((6:Nat):Int)-1))).toNat)=32 by decide]
  by_cases h:d≥-32
  ·rw [if_pos h];congr 1;simp;omega
  ·rw [if_neg h];congr 1;simp;omega
 ·refine (if_neg (by decide)).trans ((if_neg (by decide)).trans ?_)
  show _=some (decide (-512≤d∧d<512));rw [show shlZ (-1) ((zAe (W64 (((10:Nat):Int)-1))).toNat)=-512 by decide,show shlZ 1 ((zAe (W64 (((10:Nat):Int)-1))).toNat)=512 by decide]
  by_cases h:d≥-512
  ·rw [if_pos h];congr 1;simp;omega
  ·rw [if_neg h];congr 1;simp;omega
 ·refine (if_neg (by decide)).trans ((if_neg (by decide)).trans ?_)
  show _=some (decide (-32768≤d∧d<32768));rw [show shlZ (-1) ((zAe (W64 (((16:Nat):Int)-1))).toNat)=-32768 by decide,show shlZ 1 ((zAe (W64 (((16:Nat):Int)-1))).toNat)=32768 by decide]
  by_cases h:d≥-32768
  ·rw [if_pos h];congr 1;simp;omega
  ·rw [if_neg h];congr 1;simp;omega
 ·rfl
theorem zYt (d:Int):zK d=some ((wayN d:Nat):Int):=by
 unfold zK zEw;rw [zAn,zBm];obtain ⟨f,hf⟩:=zM9 6 (by omega)
 have step:∀ (f i:Nat) (p:Bool),i<5→zJ d ((wdN i:Nat):Int)=some p→zEx d { a0:=0,a1:=6,a2:=10,a3:=16,a4:=64 } (fun _=>some 4) (f+1) (i:Int)=if p=true then some (i:Int) else zEx d { a0:=0,a1:=6,a2:=10,a3:=16,a4:=64 } (fun _=>some 4) f ((i+1:Nat):Int):=by
  intro f i p hi hp;rw [zEx,if_pos (by omega),idx5 hi,zAn,hp,zAn,zDo (by omega)]
 have h0:=step (f+5) 0 _ (by omega) (zP7 d 0 0 (by omega));have h1:=step (f+4) 1 _ (by omega) (zP7 d 6 32 (by omega));have h2:=step (f+3) 2 _ (by omega) (zP7 d 10 512 (by omega));have h3:=step (f+2) 3 _ (by omega) (zP7 d 16 32768 (by omega));have h4:=step (f+1) 4 _ (by omega) (zP7 d 64 0 (by omega));rw [hf];refine h0.trans ?_;rw [h1,h2,h3,h4];unfold wayN;simp only [if_true,decide_eq_true_eq]
 by_cases a:d=0
 ·rw [if_pos a,if_pos a]
 ·rw [if_neg a,if_neg a]
  simp only [show ¬(6:Nat)=0 by decide,show ¬(6:Nat)=64 by decide,show ¬(10:Nat)=0 by decide,show ¬(10:Nat)=64 by decide,show ¬(16:Nat)=0 by decide,show ¬(16:Nat)=64 by decide,show ¬(64:Nat)=0 by decide,if_false,decide_eq_true_eq]
  by_cases b:-32≤d∧d<32
  ·rw [if_pos b,if_pos b]
  ·rw [if_neg b,if_neg b]
   by_cases c:-512≤d∧d<512
   ·rw [if_pos c,if_pos c]
   ·rw [if_neg c,if_neg c]
    by_cases e:-32768≤d∧d<32768
    ·rw [if_pos e,if_pos e]
    ·rw [if_neg e,if_neg e,if_pos trivial]
def stB (d:Int):List Bool:=(List.replicate (wayN d) true++if wayN d<4 then [false] else [])++zG9 (zAe d).toNat (wdN (wayN d))
theorem zbx (d:Int):(stB d).length≤69:=by
 have h1:=zRz d;have h2:=zSo (wayN d);unfold stB;rw [List.length_append,List.length_append,zAw,List.length_replicate]
 split<;>simp<;>omega
theorem zac (p:Int) (k:Nat) (hp:p=k) (hk:k≤4):∀ (r i:Nat) (M:List Bool) (f:Nat) (j2:zA2→Option (zA2×zA8)),i+r=k→M.length+r≤7000000000→r<f →
 zD2 p j2 f (i:Int) (WrO M)=j2 (WrO (M++List.replicate r true)):=by
 intro r
 induction r with
 | zero=>
  intro i M f j2 hi hM hf;obtain ⟨f,rfl⟩:∃ k,f=k+1:=⟨f-1,by omega⟩;rw [zD2,if_neg (by omega)];simp
 | succ r ih=>
  intro i M f j2 hi hM hf;obtain ⟨f,rfl⟩:∃ k,f=k+1:=⟨f-1,by omega⟩;have p1:zAf (WrO M) 1 1=some (true,WrO (M++zG9 (1:UInt64).toNat 1)):=zI7 (M:=M) (v:=1) (n:=1) (by omega) (by omega) (by decide);rw [zD2,if_pos (by omega),p1,zAn,zDo (by omega)];dsimp only;have e:zG9 (1:UInt64).toNat 1=[true]:=rfl;rw [e,ih (i+1) (M++[true]) f j2 (by omega) (by rw [List.length_append];simp;omega) (by omega),List.append_assoc,List.replicate_succ];rfl
end Go.Proofs.YthjhejgjcdajdaaGreatDoor
set_option maxRecDepth 20000
set_option linter.unusedVariables false
set_option linter.unusedSimpArgs false
namespace Go.Proofs.YthjhejgjcdajdaaGreatDoor
open Go Go.RowKit Go.Wk
def zRp (r:zA8) (v:UInt64):zA8:=⟨r.n+1,v,if r.n>0 then v-r.last else r.step⟩
def zGr (xs:List Int):zA8:=xs.foldl (fun r v=>zRp r (zAe v)) ⟨0,0,0⟩
theorem zL4 (xs:List Int) (v:Int):zGr (xs++[v])=zRp (zGr xs) (zAe v):=by unfold zGr;rw [List.foldl_append];rfl
theorem zV7 (xs:List Int):(zGr xs).n=(xs.length:Int):=by
 have key:∀ (xs:List Int) (r:zA8),(xs.foldl (fun r v=>zRp r (zAe v)) r).n=r.n+(xs.length:Int):=by
  intro xs
  induction xs with
  | nil=>intro r;simp
  | cons v t ih=>intro r;rw [List.foldl_cons,ih,List.length_cons];show r.n+1+_=_;omega
 have:=key xs ⟨0,0,0⟩;unfold zGr;rw [this];simp
theorem zP5 {r:zA8} (v:UInt64) (h:0≤r.n∧r.n≤1000000000):zDm r v=some (zRp r v):=by
 unfold zDm zRp;rw [zBm]
 by_cases h0:r.n>0
 ·rw [if_pos h0,if_pos h0];dsimp only;rw [zAr (by omega) (by omega)]
 ·rw [if_neg h0,if_neg h0];dsimp only;rw [zAr (by omega) (by omega)]
def zNp (r:zA8) (v:Int):List Bool:=
 if r.n=0 then smB (zig v).toNat
 else if r.n=1 then smB (zig (sI (zAe v-r.last))).toNat
 else stB (sI (zAe v-r.last-r.step))
theorem zM4 (r:zA8) (v:Int):(zNp r v).length≤69:=by
 unfold zNp
 split
 ·have:=zOm (zig v).toNat;omega
 ·split
  ·have:=zOm (zig (sI (zAe v-r.last))).toNat;omega
  ·exact zbx _
theorem zQe {r:zA8} {M:List Bool} {v:Int} (hr:0≤r.n∧r.n≤1000000000) (hv:okI v) (hM:M.length≤6000000000) :
 zEf r (WrO M) v=some (WrO (M++zNp r v),zRp r (zAe v)):=by
 unfold zEf zNp;rw [zBm]
 have tail:∀ X:List Bool,((zDm r (zAe v)).bind fun p5=>some (WrO X,p5))=some (WrO X,zRp r (zAe v)):=fun X=>by rw [zP5 _ hr,zAn]
 by_cases h0:r.n=0
 ·rw [if_pos h0,if_pos h0,zLk hv (by omega),zAn];exact tail _
 rw [if_neg h0,if_neg h0]
 by_cases h1:r.n=1
 ·rw [if_pos h1,if_pos h1,zV1,zLk (zV0 _) (by omega),zAn];exact tail _
 rw [if_neg h1,if_neg h1,zV1,zYt,zAn,zBm];generalize hd:sI (zAe v-r.last-r.step)=d;have hw:=zRz d;obtain ⟨f,hf⟩:=zM9 6 (by omega);have on:=zac ((wayN d:Nat):Int) (wayN d) rfl hw (wayN d) 0 M fuel;refine (on _ (by omega) (by omega) (by rw [hf];omega)).trans ?_;rw [zBm];have hwd:=zSo (wayN d)
 have e1:(zAe (W64 (64-((wdN (wayN d):Nat):Int)))).toNat=64-wdN (wayN d):=by
  rw [zAr (by omega) (by omega),show (64:Int)-((wdN (wayN d):Nat):Int)=((64-wdN (wayN d):Nat):Int) by omega,zCl (by omega)]
 have hx:=(zAe d).toNat_lt
 have e2:(shr64 (shl64 (zAe d) (64-wdN (wayN d))) (64-wdN (wayN d))).toNat=(zAe d).toNat%2^wdN (wayN d):=by
  rw [zJw,zJx]
  have e3:(18446744073709551616:Nat)=2^wdN (wayN d)*2^(64-wdN (wayN d)):=by rw [← Nat.pow_add,show wdN (wayN d)+(64-wdN (wayN d))=64 by omega]
  rw [e3,Nat.mul_mod_mul_right,Nat.mul_div_cancel _ (Nat.two_pow_pos _)]
 have last:∀ X:List Bool, X.length≤7000000000→((zEw ).bind fun p26 =>
  (idx ([p26.a0,p26.a1,p26.a2,p26.a3,p26.a4]:List Int) ((wayN d:Nat):Int)).bind fun z28=>
  (zAf (WrO X) (shr64 (shl64 (zAe d) ((zAe (W64 (64-z28))).toNat)) ((zAe (W64 (64-z28))).toNat)) z28).bind fun p29=>
  (zDm r (zAe v)).bind fun p5=>some (p29.2,p5))=some (WrO (X++zG9 (zAe d).toNat (wdN (wayN d))),zRp r (zAe v)):=by
  intro X hX;rw [show zEw=some { a0:=0,a1:=6,a2:=10,a3:=16,a4:=64 } by rfl,zAn];dsimp only;rw [idx5 (by omega),zAn,e1,zI7 (by omega) hwd (by rw [e2];exact Nat.mod_lt _ (Nat.two_pow_pos _)),zAn,e2,zXf];exact tail _
 by_cases h4:wayN d<4
 ·rw [if_pos (by omega)]
  have p1:zAf (WrO (M++List.replicate (wayN d) true)) 0 1=some (true,WrO ((M++List.replicate (wayN d) true)++zG9 (0:UInt64).toNat 1)):=
   zI7 (v:=0) (n:=1) (by rw [List.length_append,List.length_replicate];omega) (by omega) (by decide)
  rw [p1,zAn];have:=last ((M++List.replicate (wayN d) true)++zG9 (0:UInt64).toNat 1) (by rw [List.length_append,List.length_append,List.length_replicate,zAw];omega);refine this.trans ?_;unfold stB;rw [if_pos h4,show zG9 (0:UInt64).toNat 1=[false] by rfl];simp only [List.append_assoc]
 ·rw [if_neg (by omega)]
  refine (last _ (by rw [List.length_append,List.length_replicate];omega)).trans ?_;unfold stB;rw [if_neg h4];simp only [List.append_assoc,List.append_nil]
end Go.Proofs.YthjhejgjcdajdaaGreatDoor
set_option maxRecDepth 20000
set_option linter.unusedVariables false
set_option linter.unusedSimpArgs false
namespace Go.Proofs.YthjhejgjcdajdaaGreatDoor
open Go Go.RowKit Go.Wk
def sgB (b:List Bool):Int:=if b.length=0 then 0 else if numB b<2^(b.length-1) then (numB b:Int) else (numB b:Int)-((2^b.length:Nat):Int)
def zIy:Nat→List Bool→Nat
 | n+1,true::t=>zIy n t+1
 | _,_=>0
theorem zTa:∀ (n:Nat) (L:List Bool),zIy n L≤n∧zIy n L≤L.length
 | 0,L=>by cases L<;>simp [zIy]
 | n+1,[]=>by simp [zIy]
 | n+1,true::t=>by have:=zTa n t;simp [zIy];omega
 | n+1,false::t=>by simp [zIy]
def atS (k:Nat):Nat:=if k<4 then k+1 else 4
def zPp (L:List Bool):zbl:=
 let k:=zIy 4 L
 let b:=(L.drop (atS k)).take (wdN k)
 if k<4∧L.length=k then ⟨0,0,2⟩
 else if L.length-atS k<wdN k then ⟨0,0,2⟩
 else if wayN (sgB b)≠k then ⟨0,0,3⟩
 else ⟨(zAe (sgB b)).toNat,atS k+wdN k,0⟩
theorem zc3 {b:List Bool} (h:b.length≤64):okI (sgB b):=by
 have h1:=zGl b;unfold sgB okI
 split
 ·omega
 ·have h2:2^b.length=2*2^(b.length-1):=by rw [← Nat.pow_succ'];congr 1;omega
  have h3:2^(b.length-1)≤2^63:=Nat.pow_le_pow_right (by omega) (by omega);generalize 2^(b.length-1)=x at *;rw [h2] at h1 ⊢
  split<;>omega
theorem za0 {d:Int} (h:okI d):sgB (zG9 (zAe d).toNat (wdN (wayN d)))=d:=by
 have e:=zJv d;unfold okI at h;unfold sgB;rw [zAw,zOd,e];unfold wayN
 by_cases h0:d=0
 ·subst h0;rfl
 rw [if_neg h0]
 by_cases h1:-32≤d∧d<32
 ·rw [if_pos h1];simp only [wdN];simp;split<;>omega
 rw [if_neg h1]
 by_cases h2:-512≤d∧d<512
 ·rw [if_pos h2];simp only [wdN];simp;split<;>omega
 rw [if_neg h2]
 by_cases h3:-32768≤d∧d<32768
 ·rw [if_pos h3];simp only [wdN];simp;split<;>omega
 rw [if_neg h3];simp only [wdN];simp;split<;>omega
theorem zVi (k:Nat) (R:List Bool):∀ n,k≤n→(k<n→∃ T,R=false::T)→zIy n (List.replicate k true++R)=k:=by
 induction k with
 | zero=>
  intro n hk hR
  cases n with
  | zero=>cases R<;>rfl
  | succ n=>obtain ⟨T,rfl⟩:=hR (by omega);rfl
 | succ k ih=>
  intro n hk hR;obtain ⟨n,rfl⟩:∃ m,n=m+1:=⟨n-1,by omega⟩;rw [List.replicate_succ,List.cons_append,zIy,ih n (by omega) fun h=>hR (by omega)]
theorem zao {d:Int} (h:okI d) (R:List Bool):zPp (stB d++R)=⟨(zAe d).toNat,(stB d).length,0⟩:=by
 have hw:=zRz d
 have ho:zIy 4 (stB d++R)=wayN d:=by
  unfold stB;rw [List.append_assoc,List.append_assoc]
  refine zVi _ _ 4 hw fun h=>?_
  rw [if_pos h];exact ⟨_,rfl⟩
 have hl:(stB d).length=(atS (wayN d))+wdN (wayN d):=by
  unfold stB atS;rw [List.length_append,List.length_append,List.length_replicate,zAw];split<;>simp<;>omega
 have hp:(List.replicate (wayN d) true++if wayN d<4 then [false] else []).length=atS (wayN d):=by
  unfold atS;rw [List.length_append,List.length_replicate];split<;>simp<;>omega
 have hb:((stB d++R).drop (atS (wayN d))).take (wdN (wayN d))=zG9 (zAe d).toNat (wdN (wayN d)):=by
  unfold stB;rw [List.append_assoc,← hp,List.drop_left,List.take_append_of_le_length (by rw [zAw];omega),List.take_of_length_le (by rw [zAw];omega)]
 unfold zPp;simp only [ho];rw [hb,za0 h,if_neg (by rw [List.length_append,hl];unfold atS;split<;>omega),if_neg (by rw [List.length_append,hl];omega),if_neg (by simp),hl]
theorem zcq (L:List Bool):(zPp L).E=0∨((zPp L).E=2∨(zPp L).E=3)∧(zPp L).V=0∧(zPp L).N=0:=by
 unfold zPp;simp only
 (repeat' split)<;>simp
theorem zc2 {b:List Bool} (k:Nat) (h:b.length=wdN k):shrZ (W64 (((shl64 (UInt64.ofNat (numB b)) (64-wdN k)).toNat:Nat):Int)) (64-wdN k)=sgB b:=by
 have hw:=zSo k;have h1:=zGl b;have h64:2^b.length≤2^64:=Nat.pow_le_pow_right (by omega) (by omega);have e1:(UInt64.ofNat (numB b)).toNat=numB b:=zBs (by omega);unfold shrZ;rw [Nat.min_eq_left (by omega),zJx,e1]
 by_cases h0:b.length=0
 ·have hz:wdN k=0:=by omega
  rw [List.eq_nil_of_length_eq_zero h0,hz];decide
 have e2:2^b.length*2^(64-wdN k)=18446744073709551616:=by rw [← Nat.pow_add,h,show wdN k+(64-wdN k)=64 by omega,zXm]
 have e3:2^b.length=2*2^(b.length-1):=by rw [← Nat.pow_succ'];congr 1;omega
 have hp:=Nat.two_pow_pos (64-wdN k);unfold sgB;rw [if_neg h0];rw [show ((2:Int)^(64-wdN k))=((2^(64-wdN k):Nat):Int) by simp];generalize hx:2^(64-wdN k)=x at *;generalize hy:2^(b.length-1)=y at *;rw [e3] at e2 h1 ⊢
 have e4:y*x=9223372036854775808:=by
  have:2*(y*x)=18446744073709551616:=by rw [← Nat.mul_assoc];exact e2
  omega
 have hlt:numB b*x<18446744073709551616:=by rw [← e2];exact Nat.mul_lt_mul_of_pos_right h1 hp
 rw [Nat.mod_eq_of_lt hlt]
 by_cases hs:numB b<y
 ·have h5:numB b*x<9223372036854775808:=by rw [← e4];exact Nat.mul_lt_mul_of_pos_right hs hp
  rw [if_pos hs,zAr (by omega) (by omega),Int.fdiv_eq_ediv_of_nonneg _ (by omega),← Int.natCast_ediv,Nat.mul_div_cancel _ hp]
 ·have h5:9223372036854775808≤numB b*x:=by rw [← e4];exact Nat.mul_le_mul_right _ (Nat.le_of_not_lt hs)
  rw [if_neg hs,zSm (by omega) (by omega),Int.fdiv_eq_ediv_of_nonneg _ (by omega)]
  have e6:((numB b*x:Nat):Int)-18446744073709551616=((numB b:Int)-((2*y:Nat):Int))*(x:Int):=by
   rw [Int.sub_mul,← Int.natCast_mul,← Int.natCast_mul,e2];rfl
  rw [e6,Int.mul_ediv_cancel _ (by omega)]
end Go.Proofs.YthjhejgjcdajdaaGreatDoor
set_option maxRecDepth 20000
set_option linter.unusedVariables false
set_option linter.unusedSimpArgs false
namespace Go.Proofs.YthjhejgjcdajdaaGreatDoor
open Go Go.RowKit Go.Wk
theorem zX3 {L:List Bool} {a:Nat} (hL:L.length≤8000000000) (j1:Int→zA0→Option (Int×Int×zA0)):∀ (r k b:Nat) (f:Nat),k+r=4→b≤L.length→r<f →
 zEe (RdO L a) j1 f (k:Int) (RdO L b) =
  (if zIy r (L.drop b)<r∧(L.drop b).length=zIy r (L.drop b) then some (0,2,RdO L a)
   else j1 ((k+zIy r (L.drop b):Nat):Int) (RdO L (b+zIy r (L.drop b)+if zIy r (L.drop b)<r then 1 else 0))):=by
 intro r
 induction r with
 | zero=>
  intro k b f hk hb hf;obtain ⟨f,rfl⟩:∃ k,f=k+1:=⟨f-1,by omega⟩
  have:zIy 0 (L.drop b)=0:=by cases L.drop b<;>rfl
  rw [zEe,if_neg (by omega),this,if_neg (by omega),if_neg (by omega)];rfl
 | succ r ih=>
  intro k b f hk hb hf;obtain ⟨f,rfl⟩:∃ k,f=k+1:=⟨f-1,by omega⟩;have t1:zCs (RdO L b) 1=_:=zQa (L:=L) (a:=b) (n:=1) hL hb (by omega);rw [zEe,if_pos (by omega),t1,zAn]
  by_cases h1:b+1≤L.length
  ·rw [if_pos h1]
   simp only [Bool.not_true,Bool.false_eq_true,if_false];have hd:L.drop b=L[b]::L.drop (b+1):=List.drop_eq_getElem_cons (by omega)
   have hn:numB ((L.drop b).take 1)=(L[b]).toNat:=by rw [hd,List.take_succ_cons,List.take_zero,zMo]
   rw [hn]
   cases hx:L[b] with
   | false=>
    rw [hx] at hd
    have ho:zIy (r+1) (L.drop b)=0:=by rw [hd];rfl
    rw [ho,if_pos (by rfl),if_neg (by rw [hd];simp),if_pos (by omega)];rfl
   | true=>
    rw [hx] at hd
    have ho:zIy (r+1) (L.drop b)=zIy r (L.drop (b+1))+1:=by rw [hd];rfl
    have hl:(L.drop b).length=(L.drop (b+1)).length+1:=by rw [hd];rfl
    rw [if_neg (by decide),zDo (by omega),ih (k+1) (b+1) f (by omega) (by omega) (by omega),ho,hl];generalize zIy r (L.drop (b+1))=X;generalize (L.drop (b+1)).length=Y
    by_cases hc:X<r∧Y=X
    ·rw [if_pos hc,if_pos (show X+1<r+1∧Y+1=X+1 by omega)]
    ·rw [if_neg hc,if_neg (show ¬(X+1<r+1∧Y+1=X+1) by omega),show k+1+X=k+(X+1) by omega]
     by_cases h2:X<r
     ·rw [if_pos h2,if_pos (show X+1<r+1 by omega),show b+1+X+1=b+(X+1)+1 by omega]
     ·rw [if_neg h2,if_neg (show ¬X+1<r+1 by omega),show b+1+X+0=b+(X+1)+0 by omega]
  ·rw [if_neg h1]
   have hz:L.drop b=[]:=List.drop_of_length_le (by omega);rw [hz];simp [zIy]
theorem zZw {L:List Bool} {a:Nat} (hL:L.length≤8000000000) (ha:a≤L.length) :
 zKf (RdO L a)=some (sI (UInt64.ofNat (zPp (L.drop a)).V),((zPp (L.drop a)).E:Int),RdO L (a+(zPp (L.drop a)).N)):=by
 unfold zKf;rw [zBm];obtain ⟨f,hf⟩:=zM9 6 (by omega);refine (zX3 hL _ 4 0 a fuel rfl ha (by rw [hf];omega)).trans ?_
 have hl:(L.drop a).length=L.length-a:=by simp
 have ho:=zTa 4 (L.drop a);unfold zPp;simp only;generalize hk:zIy 4 (L.drop a)=k at *
 by_cases h0:k<4∧(L.drop a).length=k
 ·rw [if_pos h0,if_pos h0];rfl
 rw [if_neg h0,if_neg h0,show zEw=some { a0:=0,a1:=6,a2:=10,a3:=16,a4:=64 } by rfl,zAn,Nat.zero_add];dsimp only;rw [idx5 (by omega),zAn]
 have hat:a+k+(if k<4 then 1 else 0)=a+atS k:=by unfold atS;split<;>omega
 have hat2:a+atS k≤L.length:=by unfold atS;split<;>omega
 have hw:=zSo k;have t:=zQa hL hat2 hw
 by_cases h1:(L.drop a).length-atS k<wdN k
 ·rw [if_neg (by omega)] at t
  rw [hat,t,zAn,if_pos h1];rfl
 ·rw [if_pos (by omega)] at t
  rw [hat,t,zAn,if_neg h1];simp only [Bool.not_true,Bool.false_eq_true,if_false]
  have e1:(zAe (W64 (64-((wdN k:Nat):Int)))).toNat=64-wdN k:=by
   rw [zAr (by omega) (by omega),show (64:Int)-((wdN k:Nat):Int)=((64-wdN k:Nat):Int) by omega,zCl (by omega)]
  have hb:(((L.drop a).drop (atS k)).take (wdN k)).length=wdN k:=by simp;omega
  rw [e1,← List.drop_drop];generalize hbb:((L.drop a).drop (atS k)).take (wdN k)=b at *;rw [zc2 k hb,zYt,zAn]
  by_cases h2:wayN (sgB b)≠k
  ·rw [if_pos (by omega),if_pos h2];rfl
  ·rw [if_neg (by omega),if_neg h2]
   have a1:zBt (RdO L (a+atS k+wdN k))=some ((a+atS k+wdN k:Nat):Int):=rfl;have a2:zBt (RdO L a)=some ((a:Nat):Int):=rfl;rw [a1,zAn,a2,zAn,show W64 (((a+atS k+wdN k:Nat):Int)-((a:Nat):Int))=((atS k+wdN k:Nat):Int) by rw [zAr (by omega) (by omega)];omega,zN2 hL (by omega),zAn];dsimp only
   have es:sI (UInt64.ofNat (zAe (sgB b)).toNat)=sgB b:=by
    rw [show UInt64.ofNat (zAe (sgB b)).toNat=zAe (sgB b) by simp,zT2 (zc3 (by omega))]
   rw [es];rfl
end Go.Proofs.YthjhejgjcdajdaaGreatDoor
set_option maxRecDepth 20000
set_option linter.unusedVariables false
set_option linter.unusedSimpArgs false
namespace Go.Proofs.YthjhejgjcdajdaaGreatDoor
open Go Go.RowKit Go.Wk
def zZf (r:zA8) (L:List Bool):zbl:=
 if r.n<2 then (if (zM8 L).E≠0 then ⟨0,0,(zM8 L).E⟩ else ⟨(r.last+zAe (zPg (UInt64.ofNat (zM8 L).V))).toNat,(zM8 L).N,0⟩)
 else (if (zPp L).E≠0 then ⟨0,0,(zPp L).E⟩ else ⟨(r.last+r.step+UInt64.ofNat (zPp L).V).toNat,(zPp L).N,0⟩)
theorem ofN (u:UInt64):UInt64.ofNat u.toNat=u:=by simp
theorem za5 {r:zA8} {L:List Bool} {a:Nat} (hr:0≤r.n∧r.n≤1000000000) (hL:L.length≤8000000000) (ha:a≤L.length) :
 zI2 r (RdO L a)=some (if (zZf r (L.drop a)).E=0 then (sI (UInt64.ofNat (zZf r (L.drop a)).V),0,RdO L (a+(zZf r (L.drop a)).N),zRp r (UInt64.ofNat (zZf r (L.drop a)).V)) else (0,((zZf r (L.drop a)).E:Int),RdO L a,r)):=by
 unfold zI2 zZf;rw [zBm]
 by_cases h0:r.n<2
 ·rw [if_pos h0,if_pos h0,zPv hL ha,zAn]
  rcases zcs (L.drop a) with he|⟨he,hv,hn⟩
  ·rw [if_neg (show ¬((zM8 (L.drop a)).E:Int)≠0 by omega),if_neg (show ¬(zM8 (L.drop a)).E≠0 by omega),if_pos rfl]
   dsimp only;rw [zP5 _ hr,zAn,zV1,ofN]
  ·rw [if_pos (show ((zM8 (L.drop a)).E:Int)≠0 by omega),if_pos (show (zM8 (L.drop a)).E≠0 by omega),if_neg (show ¬(zM8 (L.drop a)).E=0 by omega),hn];rfl
 ·rw [if_neg h0,if_neg h0,zZw hL ha,zAn]
  rcases zcq (L.drop a) with he|⟨he,hv,hn⟩
  ·rw [if_neg (show ¬((zPp (L.drop a)).E:Int)≠0 by omega),if_neg (show ¬(zPp (L.drop a)).E≠0 by omega),if_pos rfl]
   dsimp only;rw [zO7,zP5 _ hr,zAn,zV1,ofN]
  ·rw [if_pos (show ((zPp (L.drop a)).E:Int)≠0 by omega),if_pos (show (zPp (L.drop a)).E≠0 by omega),if_neg (show ¬(zPp (L.drop a)).E=0 by omega),hn];rfl
theorem zY4 {r:zA8} {v:Int} (hv:okI v) (hn:0≤r.n) (h0:r.n=0→r.last=0) (R:List Bool):zZf r (zNp r v++R)=⟨(zAe v).toNat,(zNp r v).length,0⟩:=by
 unfold zZf zNp
 by_cases h1:r.n=0
 ·rw [if_pos h1,if_pos (by omega),zQl _ (by have:=(zig v).toNat_lt;omega),if_neg (by simp),ofN,zO6 hv,h0 h1,UInt64.zero_add]
 rw [if_neg h1]
 by_cases h2:r.n=1
 ·rw [if_pos h2,if_pos (by omega),zQl _ (by have:=(zig (sI (zAe v-r.last))).toNat_lt;omega),if_neg (by simp),ofN,zO6 (zV0 _),zO7]
  congr 2
  apply UInt64.toNat_inj.1
  have h1:=(zAe v).toNat_lt;have h2:=r.last.toNat_lt;simp only [UInt64.toNat_add,UInt64.toNat_sub];omega
 rw [if_neg h2,if_neg (by omega),zao (zV0 _),if_neg (by simp),ofN,zO7]
 congr 2
 apply UInt64.toNat_inj.1
 have h1:=(zAe v).toNat_lt;have h2:=r.last.toNat_lt;have h3:=r.step.toNat_lt;simp only [UInt64.toNat_add,UInt64.toNat_sub];omega
end Go.Proofs.YthjhejgjcdajdaaGreatDoor
set_option maxRecDepth 20000
set_option linter.unusedVariables false
set_option linter.unusedSimpArgs false
namespace Go.Proofs.YthjhejgjcdajdaaGreatDoor
open Go Go.RowKit Go.Wk
theorem zOc:∀ (k x:Nat),0<x→x<2^k→∃ t q,t<k∧x=2^t*(2*q+1)
 | 0,x,h0,h1=>by simp at h1;omega
 | k+1,x,h0,h1=>by
  rcases Nat.mod_two_eq_zero_or_one x with h|h
  ·obtain ⟨t,q,h2,h3⟩:=zOc k (x/2) (by omega) (by rw [Nat.pow_succ] at h1;omega)
   exact ⟨t+1,q,by omega,by rw [Nat.pow_succ,Nat.mul_assoc,Nat.mul_left_comm,← h3];omega⟩
  ·exact ⟨0,x/2,by omega,by simp;omega⟩
theorem zbb {t q:Nat} (ht:t<64) (hx:2^t*(2*q+1)<2^64):(2^t*(2*q+1))&&&(2^64-2^t*(2*q+1))=2^t:=by
 have hp:=Nat.two_pow_pos t;have hpos:0<2^t*(2*q+1):=Nat.mul_pos hp (by omega)
 have e1:2^64-2^t*(2*q+1)=2^64-((2^t*(2*q+1)-1)+1):=by omega
 have e2:2^t*(2*q+1)-1=2^t*(2*q)+(2^t-1):=by rw [Nat.mul_add,Nat.mul_one];omega
 apply Nat.eq_of_testBit_eq
 intro i;rw [Nat.testBit_and,e1,Nat.testBit_two_pow_sub_succ (by omega),e2,Nat.testBit_two_pow_mul_add _ (by omega),Nat.testBit_two_pow_mul,Nat.testBit_two_pow]
 by_cases h1:i<t
 ·simp [h1,show ¬t≤i by omega,show ¬t=i by omega]
 ·have h2:t≤i:=by omega
  by_cases h3:i=t
  ·subst h3;simp [ht]
  ·have e3:(2*q+1).testBit (i-t)=(2*q).testBit (i-t):=by
    obtain ⟨j,hj⟩:∃ j,i-t=j+1:=⟨i-t-1,by omega⟩;rw [hj,Nat.testBit_succ,Nat.testBit_succ];congr 1;omega
   rw [e3];simp [h1,h2,show ¬t=i by omega];intro a b;simp [a]
theorem zbt:∀ t,t<64→idx gt3 ((((UInt64.ofNat (2^t))*(285870213051353865:UInt64))>>>UInt64.ofNat 58).toNat:Int)=some (UInt8.ofNat t):=by decide +kernel
theorem zbu {x:UInt64} {t q:Nat} (ht:t<64) (hx:x.toNat=2^t*(2*q+1)):zCq x=some ((t:Nat):Int):=by
 have hlt:=x.toNat_lt;have hp:=Nat.two_pow_pos t;have hpos:0<2^t*(2*q+1):=Nat.mul_pos hp (by omega);unfold zCq
 have e:x&&&(0-x)=UInt64.ofNat (2^t):=by
  apply UInt64.toNat_inj.1
  have h2:2^t<2^64:=Nat.pow_lt_pow_right (by omega) ht;rw [UInt64.toNat_and,zBs (by omega),UInt64.toNat_sub,show (0:UInt64).toNat=0 by rfl,Nat.add_zero,Nat.mod_eq_of_lt (by omega),hx,zbb ht (by omega)]
 rw [if_neg (by omega),e,zbt t ht,zAn,UInt8.toNat_ofNat',Nat.mod_eq_of_lt (by omega)]
theorem zch (x:UInt64):zCu x=some ((64-bl x.toNat:Nat):Int):=by
 unfold zCu;have:=zRt (n:=x.toNat) (k:=64) (by have:=x.toNat_lt;omega);rw [zTg,zAn,zAr (by omega) (by omega)];congr 1;omega
def inW (a s x:Nat):Prop:=x<2^(64-a)∧x%2^(64-a-s)=0
instance (a s x:Nat):Decidable (inW a s x):=by unfold inW;exact inferInstance
structure zMc where
 a:Nat
 s:Nat
deriving DecidableEq
abbrev zMd (w:zMc):zAt:=⟨(w.a:Int),(w.s:Int)⟩
def zMc.ok (w:zMc):Prop:=(w.a=0∧w.s=0)∨(w.a≤31∧0<w.s∧w.a+w.s≤64)
theorem zTk {w:zMc} (hw:w.ok) {x:UInt64} (hx:x.toNat≠0):zDz (zMd w) x=some (decide (0<w.s∧inW w.a w.s x.toNat)):=by
 have hlt:=x.toNat_lt;unfold zDz zB5;obtain ⟨t,q,ht,hq⟩:=zOc 64 x.toNat (by omega) hlt
 by_cases h0:w.s=0
 ·have ha:w.a=0:=by rcases hw with h | h<;>omega
  rw [if_neg (by simp [h0,ha]),decide_eq_false (by omega)]
 have hw2:w.a≤31∧0<w.s∧w.a+w.s≤64:=by rcases hw with h | h<;>omega
 rw [if_pos (by intro h;have:=congrArg zAt.size h;simp at this;omega),zch,zAn];have hbl:=zRt (n:=x.toNat) (k:=64) (by omega)
 have e1:((64-bl x.toNat:Nat):Int)≥(w.a:Int)↔x.toNat<2^(64-w.a):=by
  constructor
  ·intro h
   have h1:=zUa x.toNat;have h2:2^bl x.toNat≤2^(64-w.a):=Nat.pow_le_pow_right (by omega) (by omega)
   omega
  ·intro h;have:=zRt h;omega
 have e2:∀ b,b≤64→(x.toNat%2^b=0↔b≤t):=by
  intro b hb
  constructor
  ·intro h
   rcases Nat.lt_or_ge t b with h1|h1
   ·exfalso
    obtain ⟨c,rfl⟩:∃ c,b=t+(c+1):=⟨b-t-1,by omega⟩;rw [hq,Nat.pow_add,Nat.mul_mod_mul_left] at h;have hp:=Nat.two_pow_pos t
    have h2:(2*q+1)%2^(c+1)=0:=by
     rcases Nat.mul_eq_zero.1 h with h|h
     ·omega
     ·exact h
    have h3:(2*q+1)%2^(c+1)%2=1:=by
     rw [Nat.mod_mod_of_dvd _ (show 2 ∣ 2^(c+1) from ⟨2^c,by rw [Nat.pow_succ,Nat.mul_comm]⟩)];omega
    rw [h2] at h3;simp at h3
   ·exact h1
  ·intro h
   obtain ⟨c,rfl⟩:∃ c,t=b+c:=⟨t-b,by omega⟩;rw [hq,Nat.pow_add,Nat.mul_assoc,Nat.mul_mod_right]
 by_cases h1:x.toNat<2^(64-w.a)
 ·rw [if_pos (e1.2 h1),zbu ht hq,zAn,zAn]
  dsimp only;have e3:W64 (64-(w.a:Int))=64-w.a:=zAr (by omega) (by omega);rw [e3,zAr (by omega) (by omega)]
  congr 1
  rw [decide_eq_decide];have:=e2 (64-w.a-w.s) (by omega);unfold inW;rw [this];omega
 ·rw [if_neg (fun h=>h1 (e1.1 h)),decide_eq_false];intro h;exact h1 h.2.1
def arW (x:Nat):zMc:=⟨min (64-bl x) 31,64-min (64-bl x) 31-tzB 64 x⟩
where tzB:Nat→Nat→Nat
 | 0,_=>0
 | k+1,x=>if x%2=1 then 0 else tzB k (x/2)+1
theorem zUl {q:Nat}:∀ (t k:Nat),t<k→arW.tzB k (2^t*(2*q+1))=t
 | 0,k,h=>by
  obtain ⟨k,rfl⟩:∃ m,k=m+1:=⟨k-1,by omega⟩;rw [arW.tzB,if_pos (by rw [Nat.pow_zero];omega)]
 | t+1,k,h=>by
  obtain ⟨k,rfl⟩:∃ m,k=m+1:=⟨k-1,by omega⟩
  have e:2^(t+1)*(2*q+1)=2*(2^t*(2*q+1)):=by rw [Nat.pow_succ',Nat.mul_assoc]
  rw [arW.tzB,e,if_neg (by omega),show 2*(2^t*(2*q+1))/2=2^t*(2*q+1) by omega,zUl t k (by omega)]
theorem zRw {x:UInt64} (hx:x.toNat≠0):zH0 x=some (zMd (arW x.toNat)):=by
 have hlt:=x.toNat_lt;obtain ⟨t,q,ht,hq⟩:=zOc 64 x.toNat (by omega) hlt;have hbl:=zRt (n:=x.toNat) (k:=64) (by omega)
 have htb:t<bl x.toNat:=by
  rcases Nat.lt_or_ge t (bl x.toNat) with h|h
  ·exact h
  ·have h1:=zUa x.toNat
   have h2:2^bl x.toNat≤2^t:=Nat.pow_le_pow_right (by omega) h;have h3:2^t*1≤2^t*(2*q+1):=Nat.mul_le_mul_left _ (by omega)
   omega
 unfold zH0;rw [zch,zAn,zbu ht hq,zAn];unfold arW
 have e1:arW.tzB 64 x.toNat=t:=by rw [hq];exact zUl t 64 ht
 rw [e1]
 have e2:min ((64-bl x.toNat:Nat):Int) 31=((min (64-bl x.toNat) 31:Nat):Int):=by omega
 have e3:W64 (64-((min (64-bl x.toNat) 31:Nat):Int))=64-((min (64-bl x.toNat) 31:Nat):Int):=zAr (by omega) (by omega);rw [e2,e3,zAr (by omega) (by omega)]
 congr 2;dsimp only;omega
theorem zTu {x:Nat} (h0:x≠0) (hx:x<2^64):(arW x).a≤31∧0<(arW x).s∧(arW x).a+(arW x).s≤64∧inW (arW x).a (arW x).s x:=by
 obtain ⟨t,q,ht,hq⟩:=zOc 64 x (by omega) hx;have hbl:=zRt (n:=x) (k:=64) hx;have h1:=zUa x
 have htb:t<bl x:=by
  rcases Nat.lt_or_ge t (bl x) with h|h
  ·exact h
  ·have h2:2^bl x≤2^t:=Nat.pow_le_pow_right (by omega) h
   have h3:2^t*1≤2^t*(2*q+1):=Nat.mul_le_mul_left _ (by omega)
   omega
 have e1:arW.tzB 64 x=t:=by rw [hq];exact zUl t 64 ht
 unfold inW arW;rw [e1];dsimp only;refine ⟨by omega,by omega,by omega,?_,?_⟩
 ·have h2:2^bl x≤2^(64-min (64-bl x) 31):=Nat.pow_le_pow_right (by omega) (by omega)
  omega
 ·rw [show 64-min (64-bl x) 31-(64-min (64-bl x) 31-t)=t by omega,hq,Nat.mul_mod_right]
end Go.Proofs.YthjhejgjcdajdaaGreatDoor
set_option maxRecDepth 20000
set_option linter.unusedVariables false
set_option linter.unusedSimpArgs false
namespace Go.Proofs.YthjhejgjcdajdaaGreatDoor
open Go Go.RowKit Go.Wk
theorem tb (x i:Nat):x.testBit i=decide (x/2^i%2=1):=Nat.testBit_eq_decide_div_mod_eq
def xB (n:Nat) (last v:UInt64) (w:zMc):List Bool×zMc:=
 if n=0 then (zG9 v.toNat 64,w)
 else if (v^^^last).toNat=0 then ([false],w)
 else if 0<w.s∧inW w.a w.s (v^^^last).toNat then ([true,false]++zG9 ((v^^^last).toNat/2^(64-w.a-w.s)) w.s,w)
 else ([true,true]++(zG9 (arW (v^^^last).toNat).a 5++(zG9 ((arW (v^^^last).toNat).s-1) 6++zG9 ((v^^^last).toNat/2^(64-(arW (v^^^last).toNat).a-(arW (v^^^last).toNat).s)) (arW (v^^^last).toNat).s)),arW (v^^^last).toNat)
theorem xB_ok {n:Nat} {last v:UInt64} {w:zMc} (hw:w.ok):(xB n last v w).2.ok:=by
 unfold xB
 split
 ·exact hw
 ·split
  ·exact hw
  ·rename_i h
   split
   ·exact hw
   ·have:=zTu h (by have:=(v^^^last).toNat_lt;omega);exact .inr ⟨this.1,this.2.1,this.2.2.1⟩
theorem zZn (n:Nat) (last v:UInt64) {w:zMc} (hw:w.ok):(xB n last v w).1.length≤77∧0<(xB n last v w).1.length:=by
 unfold xB
 split
 ·simp [zAw]
 ·split
  ·simp
  ·rename_i h
   split
   ·simp [zAw];rcases hw with h | h<;>omega
   ·have:=zTu h (by have:=(v^^^last).toNat_lt;omega)
    generalize (v^^^last).toNat=x at *;simp [zAw];omega
theorem zVw {a s x:Nat} (h:inW a s x) (ha:a+s≤64):x/2^(64-a-s)<2^s:=by
 have e:2^(64-a)=2^(64-a-s)*2^s:=by rw [← Nat.pow_add];congr 1;omega
 exact Nat.div_lt_of_lt_mul (by rw [← e];exact h.1)
theorem zLh {w:zMc} (h:w.a+w.s≤64):zB5 (zMd w)=some ((64-w.a-w.s:Nat):Int):=by
 unfold zB5;dsimp only;have e3:W64 (64-(w.a:Int))=64-w.a:=zAr (by omega) (by omega);rw [e3,zAr (by omega) (by omega)];congr 1;omega
theorem zZk {M:List Bool} {n:Nat} {last v:UInt64} {w:zMc} (hw:w.ok) (hn:n≤1000000000) (hM:M.length≤6000000000) :
 zDp ⟨(n:Int),last,zMd w⟩ (WrO M) v=some (WrO (M++(xB n last v w).1),⟨((n+1:Nat):Int),v,zMd (xB n last v w).2⟩):=by
 unfold zDp xB;have hx:=(v^^^last).toNat_lt;rw [zBm];dsimp only;have e1:W64 ((n:Int)+1)=((n+1:Nat):Int):=zDo (by omega)
 by_cases h0:n=0
 ·have p:zAf (WrO M) v 64=_:=zI7 (M:=M) (v:=v) (n:=64) (by omega) (by omega) (by have:=v.toNat_lt;omega)
  rw [if_pos (show (n:Int)=0 by omega),if_pos h0,p,zAn,e1]
 rw [if_neg (show ¬(n:Int)=0 by omega),if_neg h0]
 by_cases h1:(v^^^last).toNat=0
 ·have p:zAf (WrO M) 0 1=_:=zI7 (M:=M) (v:=0) (n:=1) (by omega) (by omega) (by decide)
  rw [if_pos (show (((v^^^last).toNat:Nat):Int)=0 by omega),if_pos h1,p,zAn,e1];rfl
 rw [if_neg (show ¬(((v^^^last).toNat:Nat):Int)=0 by omega),if_neg h1,zTk hw h1,zAn]
 by_cases h2:0<w.s∧inW w.a w.s (v^^^last).toNat
 ·have hw2:w.a+w.s≤64:=by rcases hw with h | h<;>omega
  have p:zAf (WrO M) 2 2=_:=zI7 (M:=M) (v:=2) (n:=2) (by omega) (by omega) (by decide)
  have es:(shr64 (v^^^last) ((zAe ((64-w.a-w.s:Nat):Int)).toNat)).toNat=(v^^^last).toNat/2^(64-w.a-w.s):=by rw [zCl (by omega),zJw]
  rw [decide_eq_true h2,if_pos rfl,if_pos h2,p,zAn,zLh hw2,zAn];dsimp only;rw [zI7 (by rw [List.length_append,zAw];omega) (by omega) (by rw [es];exact zVw h2.2 hw2),zAn,es,List.append_assoc,e1];rfl
 ·rw [decide_eq_false h2,if_neg (by simp),if_neg h2,zRw h1,zAn]
  obtain ⟨ha,hs,has,hin⟩:=zTu h1 (by omega);generalize hu:arW (v^^^last).toNat=u at *;have p:zAf (WrO M) 3 2=_:=zI7 (M:=M) (v:=3) (n:=2) (by omega) (by omega) (by decide);have ea:(zAe ((u.a:Nat):Int)).toNat=u.a:=zCl (by omega)
  have eb:(zAe (W64 (((u.s:Nat):Int)-1))).toNat=u.s-1:=by
   rw [zAr (by omega) (by omega),show ((u.s:Nat):Int)-1=((u.s-1:Nat):Int) by omega,zCl (by omega)]
  have es:(shr64 (v^^^last) ((zAe ((64-u.a-u.s:Nat):Int)).toNat)).toNat=(v^^^last).toNat/2^(64-u.a-u.s):=by rw [zCl (by omega),zJw]
  have p5:∀ X:List Bool,X.length≤7000000000→zAf (WrO X) (zAe ((u.a:Nat):Int)) 5=some (true,WrO (X++zG9 u.a 5)):=fun X hX=>by
   have:zAf (WrO X) (zAe ((u.a:Nat):Int)) 5=_:=zI7 (n:=5) (by omega) (by omega) (by rw [ea];omega);rw [ea] at this;exact this
  have p6:∀ X:List Bool,X.length≤7000000000→zAf (WrO X) (zAe (W64 (((u.s:Nat):Int)-1))) 6=some (true,WrO (X++zG9 (u.s-1) 6)):=fun X hX=>by
   have:zAf (WrO X) (zAe (W64 (((u.s:Nat):Int)-1))) 6=_:=zI7 (n:=6) (by omega) (by omega) (by rw [eb];omega);rw [eb] at this;exact this
  rw [p,zAn];dsimp only;rw [p5 _ (by rw [List.length_append,zAw];omega),zAn];dsimp only;rw [p6 _ (by rw [List.length_append,List.length_append,zAw,zAw];omega),zAn,zLh has,zAn];dsimp only;rw [zI7 (by simp only [List.length_append,zAw];omega) (by omega) (by rw [es];exact zVw hin has),zAn,es,e1];simp only [List.append_assoc];rfl
def zO4 (L:List UInt64):UInt64:=L.getLastD 0
end Go.Proofs.YthjhejgjcdajdaaGreatDoor
set_option maxRecDepth 20000
set_option linter.unusedVariables false
set_option linter.unusedSimpArgs false
namespace Go.Proofs.YthjhejgjcdajdaaGreatDoor
open Go Go.RowKit Go.Wk
def zTv (xs:List UInt64):zMc:=(xs.foldl (fun (s:List UInt64×zMc) v=>(s.1++[v],(xB s.1.length (zO4 s.1) v s.2).2)) ([],⟨0,0⟩)).2
theorem zPr (xs:List UInt64) (v:UInt64):zTv (xs++[v])=(xB xs.length (zO4 xs) v (zTv xs)).2:=by
 have key:∀ (xs:List UInt64) (s:List UInt64×zMc),(xs.foldl (fun (s:List UInt64×zMc) v=>(s.1++[v],(xB s.1.length (zO4 s.1) v s.2).2)) s).1=s.1++xs:=by
  intro xs
  induction xs with
  | nil=>intro s;simp
  | cons x t ih=>intro s;rw [List.foldl_cons,ih];simp
 unfold zTv;rw [List.foldl_append];have:=key xs ([],⟨0,0⟩);rw [List.nil_append] at this;simp only [List.foldl_cons,List.foldl_nil];rw [this]
theorem zLj (xs:List UInt64):(zTv xs).ok:=by
 have key:∀ (xs:List UInt64) (s:List UInt64×zMc),s.2.ok→(xs.foldl (fun (s:List UInt64×zMc) v=>(s.1++[v],(xB s.1.length (zO4 s.1) v s.2).2)) s).2.ok:=by
  intro xs
  induction xs with
  | nil=>intro s h;exact h
  | cons x t ih=>intro s h;rw [List.foldl_cons];exact ih _ (xB_ok h)
 exact key xs _ (.inl ⟨rfl,rfl⟩)
end Go.Proofs.YthjhejgjcdajdaaGreatDoor
set_option maxRecDepth 20000
set_option linter.unusedVariables false
set_option linter.unusedSimpArgs false
namespace Go.Proofs.YthjhejgjcdajdaaGreatDoor
open Go Go.RowKit Go.Wk
structure GotX where
 V:UInt64
 N:Nat
 E:Nat
 w:zMc
def plc (u:zMc) (b:List Bool):Nat:=numB b*2^(64-u.a-u.s)
theorem zZ8 {u:zMc} {b:List Bool} (h:u.a+u.s≤64) (hb:b.length≤u.s):plc u b<2^(64-u.a)∧plc u b%2^(64-u.a-u.s)=0:=by
 unfold plc;refine ⟨?_,Nat.mul_mod_left _ _⟩;have h1:=zGl b;have h2:2^b.length≤2^u.s:=Nat.pow_le_pow_right (by omega) hb
 have e:2^(64-u.a)=2^u.s*2^(64-u.a-u.s):=by rw [← Nat.pow_add];congr 1;omega
 rw [e];exact Nat.mul_lt_mul_of_pos_right (by omega) (Nat.two_pow_pos _)
def nwW (L:List Bool):zMc:=⟨numB ((L.drop 2).take 5),numB ((L.drop 7).take 6)+1⟩
def erX (e:Nat):GotX:=⟨0,0,e,⟨0,0⟩⟩
def zRo (n:Nat) (last:UInt64) (w:zMc) (L:List Bool):GotX:=
 if n=0 then (if L.length<64 then erX 2 else ⟨UInt64.ofNat (numB (L.take 64)),64,0,w⟩)
 else if L.length<1 then erX 2
 else if L.head?=some false then ⟨last,1,0,w⟩
 else if L.length<2 then erX 2
 else if L[1]?=some false then
  (if w.s=0 then erX 3
   else if L.length-2<w.s then erX 2
   else if plc w ((L.drop 2).take w.s)=0 then erX 3
   else ⟨last^^^UInt64.ofNat (plc w ((L.drop 2).take w.s)),2+w.s,0,w⟩)
 else if L.length<13 then erX 2
 else if (nwW L).a+(nwW L).s>64 then erX 3
 else if L.length-13<(nwW L).s then erX 2
 else if plc (nwW L) ((L.drop 13).take (nwW L).s)=0∨arW (plc (nwW L) ((L.drop 13).take (nwW L).s))≠nwW L∨(0<w.s∧inW w.a w.s (plc (nwW L) ((L.drop 13).take (nwW L).s))) then erX 3
 else ⟨last^^^UInt64.ofNat (plc (nwW L) ((L.drop 13).take (nwW L).s)),13+(nwW L).s,0,nwW L⟩
theorem zH4 {L:List Bool} {a n:Nat} (e:Int) (hL:L.length≤8000000000) (ha:a≤L.length) (hn:n≤64) :
 zCg (RdO L a) e (n:Int)=some (if a+n≤L.length then (UInt64.ofNat (numB ((L.drop a).take n)),RdO L (a+n),e) else (0,RdO L a,if e=0 then 2 else e)):=by
 unfold zCg;have t:=zQa hL ha hn;rw [t,zAn,zBm]
 by_cases h:a+n≤L.length
 ·rw [if_pos h,if_pos h,if_neg (by simp)]
 ·rw [if_neg h,if_neg h]
  by_cases he:e=0
  ·rw [if_pos ⟨rfl,he⟩,if_pos he]
  ·rw [if_neg (fun hh=>he hh.2),if_neg he]
theorem lt5 (l:List Bool) (n:Nat):numB (l.take n)<2^n:=by
 have h1:=zGl (l.take n);have h2:2^(l.take n).length≤2^n:=Nat.pow_le_pow_right (by omega) (by simp;omega)
 omega
theorem zVj {L:List Bool} {a:Nat} (h:a<L.length):(UInt64.ofNat (numB ((L.drop a).take 1))).toNat=(L[a]).toNat:=by
 rw [List.drop_eq_getElem_cons h,List.take_succ_cons,List.take_zero,zMo,zBs];cases L[a]<;>decide
theorem zUx {u:zMc} {b:List Bool} (h:u.a+u.s≤64) (hb:b.length≤u.s):shl64 (UInt64.ofNat (numB b)) (64-u.a-u.s)=UInt64.ofNat (plc u b):=by
 have h1:=(zZ8 h hb).1;have h2:2^(64-u.a)≤2^64:=Nat.pow_le_pow_right (by omega) (by omega);have hp:=Nat.two_pow_pos (64-u.a-u.s);have h3:numB b≤plc u b:=Nat.le_mul_of_pos_right _ hp
 apply UInt64.toNat_inj.1
 have e:(UInt64.ofNat (numB b)).toNat=numB b:=zBs (by omega);rw [zJx,e,zBs (by omega)];exact Nat.mod_eq_of_lt (by unfold plc at h1;omega)
def tl1 (x0:zAg) (rd:zA0) (e:Int):Option (UInt64×zA0×zAg×Int):=
 (zCg rd e x0.win.size).bind fun p35=>
  (zB5 x0.win).bind fun p40=>
  (remZ p40 64).bind fun z42=>
  jn (fun (y48:Int)=>
   (some (shl64 p35.1 ((zAe z42).toNat),p35.2.1,x0,y48))) fun j3=>
  if (((shl64 p35.1 ((zAe z42).toNat)).toNat:Int)=0)∧(p35.2.2=0) then
  (j3 3)
  else
  (j3 p35.2.2)
theorem zUn {L:List Bool} {a n:Nat} {last:UInt64} {w:zMc} (hw:w.ok) (hL:L.length≤8000000000) (ha:a≤L.length) {e:Int} (he:e≠0) :
 ∃ d rd x,tl1 ⟨(n:Int),last,zMd w⟩ (RdO L a) e=some (d,rd,x,e):=by
 have hws:w.a+w.s≤64:=by rcases hw with h | h<;>omega
 obtain ⟨z,hz⟩:∃ z,remZ ((64-w.a-w.s:Nat):Int) 64=some z:=⟨_,zMj (b:=64) (by omega)⟩;have t:=zH4 (n:=w.s) e hL ha (by omega);rw [if_neg he] at t;unfold tl1;simp only [zBm];rw [show zCg (RdO L a) e (zMd w).size=_ from t,zAn,zLh hws,zAn,hz,zAn]
 split
 ·rw [if_neg (fun h=>he h.2)];exact ⟨_,_,_,rfl⟩
 ·rw [if_neg (fun h=>he h.2)];exact ⟨_,_,_,rfl⟩
theorem zRb {u:zMc} {b:List Bool} (h:u.a+u.s≤64) (hb:b.length≤u.s):plc u b<2^64:=by
 have h1:=(zZ8 h hb).1;have h2:2^(64-u.a)≤2^64:=Nat.pow_le_pow_right (by omega) (by omega)
 omega
theorem za7 {a s:Nat} (h:0<s):remZ ((64-a-s:Nat):Int) 64=some ((64-a-s:Nat):Int):=by
 have:=zMj (a:=64-a-s) (b:=64) (by omega);rw [Nat.mod_eq_of_lt (by omega)] at this;exact this
theorem zbw {L:List Bool} {a n:Nat} {last:UInt64} {w:zMc} (hw:w.ok) (h0:0<w.s) (hL:L.length≤8000000000) (ha:a≤L.length) :
 tl1 ⟨(n:Int),last,zMd w⟩ (RdO L a) 0=some (if a+w.s≤L.length then (UInt64.ofNat (plc w ((L.drop a).take w.s)),RdO L (a+w.s),⟨(n:Int),last,zMd w⟩,if plc w ((L.drop a).take w.s)=0 then 3 else 0) else (0,RdO L a,⟨(n:Int),last,zMd w⟩,2)):=by
 have hws:w.a+w.s≤64:=by rcases hw with h | h<;>omega
 have t:=zH4 (n:=w.s) 0 hL ha (by omega);unfold tl1;simp only [zBm];rw [show zCg (RdO L a) 0 (zMd w).size=_ from t,zAn,zLh hws,zAn,za7 h0,zAn,zCl (by omega)]
 by_cases h:a+w.s≤L.length
 ·rw [if_pos h,if_pos h]
  dsimp only
  have hb:((L.drop a).take w.s).length≤w.s:=by simp;omega
  rw [zUx hws hb,zBs (zRb hws hb)]
  by_cases hz:plc w ((L.drop a).take w.s)=0
  ·rw [if_pos ⟨by rw [hz];rfl,rfl⟩,if_pos hz]
  ·rw [if_neg (fun h=>hz (by have:=h.1;omega)),if_neg hz]
 ·rw [if_neg h,if_neg h]
  dsimp only;rw [if_neg (fun h=>absurd h.2 (by decide))]
  have:shl64 0 (64-w.a-w.s)=0:=by apply UInt64.toNat_inj.1;rw [zJx];simp
  rw [this,if_pos rfl]
def tl2 (x0:zAg) (c1 c2:Int) (rd:zA0) (e:Int):Option (UInt64×zA0×zAg×Int):=
 (zCg rd e c2).bind fun p79=>
  if p79.2.2≠0 then
  (some ((0:UInt64),p79.2.1,x0,p79.2.2))
  else
  ((zB5 ({ ahead:=c1,size:=c2 }:zAt)).bind fun p85=>
   jn (fun (y88:Bool)=>
    (jn (fun (y91:Int)=>
     (some (shl64 p79.1 ((zAe p85).toNat),p79.2.1,({ n:=x0.n,last:=x0.last,win:=({ ahead:=c1,size:=c2 }:zAt) }:zAg),y91))) fun j7=>
     if y88=true then
     (j7 3)
     else
     (j7 p79.2.2))) fun j6=>
   if ((shl64 p79.1 ((zAe p85).toNat)).toNat:Int)=0 then
   (j6 true)
   else
   ((zH0 (shl64 p79.1 ((zAe p85).toNat))).bind fun p106=>
    if ¬(p106=({ ahead:=c1,size:=c2 }:zAt)) then
    (j6 true)
    else
    ((zDz x0.win (shl64 p79.1 ((zAe p85).toNat))).bind fun p111=>
     j6 p111)))
theorem zS1 {L:List Bool} {a s c1:Nat} {x0:zAg} (hs:s≤64) (hL:L.length≤8000000000) (ha:a≤L.length) {e:Int} (he:e≠0) :
 ∃ d rd x,tl2 x0 c1 s (RdO L a) e=some (d,rd,x,e):=by
 have t:=zH4 (n:=s) e hL ha hs;rw [if_neg he] at t;unfold tl2;rw [t,zAn]
 by_cases h:a+s≤L.length
 ·rw [if_pos h,if_pos he];exact ⟨_,_,_,rfl⟩
 ·rw [if_neg h,if_pos he];exact ⟨_,_,_,rfl⟩
theorem zbv {L:List Bool} {a n:Nat} {last:UInt64} {w u:zMc} (hw:w.ok) (hu:u.a+u.s≤64) (h0:0<u.s) (hL:L.length≤8000000000) (ha:a≤L.length) :
 tl2 ⟨(n:Int),last,zMd w⟩ u.a u.s (RdO L a) 0=some (if a+u.s≤L.length then (UInt64.ofNat (plc u ((L.drop a).take u.s)),RdO L (a+u.s),⟨(n:Int),last,zMd u⟩,if plc u ((L.drop a).take u.s)=0∨arW (plc u ((L.drop a).take u.s))≠u∨(0<w.s∧inW w.a w.s (plc u ((L.drop a).take u.s))) then 3 else 0) else (0,RdO L a,⟨(n:Int),last,zMd w⟩,2)):=by
 have t:=zH4 (n:=u.s) 0 hL ha (by omega);unfold tl2;rw [t,zAn]
 by_cases h:a+u.s≤L.length
 ·rw [if_pos h,if_pos h]
  dsimp only
  have hb:((L.drop a).take u.s).length≤u.s:=by simp;omega
  rw [if_neg (by simp),show zB5 ({ ahead:=(u.a:Int),size:=(u.s:Int) }:zAt)=_ from zLh hu,zAn,zCl (by omega),zUx hu hb,zBs (zRb hu hb)];simp only [zBm]
  by_cases hz:plc u ((L.drop a).take u.s)=0
  ·rw [if_pos (by rw [hz];rfl),if_pos trivial,if_pos (Or.inl hz)]
  ·have hz':(UInt64.ofNat (plc u ((L.drop a).take u.s))).toNat≠0:=by rw [zBs (zRb hu hb)];exact hz
   rw [if_neg (by omega),zRw hz',zAn,zBs (zRb hu hb)]
   by_cases hk:arW (plc u ((L.drop a).take u.s))=u
   ·rw [if_neg (by rw [hk];simp),zTk hw hz',zAn,zBs (zRb hu hb)]
    by_cases hh:0<w.s∧inW w.a w.s (plc u ((L.drop a).take u.s))
    ·rw [if_pos (decide_eq_true hh),if_pos (Or.inr (Or.inr hh))]
    ·rw [if_neg (by rw [decide_eq_false hh];decide),if_neg (fun h=>h.elim hz (fun h=>h.elim (fun h=>h hk) hh))]
   ·rw [if_pos (by
     intro hh
     apply hk
     have e1:((arW (plc u ((L.drop a).take u.s))).a:Int)=u.a:=congrArg zAt.ahead hh;have e2:((arW (plc u ((L.drop a).take u.s))).s:Int)=u.s:=congrArg zAt.size hh;generalize arW (plc u ((L.drop a).take u.s))=v at e1 e2
     cases v;cases u;simp only at e1 e2;congr 1<;>omega),if_pos trivial,if_pos (Or.inr (Or.inl hk))]
 ·rw [if_neg h,if_neg h]
  dsimp only;rw [if_pos (by decide)];rfl
theorem zZr {n:Nat} {last:UInt64} {w:zMc} (hw:w.ok) {L:List Bool} {a:Nat} (hL:L.length≤8000000000) (ha:a≤L.length) (hn:n≠0) :
 ∃ d rd x,zFu ⟨(n:Int),last,zMd w⟩ (RdO L a) 0=some (d,rd,x,((zRo n last w (L.drop a)).E:Int)) ∧
  ((zRo n last w (L.drop a)).E=0→last^^^d=(zRo n last w (L.drop a)).V∧rd=RdO L (a+(zRo n last w (L.drop a)).N)∧x=⟨(n:Int),last,zMd (zRo n last w (L.drop a)).w⟩∧a+(zRo n last w (L.drop a)).N≤L.length):=by
 have hl:(L.drop a).length=L.length-a:=by simp
 have t1:zCg (RdO L a) 0 1=_:=zH4 (n:=1) 0 hL ha (by omega);unfold zFu zRo;dsimp only;rw [if_neg (show ¬(n:Int)=0 by omega),if_neg hn,hl]
 by_cases h0:L.length-a<1
 ·rw [if_neg (by omega),if_pos rfl] at t1
  rw [if_pos h0,t1,zAn,if_pos (by rfl)];exact ⟨_,_,_,rfl,fun h=>by simp [erX] at h⟩
 rw [if_pos (by omega)] at t1
 have hh:(L.drop a).head?=some (L[a]'(by omega)):=by rw [List.drop_eq_getElem_cons (by omega)];rfl
 have o1:=zVj (L:=L) (a:=a) (by omega);rw [if_neg h0,hh,t1,zAn];dsimp only
 cases hx:L[a]'(by omega) with
 | false=>
  rw [hx] at o1;rw [o1,if_pos (by rfl),if_pos rfl];exact ⟨_,_,_,rfl,fun _=>⟨by simp,rfl,rfl,show a+1≤L.length by omega⟩⟩
 | true=>
  rw [hx] at o1;rw [o1,if_neg (by decide),if_neg (by simp)];have t2:zCg (RdO L (a+1)) 0 1=_:=zH4 (n:=1) 0 hL (by omega) (by omega)
  by_cases h2:L.length-a<2
  ·rw [if_neg (by omega),if_pos rfl] at t2
   rw [if_pos h2,t2,zAn];simp only [zBm];rw [if_pos (by rfl)];have fin:=zUn (n:=n) (last:=last) hw hL (show a+1≤L.length by omega) (e:=2) (by decide)
   by_cases hnone:zMd w=({ ahead:=0,size:=0 }:zAt)
   ·rw [if_pos hnone,decide_eq_false (show ¬(2:Int)=0 by decide),if_neg (by decide)]
    obtain ⟨d,rd,x,h⟩:=fin;exact ⟨d,rd,x,h,fun h=>by simp [erX] at h⟩
   ·rw [if_neg hnone,if_neg (by decide)]
    obtain ⟨d,rd,x,h⟩:=fin;exact ⟨d,rd,x,h,fun h=>by simp [erX] at h⟩
  ·rw [if_pos (by omega)] at t2
   have o2:=zVj (L:=L) (a:=a+1) (by omega)
   have hh2:(L.drop a)[1]?=some (L[a+1]'(by omega)):=by rw [List.getElem?_drop,List.getElem?_eq_getElem (by omega)]
   rw [if_neg h2,hh2,t2,zAn];dsimp only
   have hd2:(L.drop a).drop 2=L.drop (a+1+1):=by rw [List.drop_drop]
   have hd7:(L.drop a).drop 7=L.drop (a+1+1+5):=by rw [List.drop_drop]
   have hd13:(L.drop a).drop 13=L.drop (a+1+1+5+6):=by rw [List.drop_drop]
   have hwn:zMd w=({ ahead:=0,size:=0 }:zAt)↔w.s=0:=by
    constructor
    ·intro h;have:(w.s:Int)=0:=congrArg zAt.size h;omega
    ·intro h
     have:w.a=0:=by rcases hw with h | h<;>omega
     unfold zMd;rw [h,this];rfl
   cases hy:L[a+1]'(by omega) with
   | false=>
    rw [hy] at o2;rw [o2,if_pos (by rfl),if_pos rfl];simp only [zBm]
    by_cases hs:w.s=0
    ·rw [if_pos hs,if_pos (hwn.2 hs),if_pos (by first | trivial | rfl | decide)]
     obtain ⟨d,rd,x,h⟩:=zUn (n:=n) (last:=last) hw hL (show a+1+1≤L.length by omega) (e:=3) (by decide);exact ⟨d,rd,x,h,fun h=>by simp [erX] at h⟩
    ·rw [if_neg (fun h=>hs (hwn.1 h)),if_neg (by decide),if_neg hs,hd2]
     have t:=zbw (n:=n) (last:=last) hw (by omega) hL (show a+1+1≤L.length by omega)
     by_cases hg:L.length-a-2<w.s
     ·rw [if_neg (by omega)] at t
      rw [if_pos hg];exact ⟨_,_,_,t,fun h=>by simp [erX] at h⟩
     ·rw [if_pos (by omega)] at t
      rw [if_neg hg]
      by_cases hz:plc w ((L.drop (a+1+1)).take w.s)=0
      ·rw [if_pos hz] at t
       rw [if_pos hz];exact ⟨_,_,_,t,fun h=>by simp [erX] at h⟩
      ·rw [if_neg hz] at t
       rw [if_neg hz];refine ⟨_,_,_,t,fun _=>⟨rfl,?_,rfl,show a+(2+w.s)≤L.length by omega⟩⟩;show RdO L _=RdO L (a+(2+w.s))
       congr 1;omega
   | true=>
    rw [hy] at o2;rw [o2,if_neg (by decide),if_neg (by simp)];have t5:zCg (RdO L (a+1+1)) 0 5=_:=zH4 (n:=5) 0 hL (by omega) (by omega);have e5:=lt5 (L.drop (a+1+1)) 5;have e6:=lt5 (L.drop (a+1+1+5)) 6
    have c5:∀ k:Nat,k<2^5→W64 ((UInt64.ofNat k).toNat:Int)=(k:Int):=by
     intro k hk;rw [zBs (by omega)];exact zAr (by omega) (by omega)
    have c6:∀ k:Nat,k<2^6→W64 ((W64 ((UInt64.ofNat k).toNat:Int))+1)=((k+1:Nat):Int):=by
     intro k hk;rw [zBs (by omega),zAr (z:=(k:Int)) (by omega) (by omega),zAr (by omega) (by omega)];omega
    have c0:W64 (((0:UInt64)).toNat:Int)=((0:Nat):Int):=by decide
    have c01:W64 ((W64 (((0:UInt64)).toNat:Int))+1)=((1:Nat):Int):=by decide
    by_cases h3:L.length-a<13
    ·rw [if_pos h3]
     by_cases h7:L.length-a<7
     ·rw [if_neg (by omega),if_pos rfl] at t5
      have t6:zCg (RdO L (a+1+1)) 2 6=_:=zH4 (n:=6) 2 hL (by omega) (by omega);rw [if_neg (show ¬a+1+1+6≤L.length by omega)] at t6;rw [t5,zAn];dsimp only;rw [t6,zAn];simp only [zBm];rw [c01,c0];obtain ⟨d,rd,x,h⟩:=zS1 (x0:=⟨(n:Int),last,zMd w⟩) (c1:=0) (s:=1) (by omega) hL (show a+1+1≤L.length by omega) (e:=2) (by decide);refine ⟨d,rd,x,?_,fun h=>by simp [erX] at h⟩;rw [if_neg (by decide)];exact h
     ·rw [if_pos (by omega)] at t5
      have t6:zCg (RdO L (a+1+1+5)) 0 6=_:=zH4 (n:=6) 0 hL (by omega) (by omega);rw [if_neg (show ¬a+1+1+5+6≤L.length by omega),if_pos rfl] at t6;rw [t5,zAn];dsimp only;rw [t6,zAn];simp only [zBm];rw [c5 _ e5,c01];obtain ⟨d,rd,x,h⟩:=zS1 (x0:=⟨(n:Int),last,zMd w⟩) (c1:=numB ((L.drop (a+1+1)).take 5)) (s:=1) (by omega) hL (show a+1+1+5≤L.length by omega) (e:=2) (by decide);refine ⟨d,rd,x,?_,fun h=>by simp [erX] at h⟩;rw [if_neg (by decide)];exact h
    ·rw [if_neg h3]
     rw [if_pos (by omega)] at t5;have t6:zCg (RdO L (a+1+1+5)) 0 6=_:=zH4 (n:=6) 0 hL (by omega) (by omega);rw [if_pos (show a+1+1+5+6≤L.length by omega)] at t6;rw [t5,zAn];dsimp only;rw [t6,zAn];simp only [zBm];rw [c5 _ e5,c6 _ e6,hd13]
     have eu:nwW (L.drop a)=⟨numB ((L.drop (a+1+1)).take 5),numB ((L.drop (a+1+1+5)).take 6)+1⟩:=by unfold nwW;rw [hd2,hd7]
     rw [eu];generalize numB ((L.drop (a+1+1)).take 5)=k5 at *;generalize numB ((L.drop (a+1+1+5)).take 6)=k6 at *
     have hbe:zB5 ({ ahead:=(k5:Int),size:=((k6+1:Nat):Int) }:zAt)=some ((64:Int)-k5-(k6+1:Nat)):=by
      unfold zB5;dsimp only;rw [zAr (z:=64-(k5:Int)) (by omega) (by omega),zAr (by omega) (by omega)]
     rw [if_pos trivial,hbe,zAn]
     by_cases hg:k5+(k6+1)>64
     ·rw [if_pos hg,if_pos (decide_eq_true (by omega))]
      obtain ⟨d,rd,x,h⟩:=zS1 (x0:=⟨(n:Int),last,zMd w⟩) (c1:=k5) (s:=k6+1) (by omega) hL (show a+1+1+5+6≤L.length by omega) (e:=3) (by decide);unfold tl2 at h;simp only [zBm] at h;rw [hbe] at h;exact ⟨d,rd,x,h,fun h=>by simp [erX] at h⟩
     ·rw [if_neg hg,if_neg (by rw [decide_eq_false (by omega)];decide)]
      have t:=zbv (n:=n) (last:=last) (u:=⟨k5,k6+1⟩) hw (show k5+(k6+1)≤64 by omega) (by simp) hL (show a+1+1+5+6≤L.length by omega);unfold tl2 at t;simp only [zBm] at t;rw [hbe] at t;dsimp only at t ⊢
      by_cases hq:L.length-a-13<k6+1
      ·rw [if_neg (by omega)] at t
       rw [if_pos hq];exact ⟨_,_,_,t,fun h=>by simp [erX] at h⟩
      ·rw [if_pos (by omega)] at t
       rw [if_neg hq]
       by_cases hz:plc ⟨k5,k6+1⟩ ((L.drop (a+1+1+5+6)).take (k6+1))=0∨arW (plc ⟨k5,k6+1⟩ ((L.drop (a+1+1+5+6)).take (k6+1)))≠⟨k5,k6+1⟩∨(0<w.s∧inW w.a w.s (plc ⟨k5,k6+1⟩ ((L.drop (a+1+1+5+6)).take (k6+1))))
       ·rw [if_pos hz] at t
        rw [if_pos hz];exact ⟨_,_,_,t,fun h=>by simp [erX] at h⟩
       ·rw [if_neg hz] at t
        rw [if_neg hz];refine ⟨_,_,_,t,fun _=>⟨rfl,?_,rfl,show a+(13+(k6+1))≤L.length by omega⟩⟩;show RdO L _=RdO L (a+(13+(k6+1)))
        congr 1;omega
end Go.Proofs.YthjhejgjcdajdaaGreatDoor
set_option maxRecDepth 20000
set_option linter.unusedVariables false
set_option linter.unusedSimpArgs false
namespace Go.Proofs.YthjhejgjcdajdaaGreatDoor
open Go Go.RowKit Go.Wk
theorem zZm {n:Nat} {last:UInt64} {w:zMc} (hw:w.ok) (hz:n=0→last=0) (hn:n≤1000000000) {L:List Bool} {a:Nat} (hL:L.length≤8000000000) (ha:a≤L.length) :
 zIm ⟨(n:Int),last,zMd w⟩ (RdO L a)=some (if (zRo n last w (L.drop a)).E=0 then ((zRo n last w (L.drop a)).V,0,RdO L (a+(zRo n last w (L.drop a)).N),⟨((n+1:Nat):Int),(zRo n last w (L.drop a)).V,zMd (zRo n last w (L.drop a)).w⟩) else (0,((zRo n last w (L.drop a)).E:Int),RdO L a,⟨(n:Int),last,zMd w⟩)):=by
 have hW:W64 ((n:Int)+1)=((n+1:Nat):Int):=by rw [zAr (by omega) (by omega)];omega
 unfold zIm zBt;simp only [zBm]
 by_cases h0:n=0
 ·subst h0
  rw [hz rfl];have t:=zH4 (n:=64) 0 hL ha (by omega)
  have hl:(L.drop a).length=L.length-a:=by simp
  have t':zFu ⟨((0:Nat):Int),0,zMd w⟩ (RdO L a) 0=some (if a+64≤L.length then (UInt64.ofNat (numB ((L.drop a).take 64)),RdO L (a+64),⟨((0:Nat):Int),0,zMd w⟩,0) else (0,RdO L a,⟨((0:Nat):Int),0,zMd w⟩,2)):=by
   unfold zFu;rw [if_pos (by rfl),show zCg (RdO L a) 0 64=_ from t,zAn]
   by_cases h:a+64≤L.length
   ·rw [if_pos h,if_pos h]
   ·rw [if_neg h,if_neg h];rfl
  unfold zRo;rw [if_pos rfl,hl,t',zAn]
  by_cases h:a+64≤L.length
  ·rw [if_pos h,if_neg (show ¬L.length-a<64 by omega)]
   dsimp only;have sk:=zN2 (a:=a) (n:=64) hL h;rw [if_neg (by simp),zAn,zAn,show W64 (((a+64:Nat):Int)-(a:Int))=((64:Nat):Int) by rw [zAr (by omega) (by omega)];omega,sk,zAn,if_pos rfl]
   have ex:(0:UInt64)^^^UInt64.ofNat (numB ((L.drop a).take 64))=UInt64.ofNat (numB ((L.drop a).take 64)):=by simp
   rw [ex];rfl
  ·rw [if_neg h,if_pos (show L.length-a<64 by omega)]
   dsimp only;rw [if_pos (by decide)];rfl
 ·obtain ⟨d,rd,x,h,hk⟩:=zZr (last:=last) hw hL ha h0
  generalize zRo n last w (L.drop a)=g at *;rw [h,zAn]
  by_cases he:g.E=0
  ·obtain ⟨e1,e2,e3,e4⟩:=hk he
   have sk:=zN2 (a:=a) (n:=g.N) hL e4;rw [if_neg (by simp [he]),if_pos he,zAn,zAn];dsimp only;rw [e2,e3];dsimp only;rw [e1,show W64 (((a+g.N:Nat):Int)-(a:Int))=((g.N:Nat):Int) by rw [zAr (by omega) (by omega)];omega,sk,zAn,hW]
  ·rw [if_pos (by dsimp only;omega),if_neg he]
end Go.Proofs.YthjhejgjcdajdaaGreatDoor
set_option maxRecDepth 20000
set_option linter.unusedVariables false
set_option linter.unusedSimpArgs false
namespace Go.Proofs.YthjhejgjcdajdaaGreatDoor
open Go Go.RowKit Go.Wk
theorem zQ6 (a v:UInt64):a^^^(v^^^a)=v:=by
 rw [UInt64.xor_comm v a,← UInt64.xor_assoc,UInt64.xor_self,UInt64.zero_xor]
theorem zVz {n:Nat} {last v:UInt64} {w:zMc} (hw:w.ok) (rest:List Bool) :
 zRo n last w ((xB n last v w).1++rest)=⟨v,(xB n last v w).1.length,0,(xB n last v w).2⟩:=by
 have hws:w.a+w.s≤64:=by rcases hw with h | h<;>omega
 have hd:=(v^^^last).toNat_lt
 have pl:∀ (u:zMc) (x:Nat),inW u.a u.s x→u.a+u.s≤64→plc u (zG9 (x/2^(64-u.a-u.s)) u.s)=x:=by
  intro u x hi h;unfold plc;rw [zHm (zVw hi h)];exact Nat.div_mul_cancel (Nat.dvd_of_mod_eq_zero hi.2)
 unfold xB zRo
 by_cases h0:n=0
 ·rw [if_pos h0,if_pos h0]
  dsimp only;rw [if_neg (by rw [List.length_append,zAw];omega),List.take_left' (zAw _ _),zHm (by have:=v.toNat_lt;omega),zAw,UInt64.ofNat_toNat]
 rw [if_neg h0,if_neg h0]
 by_cases h1:(v^^^last).toNat=0
 ·have hv:last=v:=by
   have:v^^^last=0:=UInt64.toNat_inj.1 h1;have e:=zQ6 last v;rw [this,UInt64.xor_zero] at e;exact e
  rw [if_pos h1];dsimp only;rw [if_neg (by simp),if_pos (by rfl),hv];rfl
 rw [if_neg h1]
 by_cases h2:0<w.s∧inW w.a w.s (v^^^last).toNat
 ·rw [if_pos h2]
  dsimp only
  have e1:(([true,false]++zG9 ((v^^^last).toNat/2^(64-w.a-w.s)) w.s++rest).drop 2).take w.s=zG9 ((v^^^last).toNat/2^(64-w.a-w.s)) w.s:=by
   rw [List.append_assoc,List.drop_left' (by rfl),List.take_left' (zAw _ _)]
  rw [if_neg (by simp),if_neg (by simp),if_neg (by simp),if_pos (by rfl),if_neg (by omega),if_neg (by simp [zAw]),e1,pl w _ h2.2 hws,if_neg h1,UInt64.ofNat_toNat,zQ6];simp [zAw];omega
 ·obtain ⟨ha,hs,has,hin⟩:=zTu h1 (by omega)
  rw [if_neg h2];dsimp only;generalize hu:arW (v^^^last).toNat=u at *;generalize hB:zG9 ((v^^^last).toNat/2^(64-u.a-u.s)) u.s=B at *
  have lB:B.length=u.s:=by rw [← hB,zAw]
  generalize hX:[true,true]++(zG9 u.a 5++(zG9 (u.s-1) 6++B))++rest=X
  have hX':X=[true,true]++(zG9 u.a 5++(zG9 (u.s-1) 6++(B++rest))):=by rw [← hX];simp only [List.append_assoc]
  have d2:X.drop 2=zG9 u.a 5++(zG9 (u.s-1) 6++(B++rest)):=by rw [hX',List.drop_left' (by rfl)]
  have d7:X.drop 7=zG9 (u.s-1) 6++(B++rest):=by
   rw [show (7:Nat)=2+5 by rfl,← List.drop_drop,d2,List.drop_left' (zAw _ _)]
  have d13:X.drop 13=B++rest:=by
   rw [show (13:Nat)=7+6 by rfl,← List.drop_drop,d7,List.drop_left' (zAw _ _)]
  have hnw:nwW X=u:=by
   unfold nwW;rw [d2,d7,List.take_left' (zAw _ _),List.take_left' (zAw _ _),zHm (by omega),zHm (by omega)]
   cases u;simp only at *;congr 1;omega
  have lX:X.length=13+u.s+rest.length:=by rw [hX'];simp [zAw,lB];omega
  have g0:X.head?=some true:=by rw [hX'];rfl
  have g1:X[1]?=some true:=by rw [hX'];rfl
  rw [if_neg (by omega),g0,if_neg (by simp),if_neg (by omega),g1,if_neg (by simp),if_neg (by omega),hnw,if_neg (by omega),if_neg (by omega),d13,List.take_left' lB,← hB,pl u _ hin has,if_neg (by
   rintro (h|h|h)
   ·exact h1 h
   ·exact h hu
   ·exact h2 h),UInt64.ofNat_toNat,zQ6]
  simp [zAw];omega
end Go.Proofs.YthjhejgjcdajdaaGreatDoor
set_option maxRecDepth 20000
set_option linter.unusedVariables false
set_option linter.unusedSimpArgs false
namespace Go.Proofs.YthjhejgjcdajdaaGreatDoor
open Go Go.RowKit Go.Wk
def zR3 (l:List UInt64):Nat:=(l.map UInt64.toNat).sum
theorem zR2 (x:UInt64) (l:List UInt64):zR3 (x::l)=x.toNat+zR3 l:=by simp [zR3]
theorem zaa (a b:UInt64):a|||b=0↔a=0∧b=0:=by
 constructor
 ·intro h
  have h1:(a|||b).toNat=0:=by rw [h];rfl
  rw [UInt64.toNat_or] at h1;have:=Nat.or_eq_zero_iff.1 h1;exact ⟨UInt64.toNat_inj.1 this.1,UInt64.toNat_inj.1 this.2⟩
 ·rintro ⟨rfl,rfl⟩;rfl
theorem zSt (l:List UInt64):∀ (a b:UInt64),((l.foldl (fun (s:UInt64×UInt64) x=>(s.1+x,s.2|||cry s.1 x)) (a,b)).1.toNat=(a.toNat+zR3 l)%2^64) ∧
 ((l.foldl (fun (s:UInt64×UInt64) x=>(s.1+x,s.2|||cry s.1 x)) (a,b)).2=0↔b=0∧a.toNat+zR3 l<2^64):=by
 induction l with
 | nil=>intro a b;have:=a.toNat_lt;simp [zR3];omega
 | cons x l ih=>
  intro a b;have ha:=a.toNat_lt;have hx:=x.toNat_lt;obtain ⟨h1,h2⟩:=ih (a+x) (b|||cry a x);rw [List.foldl_cons];dsimp only;rw [h1,h2,zaa,zR2];have e:(a+x).toNat=(a.toNat+x.toNat)%2^64:=UInt64.toNat_add a x
  constructor
  ·rw [e];omega
  ·unfold cry
   by_cases hc:18446744073709551616≤a.toNat+x.toNat
   ·rw [if_pos hc]
    constructor
    ·rintro ⟨⟨_,h⟩,_⟩;exact absurd h (by decide)
    ·rintro ⟨_,h⟩;omega
   ·rw [if_neg hc,e]
    constructor
    ·rintro ⟨⟨h,_⟩,k⟩;exact ⟨h,by omega⟩
    ·rintro ⟨h,k⟩;exact ⟨⟨h,rfl⟩,by omega⟩
def zZs (h:zA3):Nat:=h.Zero.toNat+zR3 h.Pos.Counts+zR3 h.Neg.Counts
def zbh (h:zA3):UInt64×Bool:=if zZs h<2^64 then (UInt64.ofNat (zZs h),true) else (0,false)
theorem zYr (h:zA3) (h1:h.Pos.Counts.length≤1000000) (h2:h.Neg.Counts.length≤1000000):zJs h=some (zbh h):=by
 have hL2:∀ (z:zA9) (j:UInt64→UInt64→Option (UInt64×Bool)) (a b:UInt64),z.Counts.length≤1000000→zCd z j fuel a b 0=j (z.Counts.foldl (fun (s:UInt64×UInt64) x=>(s.1+x,s.2|||cry s.1 x)) (a,b)).1 (z.Counts.foldl (fun (s:UInt64×UInt64) x=>(s.1+x,s.2|||cry s.1 x)) (a,b)).2:=by
  intro z j a b h;rw [zLy _ _ _ _ (by omega),zTy (fun (s:UInt64×UInt64) x=>(s.1+x,s.2|||cry s.1 x)) (fun i x s k _=>by rw [zAn])]
 unfold zJs zIe;rw [zAn,zBm];obtain ⟨m,hm⟩:=zM9 3 (by omega)
 rw [show zCz { a0:=h.Pos,a1:=h.Neg } _ fuel _ _ _=zCz { a0:=h.Pos,a1:=h.Neg } _ (m+3) _ _ _ by rw [← hm],zCz,if_pos (by omega),show idx [h.Pos,h.Neg] 0=some h.Pos from rfl,zAn,zBm,hL2 _ _ _ _ h1,zAr (by omega) (by omega),show (0:Int)+1=1 from rfl,
  zCz,if_pos (by omega),show idx [h.Pos,h.Neg] 1=some h.Neg from rfl,zAn,zBm,hL2 _ _ _ _ h2,zAr (by omega) (by omega),show (1:Int)+1=2 from rfl,zCz,if_neg (by omega)]
 obtain ⟨p1,p2⟩:=zSt h.Pos.Counts h.Zero 0;generalize h.Pos.Counts.foldl (fun (s:UInt64×UInt64) x=>(s.1+x,s.2|||cry s.1 x)) (h.Zero,0)=P at *;obtain ⟨q1,q2⟩:=zSt h.Neg.Counts P.1 P.2;generalize h.Neg.Counts.foldl (fun (s:UInt64×UInt64) x=>(s.1+x,s.2|||cry s.1 x)) (P.1,P.2)=Q at *;unfold zbh zZs
 by_cases hq:Q.2=0
 ·obtain ⟨a1,a2⟩:=q2.1 hq
  obtain ⟨_,a3⟩:=p2.1 a1;rw [if_neg (by rw [hq];decide),if_pos (by omega)]
  have:Q.1=UInt64.ofNat (h.Zero.toNat+zR3 h.Pos.Counts+zR3 h.Neg.Counts):=by
   apply UInt64.toNat_inj.1
   rw [q1,zBs (by omega)];omega
  rw [this]
 ·have hq':Q.2.toNat≠0:=fun h=>hq (UInt64.toNat_inj.1 h)
  rw [if_pos (by omega),if_neg];intro h
  apply hq
  rw [q2];exact ⟨p2.2 ⟨rfl,by omega⟩,by omega⟩
theorem zV5 (y:UInt64) (l:List UInt64) (hl:l.length≤1000000):zDv y l=some (if y.toNat+zR3 l<2^64 then (UInt64.ofNat (y.toNat+zR3 l),true) else (0,false)):=by
 unfold zDv;rw [zBm,zIk _ _ _ (by omega),zJy (fun _ (q:List UInt64) (y:UInt64)=>some (if y.toNat+zR3 q<2^64 then (UInt64.ofNat (y.toNat+zR3 q),true) else (0,false)))]
 ·intro s
  have:=s.toNat_lt;rw [if_pos (by simp [zR3];omega)];simp [zR3]
 ·intro p x q s k _ hk
  have hs:=s.toNat_lt;have hx:=x.toNat_lt
  have e:((18446744073709551615:UInt64)-s).toNat=18446744073709551615-s.toNat:=by
   rw [UInt64.toNat_sub_of_le _ _ (by rw [UInt64.le_iff_toNat_le];show s.toNat≤18446744073709551615;omega)];rfl
  rw [zAn,zAn,e,zR2]
  by_cases hc:(x.toNat:Int)>((18446744073709551615-s.toNat:Nat):Int)
  ·rw [if_pos hc,if_neg (by omega)]
  ·rw [if_neg hc,hk,show (s+x).toNat=s.toNat+x.toNat by rw [UInt64.toNat_add];omega,Nat.add_assoc]
theorem zVc (h:zA3) (h1:h.Pos.Counts.length≤1000000) (h2:h.Neg.Counts.length≤1000000):zEa h=some (zbh h):=by
 unfold zEa zbh zZs;rw [zV5 _ _ h1,zAn]
 by_cases hp:h.Zero.toNat+zR3 h.Pos.Counts<2^64
 ·rw [if_pos hp,if_neg (by simp),zV5 _ _ h2,zAn,zBs hp]
 ·rw [if_neg hp,if_pos (by simp),if_neg (by omega)]
def sdE (s:zA9):Int:=
 if s.Counts.length>160 then 4
 else if s.Counts=[] then (if s.Offset≠0 then 3 else 0)
 else if s.Counts.headD 0=0∨s.Counts.getLastD 0=0 then 3
 else if s.Offset < -1073741824∨s.Offset+s.Counts.length-1>1073741824 then 1 else 0
theorem zR0 (x:UInt64):((x.toNat:Nat):Int)=0↔x=0:=by
 constructor
 ·intro h;apply UInt64.toNat_inj.1;show x.toNat=0;omega
 ·rintro rfl;rfl
theorem ends {l:List UInt64} (h:l≠[]) (hl:l.length≤1000000):idx l 0=some (l.headD 0)∧idx l (W64 ((l.length:Int)-1))=some (l.getLastD 0):=by
 have h0:0<l.length:=List.length_pos_iff.2 h
 constructor
 ·cases l with
  | nil=>exact absurd rfl h
  | cons a t=>rfl
 ·rw [zAr (by omega) (by omega),show (l.length:Int)-1=((l.length-1:Nat):Int) by omega,zNg,← List.getLast?_eq_getElem?,List.getLast?_eq_some_getLast h]
  cases l with
  | nil=>exact absurd rfl h
  | cons a t=>rw [List.getLastD_cons,List.getLast_eq_getLastD]
theorem zR6 (s:zA9):zJr s=some (sdE s):=by
 unfold zJr sdE
 by_cases h1:s.Counts.length>160
 ·rw [if_pos (by omega),if_pos h1]
 rw [if_neg (by omega),if_neg h1]
 by_cases h2:s.Counts=[]
 ·rw [if_pos h2,h2]
  by_cases h3:s.Offset≠0
  ·rw [if_pos ⟨rfl,h3⟩,if_pos h3]
  ·rw [if_neg (fun h=>h3 h.2),if_pos (by rfl),if_neg h3]
 have h0:0<s.Counts.length:=List.length_pos_iff.2 h2;obtain ⟨e1,e2⟩:=ends h2 (by omega);rw [if_neg (by omega),if_neg (by omega),if_neg h2,e1,zAn];simp only [zBm]
 by_cases h3:s.Counts.headD 0=0
 ·rw [if_pos ((zR0 _).2 h3),if_pos (by trivial),if_pos (Or.inl h3)]
 rw [if_neg (fun h=>h3 ((zR0 _).1 h)),e2,zAn]
 by_cases h4:s.Counts.getLastD 0=0
 ·rw [if_pos (decide_eq_true ((zR0 _).2 h4)),if_pos (Or.inr h4)]
 rw [if_neg (by rw [decide_eq_false (fun h=>h4 ((zR0 _).1 h))];decide),if_neg (show ¬(s.Counts.headD 0=0∨s.Counts.getLastD 0=0) from fun h=>h.elim h3 h4),zAr (z:=(s.Counts.length:Int)-1) (by omega) (by omega),zAr (by omega) (by omega)]
 by_cases h5:s.Offset < -1073741824
 ·rw [if_pos h5,if_pos (by trivial),if_pos (Or.inl h5)]
 rw [if_neg h5]
 by_cases h6:s.Offset>1073741824-((s.Counts.length:Int)-1)
 ·rw [if_pos (decide_eq_true h6),if_pos (by omega)]
 ·rw [if_neg (by rw [decide_eq_false h6];decide),if_neg (by omega)]
theorem zR8 (s:zA9):zDh s=some (sdE s):=by
 unfold zDh sdE
 by_cases h1:s.Counts.length>160
 ·rw [if_pos (by omega),if_pos h1]
 rw [if_neg (by omega),if_neg h1]
 by_cases h2:s.Counts=[]
 ·rw [if_pos h2,h2,if_pos (by rfl)]
  by_cases h3:s.Offset≠0
  ·rw [if_pos h3,if_pos h3]
  ·rw [if_neg h3,if_neg h3]
 have h0:0<s.Counts.length:=List.length_pos_iff.2 h2;obtain ⟨e1,e2⟩:=ends h2 (by omega);rw [if_neg (by omega),if_neg h2,e1,zAn];simp only [zBm]
 by_cases h3:s.Counts.headD 0=0
 ·rw [if_pos ((zR0 _).2 h3),if_pos (by trivial),if_pos (Or.inl h3)]
 rw [if_neg (fun h=>h3 ((zR0 _).1 h)),e2,zAn]
 by_cases h4:s.Counts.getLastD 0=0
 ·rw [if_pos (decide_eq_true ((zR0 _).2 h4)),if_pos (Or.inr h4)]
 rw [if_neg (by rw [decide_eq_false (fun h=>h4 ((zR0 _).1 h))];decide),if_neg (show ¬(s.Counts.headD 0=0∨s.Counts.getLastD 0=0) from fun h=>h.elim h3 h4)]
 by_cases h5:s.Offset < -1073741824∨s.Offset>1073741824
 ·rw [if_pos h5,if_pos (by trivial),if_pos (by omega)]
 rw [if_neg h5,zAr (z:=s.Offset+(s.Counts.length:Int)) (by omega) (by omega),zAr (by omega) (by omega)]
 by_cases h6:s.Offset+(s.Counts.length:Int)-1>1073741824
 ·rw [if_pos (decide_eq_true h6),if_pos (Or.inr h6)]
 ·rw [if_neg (by rw [decide_eq_false h6];decide),if_neg (by omega)]
def hcE (h:zA3):Int:=
 if h.Scale < -10∨h.Scale>20 then 1 else if sdE h.Pos≠0 then sdE h.Pos else if sdE h.Neg≠0 then sdE h.Neg else if zZs h<2^64 then 0 else 4
theorem zWj (h:zA3) (h1:h.Pos.Counts.length≤1000000) (h2:h.Neg.Counts.length≤1000000):zEb h=some (hcE h):=by
 unfold zEb hcE
 by_cases hs:h.Scale < -10∨h.Scale>20
 ·rw [if_pos hs,if_pos hs]
 rw [if_neg hs,if_neg hs,zR8,zAn]
 by_cases c1:sdE h.Pos≠0
 ·rw [if_pos c1,if_pos c1]
 rw [if_neg c1,if_neg c1,zR8,zAn]
 by_cases c2:sdE h.Neg≠0
 ·rw [if_pos c2,if_pos c2]
 rw [if_neg c2,if_neg c2,zVc h h1 h2,zAn];unfold zbh
 by_cases ht:zZs h<2^64
 ·rw [if_pos ht,if_pos ht,if_neg (by simp)]
 ·rw [if_neg ht,if_neg ht,if_pos (by simp)]
theorem zJe (h:zA3) (h1:h.Pos.Counts.length≤1000000) (h2:h.Neg.Counts.length≤1000000):zFi h=some (hcE h):=by
 unfold zFi zIe hcE
 by_cases hs:h.Scale < -10∨h.Scale>20
 ·rw [if_pos hs,if_pos hs]
 rw [if_neg hs,if_neg hs,zAn,zBm];obtain ⟨m,hm⟩:=zM9 3 (by omega);rw [hm,zDw,if_pos (by omega),show idx [h.Pos,h.Neg] 0=some h.Pos from rfl,zAn,zR6,zAn]
 by_cases c1:sdE h.Pos≠0
 ·rw [if_pos c1,if_pos c1]
 rw [if_neg c1,if_neg c1,zAr (by omega) (by omega),show (0:Int)+1=1 from rfl,zDw,if_pos (by omega),show idx [h.Pos,h.Neg] 1=some h.Neg from rfl,zAn,zR6,zAn]
 by_cases c2:sdE h.Neg≠0
 ·rw [if_pos c2,if_pos c2]
 rw [if_neg c2,if_neg c2,zAr (by omega) (by omega),show (1:Int)+1=2 from rfl,zDw,if_neg (by omega),zYr h h1 h2,zAn];unfold zbh
 by_cases ht:zZs h<2^64
 ·rw [if_pos ht,if_pos ht,if_neg (by simp)]
 ·rw [if_neg ht,if_neg ht,if_pos (by simp)]
end Go.Proofs.YthjhejgjcdajdaaGreatDoor
set_option maxRecDepth 20000
set_option linter.unusedVariables false
set_option linter.unusedSimpArgs false
namespace Go.Proofs.YthjhejgjcdajdaaGreatDoor
open Go Go.RowKit Go.Wk
def zPf (a b:zA3):Prop:=a.Scale=b.Scale∧a.Pos.Offset=b.Pos.Offset∧a.Neg.Offset=b.Neg.Offset∧a.Pos.Counts.length=b.Pos.Counts.length∧a.Neg.Counts.length=b.Neg.Counts.length
instance (a b:zA3):Decidable (zPf a b):=by unfold zPf;exact inferInstance
def zKa (h:zA3):List UInt64:=h.Zero::(h.Pos.Counts++h.Neg.Counts)
theorem zJt (h:zA3):(zKa h).length=1+h.Pos.Counts.length+h.Neg.Counts.length:=by simp [zKa];omega
def smS (l:List UInt64):List Bool:=l.flatMap fun c=>smB c.toNat
theorem zQd (c:UInt64) (l:List UInt64):smS (c::l)=smB c.toNat++smS l:=rfl
theorem zYy (l:List UInt64):(smS l).length≤66*l.length:=by
 induction l with
 | nil=>simp [smS]
 | cons c l ih=>have:=zOm c.toNat;rw [zQd,List.length_append,List.length_cons];omega
theorem zX6 (l:List UInt64) (c:UInt64):smS (l++[c])=smS l++smB c.toNat:=by simp [smS]
def dfS (l m:List UInt64):List Bool:=(l.zip m).flatMap fun c=>smB (zig (sI (c.1-c.2))).toNat
theorem zZh (l m:List UInt64):(dfS l m).length≤66*l.length:=by
 induction l generalizing m with
 | nil=>simp [dfS]
 | cons a l ih=>
  cases m with
  | nil=>simp [dfS]
  | cons b m=>
   have h1:=zOm (zig (sI (a-b))).toNat;have h2:=ih m;have e:dfS (a::l) (b::m)=smB (zig (sI (a-b))).toNat++dfS l m:=rfl;rw [e,List.length_append,List.length_cons];omega
theorem zY8 {l m:List UInt64} (a b:UInt64) (h:l.length=m.length):dfS (l++[a]) (m++[b])=dfS l m++smB (zig (sI (a-b))).toNat:=by
 unfold dfS;rw [List.zip_append h,List.flatMap_append];simp
theorem zR7 {α S R:Type} {l:List α} {B:Nat→α→S→(S→Option R)→Option R} {J:S→Option R} (st:List α→S)
 (h:∀ p x q k,p++x::q=l→B p.length x (st p) k=k (st (p++[x]))):zF2 l (st []) B J=J (st l):=
 zMh (fun p s=>s=st p) (fun _ _ _=>J (st l)) rfl (fun s e=>by rw [e]) fun p x q s k hp e hk=>by rw [e,h p x q k hp];exact hk _ rfl
def shB (s:zA9):List Bool:=zG9 s.Counts.length 8++if s.Counts.length>0 then smB (zig s.Offset).toNat else []
theorem zSz (s:zA9):(shB s).length≤74:=by
 have:=zOm (zig s.Offset).toNat;unfold shB;rw [List.length_append,zAw];split
 ·omega
 ·simp
def zQn (h:zA3):List Bool:=false::(zG9 (h.Scale+10).toNat 5++(shB h.Pos++(shB h.Neg++smS (zKa h))))
def hB (n:Nat) (last h:zA3):List Bool:=if 0<n∧zPf last h then true::dfS (zKa h) (zKa last) else zQn h
structure HOk (h:zA3):Prop where
 p:h.Pos.Counts.length≤160
 n:h.Neg.Counts.length≤160
 s0:-10≤h.Scale
 s1:h.Scale≤20
 op:okI h.Pos.Offset
 on:okI h.Neg.Offset
theorem zZ1 {s:zA9} (h:sdE s=0):s.Counts.length≤160∧okI s.Offset:=by
 unfold sdE at h
 by_cases h1:s.Counts.length>160
 ·rw [if_pos h1] at h;exact absurd h (by decide)
 rw [if_neg h1] at h;refine ⟨by omega,?_⟩;unfold okI
 by_cases h2:s.Counts=[]
 ·rw [if_pos h2] at h
  by_cases h3:s.Offset≠0
  ·rw [if_pos h3] at h;exact absurd h (by decide)
  ·omega
 rw [if_neg h2] at h
 by_cases h3:s.Counts.headD 0=0∨s.Counts.getLastD 0=0
 ·rw [if_pos h3] at h;exact absurd h (by decide)
 rw [if_neg h3] at h
 by_cases h4:s.Offset < -1073741824∨s.Offset+s.Counts.length-1>1073741824
 ·rw [if_pos h4] at h;exact absurd h (by decide)
 omega
theorem zP4 {h:zA3} (e:hcE h=0):HOk h:=by
 unfold hcE at e
 by_cases hs:h.Scale < -10∨h.Scale>20
 ·rw [if_pos hs] at e;exact absurd e (by decide)
 rw [if_neg hs] at e
 by_cases c1:sdE h.Pos≠0
 ·rw [if_pos c1] at e;exact absurd e c1
 rw [if_neg c1] at e
 by_cases c2:sdE h.Neg≠0
 ·rw [if_pos c2] at e;exact absurd e c2
 have a:=zZ1 (Classical.not_not.1 c1);have b:=zZ1 (Classical.not_not.1 c2);exact ⟨a.1,b.1,by omega,by omega,a.2,b.2⟩
theorem hB_le {n:Nat} {last h:zA3} (ok:HOk h):(hB n last h).length≤30000∧0<(hB n last h).length:=by
 have h1:=zJt h;have:=ok.p;have:=ok.n;unfold hB zQn
 split
 ·have:=zZh (zKa h) (zKa last)
  simp only [List.length_cons];omega
 ·have:=zYy (zKa h)
  have:=zSz h.Pos;have:=zSz h.Neg;simp only [List.length_cons,List.length_append,zAw];omega
theorem zMx (h:zA3) (h1:h.Pos.Counts.length≤1000000) (h2:h.Neg.Counts.length≤1000000):zD6 h=some h:=by
 unfold zD6 zCm;simp only [zDg (show ([]:List UInt64).length+h.Pos.Counts.length≤1073741824 by simp;omega),zDg (show ([]:List UInt64).length+h.Neg.Counts.length≤1073741824 by simp;omega),zAn,List.nil_append]
theorem zMz (h:zA3) (h1:h.Pos.Counts.length≤1000000) (h2:h.Neg.Counts.length≤1000000):zCh h=some (zKa h):=by
 unfold zCh;rw [zDg (by simp;omega),zAn,zDg (by simp;omega),zAn];rfl
theorem zXq (a b:zA3):((⟨a.Scale,a.Pos.Offset,(a.Pos.Counts.length:Int),a.Neg.Offset,(a.Neg.Counts.length:Int)⟩:zE5)=⟨b.Scale,b.Pos.Offset,(b.Pos.Counts.length:Int),b.Neg.Offset,(b.Neg.Counts.length:Int)⟩)↔zPf b a:=by
 unfold zPf;simp only [zE5.mk.injEq]
 constructor
 ·rintro ⟨h1,h2,h3,h4,h5⟩;exact ⟨h1.symm,h2.symm,h4.symm,by omega,by omega⟩
 ·rintro ⟨h1,h2,h3,h4,h5⟩;exact ⟨h1.symm,h2.symm,by omega,h3.symm,by omega⟩
theorem zXk (l:List UInt64) (hl:l.length≤1000) (j:zA2→Option (Int×zA4×zA2)) {M:List Bool} (hM:M.length≤6500000000) :
 zBa l j fuel 0 (WrO M)=j (WrO (M++smS l)):=by
 have:=zR7 (l:=l) (B:=fun ii xx ss kk=>(some xx).bind fun z90=>(zGa ss z90).bind fun p91=>kk p91) (J:=j) (fun p=>WrO (M++smS p)) (by
  intro p x q k hp;have hp':=congrArg List.length hp;simp at hp';have:=zYy p
  rw [zAn,zS _ (by simp;omega),zAn,zX6,List.append_assoc])
 rw [zJl _ _ _ (by omega)];simpa [smS] using this
theorem zVd (l m:List UInt64) (hlm:l.length=m.length) (hl:l.length≤1000) (j:zA2→Option (Int×zA4×zA2)) {M:List Bool} (hM:M.length≤6500000000) :
 zBb m l j fuel 0 (WrO M)=j (WrO (M++dfS l m)):=by
 have:=zR7 (l:=l) (B:=fun ii xx ss kk=>(some xx).bind fun z59=>(idx m (ii:Int)).bind fun z60=>(zDq ss (W64 ((z59-z60).toNat:Int))).bind fun p61=>kk p61) (J:=j) (fun p=>WrO (M++dfS p (m.take p.length))) (by
  intro p x q k hp;have hp':=congrArg List.length hp;simp at hp';have:=zZh p (m.take p.length)
  have hi:p.length<m.length:=by omega
  rw [zAn,zH2 hi,zAn,zV1,zLk (zV0 _) (by simp;omega),zAn,List.length_append,List.length_singleton,← List.take_append_getElem hi,zY8 _ _ (by simp;omega),List.append_assoc])
 rw [zJm _ _ _ _ (by omega)];have e:m.take l.length=m:=List.take_of_length_le (by omega);simpa [dfS,e] using this
theorem zT7 {M:List Bool} {s:zA9} (h:s.Counts.length≤160) (ho:okI s.Offset) (hM:M.length≤6500000000) (j:zA2→Option (Int×zA4×zA2)) :
 ((zAf (WrO M) (zAe (s.Counts.length:Int)) 8).bind fun p110=>if (s.Counts.length:Int)>0 then (zDq p110.2 s.Offset).bind fun p115=>j p115 else j p110.2)=j (WrO (M++shB s)):=by
 have hp:=zI7 (M:=M) (v:=zAe (s.Counts.length:Int)) (n:=8) (by omega) (by omega) (by rw [zCl (by omega)];omega);rw [show zAf (WrO M) (zAe (s.Counts.length:Int)) 8=_ from hp,zAn,zCl (by omega)];unfold shB
 by_cases h0:s.Counts.length>0
 ·rw [if_pos (by omega),zLk ho (by simp [zAw];omega),zAn,if_pos h0,List.append_assoc]
 ·rw [if_neg (by omega),if_neg h0,List.append_nil]
theorem zam {n:Nat} {last h:zA3} {M:List Bool} (hn:n≤1000000000) (hM:M.length≤6000000000)
 (a1:h.Pos.Counts.length≤1000000) (a2:h.Neg.Counts.length≤1000000) (b1:last.Pos.Counts.length≤1000000) (b2:last.Neg.Counts.length≤1000000) :
 zE1 ⟨(n:Int),last⟩ (WrO M) h=some (if hcE h=0 then (0,⟨((n+1:Nat):Int),h⟩,WrO (M++hB n last h)) else (hcE h,⟨(n:Int),last⟩,WrO M)):=by
 have hW:W64 ((n:Int)+1)=((n+1:Nat):Int):=by rw [zAr (by omega) (by omega)];omega
 unfold zE1 hB;rw [zJe h a1 a2,zAn]
 by_cases he:hcE h=0
 ·have ok:=zP4 he
  have:=ok.p;have:=ok.n;have:=ok.s0;have:=ok.s1;have hl:=zJt h;rw [if_neg (fun k=>k he),if_pos he];simp only [zBm]
  have fin:∀ (w:zA2),((zD6 h).bind fun p27=>some ((0:Int),({ n:=W64 ((n:Int)+1),last:=p27 }:zA4),w))=some (0,⟨((n+1:Nat):Int),h⟩,w):=by
   intro w;rw [zMx h a1 a2,zAn,hW]
  have dif:zPf last h→((zAf (WrO M) (1:UInt64) 1).bind fun p36=>(zCh last).bind fun p43=>(zCh h).bind fun p46=>zBb p43 p46 (fun y52=>(zD6 h).bind fun p27=>some ((0:Int),({ n:=W64 ((n:Int)+1),last:=p27 }:zA4),y52)) fuel 0 p36.2)=some (0,⟨((n+1:Nat):Int),h⟩,WrO (M++true::dfS (zKa h) (zKa last))):=by
   intro hal
   have hlen:(zKa h).length=(zKa last).length:=by rw [zJt,zJt,hal.2.2.2.1,hal.2.2.2.2]
   have hp:=zI7 (M:=M) (v:=1) (n:=1) (by omega) (by omega) (by decide);rw [show zAf (WrO M) 1 1=_ from hp,zAn,zMz _ b1 b2,zAn,zMz _ a1 a2,zAn,zVd _ _ hlen (by omega) _ (by simp [zAw];omega),fin,List.append_assoc];rfl
  have ful:((zAf (WrO M) (0:UInt64) 1).bind fun p65=>(zAf p65.2 (zAe (W64 (h.Scale-(-10)))) 5).bind fun p69=>zBp h (fun y77=>(zCh h).bind fun p79=>zBa p79 (fun y83=>(zD6 h).bind fun p27=>some ((0:Int),({ n:=W64 ((n:Int)+1),last:=p27 }:zA4),y83)) fuel 0 y77) fuel 0 p69.2)=some (0,⟨((n+1:Nat):Int),h⟩,WrO (M++zQn h)):=by
   have e1:W64 (h.Scale-(-10))=(((h.Scale+10).toNat:Nat):Int):=by rw [zAr (by omega) (by omega)];omega
   have e2:(zAe (((h.Scale+10).toNat:Nat):Int)).toNat=(h.Scale+10).toNat:=zCl (by omega);have hp:=zI7 (M:=M) (v:=0) (n:=1) (by omega) (by omega) (by decide);have hq:=zI7 (M:=M++zG9 (0:UInt64).toNat 1) (v:=zAe (((h.Scale+10).toNat:Nat):Int)) (n:=5) (by simp [zAw];omega) (by omega) (by rw [e2];omega);have q1:=zSz h.Pos;have q2:=zSz h.Neg;obtain ⟨m,hm⟩:=zM9 3 (by omega)
   rw [show zAf (WrO M) 0 1=_ from hp,zAn,e1,show zAf (WrO (M++zG9 (0:UInt64).toNat 1)) _ 5=_ from hq,zAn,e2,
    show zBp h _ fuel _ _=zBp h _ (m+3) _ _ by rw [← hm],zBp,if_pos (by simp),zBm,show idx [h.Pos,h.Neg] 0=some h.Pos from rfl,zAn]
   rw [zT7 ok.p ok.op (by simp [zAw];omega),show W64 ((0:Int)+1)=1 by decide,zBp,if_pos (by simp),zBm,show idx [h.Pos,h.Neg] 1=some h.Neg from rfl,zAn,
    zT7 ok.n ok.on (by simp [zAw];omega),show W64 ((1:Int)+1)=2 by decide,zBp,if_neg (by simp),zMz _ a1 a2,zAn,zXk _ (by omega) _ (by simp [zAw];omega),fin]
   unfold zQn;simp only [List.append_assoc];rfl
  by_cases h0:0<n
  ·rw [if_pos (show (n:Int)>0 by omega)]
   unfold zFo;simp only [zAn]
   by_cases hal:zPf last h
   ·rw [if_pos (decide_eq_true ((zXq h last).2 hal)),if_pos ⟨h0,hal⟩];exact dif hal
   ·rw [if_neg (by rw [decide_eq_false (fun k=>hal ((zXq h last).1 k))];decide),if_neg (fun k=>hal k.2)];exact ful
  ·rw [if_neg (show ¬(n:Int)>0 by omega),if_neg (by decide),if_neg (fun k=>h0 k.1)];exact ful
 ·rw [if_pos he,if_neg he]
end Go.Proofs.YthjhejgjcdajdaaGreatDoor
set_option maxRecDepth 20000
set_option linter.unusedVariables false
set_option linter.unusedSimpArgs false
namespace Go.Proofs.YthjhejgjcdajdaaGreatDoor
open Go Go.RowKit Go.Wk
abbrev h00:zA3:=⟨0,0,⟨0,[]⟩,⟨0,[]⟩⟩
def zO5 (L:List zA3):zA3:=L.getLastD h00
end Go.Proofs.YthjhejgjcdajdaaGreatDoor
set_option maxRecDepth 20000
set_option linter.unusedVariables false
set_option linter.unusedSimpArgs false
namespace Go.Proofs.YthjhejgjcdajdaaGreatDoor
open Go Go.RowKit Go.Wk
structure StH where
 a:Nat
 e:Nat
abbrev rdS (L:List Bool) (s:StH):zA1:=⟨RdO L s.a,(s.e:Int)⟩
def tkS (L:List Bool) (n:Nat) (s:StH):Nat×StH:=
 if s.e≠0 then (0,s) else if s.a+n≤L.length then (numB ((L.drop s.a).take n),⟨s.a+n,0⟩) else (0,⟨s.a,2⟩)
def nmS (L:List Bool) (s:StH):UInt64×StH:=
 if s.e≠0 then (0,s) else (UInt64.ofNat (zM8 (L.drop s.a)).V,⟨s.a+(zM8 (L.drop s.a)).N,(zM8 (L.drop s.a)).E⟩)
def sdS (L:List Bool) (s:StH):zA9×StH:=
 let t:=tkS L 8 s
 let s1:StH:=if t.2.e=0∧t.1>160 then ⟨t.2.a,4⟩ else t.2
 if s1.e≠0∨t.1=0 then (⟨0,[]⟩,s1) else (⟨zPg (nmS L s1).1,List.replicate t.1 0⟩,(nmS L s1).2)
def rwS (L:List Bool):Nat→StH→List UInt64×StH
 | 0,s=>([],s)
 | k+1,s=>((nmS L s).1::(rwS L k (nmS L s).2).1,(rwS L k (nmS L s).2).2)
def vsS (L:List Bool):List UInt64→StH→List UInt64×StH
 | [],s=>([],s)
 | c::cs,s=>((c+zAe (zPg (nmS L s).1))::(vsS L cs (nmS L s).2).1,(vsS L cs (nmS L s).2).2)
theorem zSu {L:List Bool} {n:Nat} {s:StH} (h:s.a≤L.length):(tkS L n s).2.a≤L.length:=by
 unfold tkS;repeat' split
 all_goals first | exact h | assumption
theorem zYv (L:List Bool) (n:Nat) (s:StH):(tkS L n s).1<2^n:=by
 have hp:=Nat.two_pow_pos n;unfold tkS;repeat' split
 ·exact hp
 ·exact lt5 _ _
 ·exact hp
theorem zL7 {L:List Bool} {s:StH} (h:s.a≤L.length):(nmS L s).2.a≤L.length:=by
 unfold nmS;split
 ·exact h
 ·have:=(zcr (L.drop s.a)).1
  rw [List.length_drop] at this;show s.a+_≤_;omega
theorem zZ0 {L:List Bool} {s:StH} (h:s.a≤L.length):(sdS L s).2.a≤L.length:=by
 have:=zSu (n:=8) h
 have h1:(if (tkS L 8 s).2.e=0∧(tkS L 8 s).1>160 then (⟨(tkS L 8 s).2.a,4⟩:StH) else (tkS L 8 s).2).a≤L.length:=by split<;>exact this
 unfold sdS;dsimp only;generalize (if (tkS L 8 s).2.e=0∧(tkS L 8 s).1>160 then (⟨(tkS L 8 s).2.a,4⟩:StH) else (tkS L 8 s).2)=q at *
 split
 ·exact h1
 ·exact zL7 h1
theorem zUz (L:List Bool) (s:StH):(sdS L s).1.Counts.length≤160:=by
 unfold sdS;dsimp only;generalize tkS L 8 s=q
 by_cases k:q.2.e=0∧q.1>160
 ·rw [if_pos k,if_pos (Or.inl (show (4:Nat)≠0 by decide))];simp
 ·rw [if_neg k]
  by_cases o:q.2.e≠0∨q.1=0
  ·rw [if_pos o];simp
  ·rw [if_neg o]
   show (List.replicate _ (0:UInt64)).length≤160;rw [List.length_replicate]
   omega
theorem zT3 {L:List Bool}:∀ (k:Nat) {s:StH},s.a≤L.length→(rwS L k s).2.a≤L.length∧(rwS L k s).1.length=k
 | 0,s,h=>⟨h,rfl⟩
 | k+1,s,h=>by
  have:=zT3 k (zL7 h);exact ⟨this.1,by rw [rwS,List.length_cons,this.2]⟩
theorem zSp {L:List Bool}:∀ (cs:List UInt64) {s:StH},s.a≤L.length→(vsS L cs s).2.a≤L.length∧(vsS L cs s).1.length=cs.length
 | [],s,h=>⟨h,rfl⟩
 | c::cs,s,h=>by
  have:=zSp cs (zL7 h);exact ⟨this.1,by rw [vsS,List.length_cons,this.2,List.length_cons]⟩
theorem zV3 (L:List Bool):∀ (m k:Nat) (s:StH),rwS L (m+k) s=((rwS L m s).1++(rwS L k (rwS L m s).2).1,(rwS L k (rwS L m s).2).2)
 | 0,k,s=>by rw [Nat.zero_add];rfl
 | m+1,k,s=>by
  rw [show m+1+k=(m+k)+1 by omega,rwS,zV3 L m k,rwS];rfl
theorem zUj (L:List Bool):∀ (x y:List UInt64) (s:StH),vsS L (x++y) s=((vsS L x s).1++(vsS L y (vsS L x s).2).1,(vsS L y (vsS L x s).2).2)
 | [],y,s=>rfl
 | c::x,y,s=>by rw [List.cons_append,vsS,zUj L x y,vsS];rfl
theorem zQj {L:List Bool} {n:Nat} {s:StH} (hL:L.length≤1000000000) (hs:s.a≤L.length) (hn:n≤8):zBu (rdS L s) (n:Int)=some (((tkS L n s).1:Int),rdS L (tkS L n s).2):=by
 unfold zBu tkS
 by_cases he:s.e≠0
 ·rw [if_pos (show (s.e:Int)≠0 by omega),if_pos he];rfl
 ·rw [if_neg (show ¬(s.e:Int)≠0 by omega),if_neg he,zQa (by omega) hs (by omega),zAn]
  simp only [zBm];have he0:s.e=0:=Classical.not_not.1 he
  by_cases h:s.a+n≤L.length
  ·have:=lt5 (L.drop s.a) n
   have h8:2^n≤2^8:=Nat.pow_le_pow_right (by omega) hn;rw [if_pos h,if_pos h];dsimp only;rw [if_neg (by decide),zBs (by omega),zAr (by omega) (by omega),he0]
  ·rw [if_neg h,if_neg h];rfl
theorem zQk {L:List Bool} {s:StH} (hL:L.length≤1000000000) (hs:s.a≤L.length):zC3 (rdS L s)=some (zPg (nmS L s).1,rdS L (nmS L s).2):=by
 unfold zC3 nmS
 by_cases he:s.e≠0
 ·rw [if_pos (show (s.e:Int)≠0 by omega),if_pos he]
  show _=some (zPg 0,rdS L s);rw [show zPg 0=0 by decide]
 ·rw [if_neg (show ¬(s.e:Int)≠0 by omega),if_neg he,zPv (by omega) hs,zAn]
theorem zSb {L:List Bool} {s:StH} (hL:L.length≤1000000000) (hs:s.a≤L.length):zD5 (rdS L s)=some ((nmS L s).1,rdS L (nmS L s).2):=by
 unfold zD5 nmS
 by_cases he:s.e≠0
 ·rw [if_pos (show (s.e:Int)≠0 by omega),if_pos he]
 ·rw [if_neg (show ¬(s.e:Int)≠0 by omega),if_neg he,zS0 (by omega) hs,zAn]
theorem zTj {L:List Bool} {s:StH} (hL:L.length≤1000000000) (hs:s.a≤L.length):zDj (rdS L s)=some ((sdS L s).1,rdS L (sdS L s).2):=by
 unfold zDj sdS;have t:=zQj (n:=8) hL hs (by omega);have tl:=zSu (n:=8) hs;have lt:=zYv L 8 s;rw [show zBu (rdS L s) 8=_ from t,zAn];simp only [zBm];generalize tkS L 8 s=q at *
 have key:∀ s1:StH,s1.a≤L.length→(if ((rdS L s1).e≠0)∨((q.1:Int)=0) then (some (({ Offset:=0,Counts:=([]:List UInt64) }:zA9),rdS L s1)) else ((zC3 (rdS L s1)).bind fun p33=>(mkL (q.1:Int) ((0:UInt64):UInt64)).bind fun z37=>some (({ Offset:=p33.1,Counts:=z37 }:zA9),p33.2)))=some (if s1.e≠0∨q.1=0 then (⟨0,[]⟩,rdS L s1) else (⟨zPg (nmS L s1).1,List.replicate q.1 0⟩,rdS L (nmS L s1).2)):=by
  intro s1 h1
  by_cases h:s1.e≠0∨q.1=0
  ·rw [if_pos (show ((s1.e:Int)≠0)∨((q.1:Int)=0) by omega),if_pos h]
  ·have mk:mkL (q.1:Int) (0:UInt64)=some (List.replicate q.1 0):=by unfold mkL;rw [if_pos (by omega)];simp
   rw [if_neg (show ¬(((s1.e:Int)≠0)∨((q.1:Int)=0)) by omega),if_neg h,zQk hL h1,zAn,mk,zAn]
 by_cases h:q.2.e=0∧q.1>160
 ·rw [if_pos (show ((q.2.e:Int)=0)∧((q.1:Int)>160) by omega),if_pos h]
  have:=key ⟨q.2.a,4⟩ tl;refine this.trans ?_
  split<;>rfl
 ·rw [if_neg (show ¬(((q.2.e:Int)=0)∧((q.1:Int)>160)) by omega),if_neg h]
  refine (key q.2 tl).trans ?_
  split<;>rfl
end Go.Proofs.YthjhejgjcdajdaaGreatDoor
set_option maxRecDepth 20000
set_option linter.unusedVariables false
set_option linter.unusedSimpArgs false
namespace Go.Proofs.YthjhejgjcdajdaaGreatDoor
open Go Go.RowKit Go.Wk
theorem zco {L:List Bool} (hL:L.length≤1000000000) (p111:zA3) (C:List UInt64) (H:zA3) (j:zA1→zA3→Int→Option (zA3×Int×zA4×zA0)) :
 ∀ (cs W' pre Cp Cr:List UInt64) (s:StH) (i k f:Nat),C=Cp++(cs++Cr)→W'.length=cs.length→pre.length=i→Cp.length=k→i+cs.length=p111.Pos.Counts.length→cs.length<f→s.a≤L.length→k+cs.length≤100000→i+cs.length≤100000 →
 zC6 p111 C j f (i:Int) (rdS L s) ⟨H.Scale,H.Zero,⟨H.Pos.Offset,pre++W'⟩,H.Neg⟩ (k:Int)=j (rdS L (vsS L cs s).2) ⟨H.Scale,H.Zero,⟨H.Pos.Offset,pre++(vsS L cs s).1⟩,H.Neg⟩ ((k+cs.length:Nat):Int):=by
 intro cs
 induction cs with
 | nil=>
  intro W' pre Cp Cr s i k f hC hW hp hk hb hf hs hk2 hi2;obtain ⟨f,rfl⟩:∃ m,f=m+1:=⟨f-1,by simp at hf;omega⟩;obtain rfl:W'=[]:=List.length_eq_zero_iff.1 hW;rw [zC6,if_neg (by simp at hb;omega)];rfl
 | cons c cs ih=>
  intro W' pre Cp Cr s i k f hC hW hp hk hb hf hs hk2 hi2;obtain ⟨f,rfl⟩:∃ m,f=m+1:=⟨f-1,by simp at hf;omega⟩
  obtain ⟨w,W',rfl⟩:∃ w t,W'=w::t:=by cases W' with|nil=>simp at hW|cons w t=>exact ⟨w,t,rfl⟩
  simp only [List.length_cons] at hW hb hf hk2 hi2;have e1:W64 ((i:Int)+1)=((i+1:Nat):Int):=zDo (by omega);have e2:W64 ((k:Int)+1)=((k+1:Nat):Int):=zDo (by omega)
  have hc:idx C (k:Int)=some c:=by rw [hC,← hk];exact zGp Cp c (cs++Cr)
  have hw:∀ v,zGq (pre++w::W') (i:Int) v=(pre++[v])++W':=by intro v;unfold zGq;rw [Int.toNat_natCast,← hp,List.set_append_right _ _ (Nat.le_refl _),Nat.sub_self];simp
  have hx:idx (pre++w::W') (i:Int)=some w:=by rw [← hp];exact zGp pre w W'
  have hlen:k<C.length:=by rw [hC];simp;omega
  rw [zC6,if_pos (by omega)];simp only [zBm];rw [zQk hL hs,zAn,if_pos (by omega),hc,zAn,hx,zAn,hw,e1,e2,UInt64.add_comm];have:=ih W' (pre++[c+zAe (zPg (nmS L s).1)]) (Cp++[c]) Cr (nmS L s).2 (i+1) (k+1) f (by rw [hC];simp) (by omega) (by simp;omega) (by simp;omega) (by omega) (by omega) (zL7 hs) (by omega) (by omega);rw [vsS];refine this.trans ?_;simp only [List.append_assoc,List.singleton_append,List.length_cons];rw [show k+1+cs.length=k+(cs.length+1) by omega]
theorem zcp {L:List Bool} (hL:L.length≤1000000000) (C:List UInt64) (p111:zA3) (H:zA3) (j:zA1→zA3→Option (zA3×Int×zA4×zA0)) :
 ∀ (cs W' pre Cp Cr:List UInt64) (s:StH) (i k f:Nat),C=Cp++(cs++Cr)→W'.length=cs.length→pre.length=i→Cp.length=k→i+cs.length=p111.Neg.Counts.length→cs.length<f→s.a≤L.length→k+cs.length≤100000→i+cs.length≤100000 →
 zC7 C p111 j f (i:Int) (rdS L s) ⟨H.Scale,H.Zero,H.Pos,⟨H.Neg.Offset,pre++W'⟩⟩ (k:Int)=j (rdS L (vsS L cs s).2) ⟨H.Scale,H.Zero,H.Pos,⟨H.Neg.Offset,pre++(vsS L cs s).1⟩⟩:=by
 intro cs
 induction cs with
 | nil=>
  intro W' pre Cp Cr s i k f hC hW hp hk hb hf hs hk2 hi2;obtain ⟨f,rfl⟩:∃ m,f=m+1:=⟨f-1,by simp at hf;omega⟩;obtain rfl:W'=[]:=List.length_eq_zero_iff.1 hW;rw [zC7,if_neg (by simp at hb;omega)];rfl
 | cons c cs ih=>
  intro W' pre Cp Cr s i k f hC hW hp hk hb hf hs hk2 hi2;obtain ⟨f,rfl⟩:∃ m,f=m+1:=⟨f-1,by simp at hf;omega⟩
  obtain ⟨w,W',rfl⟩:∃ w t,W'=w::t:=by cases W' with|nil=>simp at hW|cons w t=>exact ⟨w,t,rfl⟩
  simp only [List.length_cons] at hW hb hf hk2 hi2;have e1:W64 ((i:Int)+1)=((i+1:Nat):Int):=zDo (by omega);have e2:W64 ((k:Int)+1)=((k+1:Nat):Int):=zDo (by omega)
  have hc:idx C (k:Int)=some c:=by rw [hC,← hk];exact zGp Cp c (cs++Cr)
  have hw:∀ v,zGq (pre++w::W') (i:Int) v=(pre++[v])++W':=by intro v;unfold zGq;rw [Int.toNat_natCast,← hp,List.set_append_right _ _ (Nat.le_refl _),Nat.sub_self];simp
  have hx:idx (pre++w::W') (i:Int)=some w:=by rw [← hp];exact zGp pre w W'
  have hlen:k<C.length:=by rw [hC];simp;omega
  rw [zC7,if_pos (by omega)];simp only [zBm];rw [zQk hL hs,zAn,if_pos (by omega),hc,zAn,hx,zAn,hw,e1,e2,UInt64.add_comm];have:=ih W' (pre++[c+zAe (zPg (nmS L s).1)]) (Cp++[c]) Cr (nmS L s).2 (i+1) (k+1) f (by rw [hC];simp) (by omega) (by simp;omega) (by simp;omega) (by omega) (by omega) (zL7 hs) (by omega) (by omega);rw [vsS];refine this.trans ?_;simp only [List.append_assoc,List.singleton_append,List.length_cons]
  done
theorem zcm {L:List Bool} (hL:L.length≤1000000000) (p111:zA9×zA1) (H:zA3) (j:zA1→zA3→Int→Option (zA3×Int×zA4×zA0)) :
 ∀ (n:Nat) (W' pre:List UInt64) (s:StH) (i k f:Nat),W'.length=n→pre.length=i→i+n=p111.1.Counts.length→n<f→s.a≤L.length→k+n≤100000→i+n≤100000 →
 zC4 p111 j f (i:Int) (rdS L s) ⟨H.Scale,H.Zero,⟨H.Pos.Offset,pre++W'⟩,H.Neg⟩ (k:Int)=j (rdS L (rwS L n s).2) ⟨H.Scale,H.Zero,⟨H.Pos.Offset,pre++(rwS L n s).1⟩,H.Neg⟩ ((k+n:Nat):Int):=by
 intro n
 induction n with
 | zero=>
  intro W' pre s i k f hW hp hb hf hs hk2 hi2;obtain ⟨f,rfl⟩:∃ m,f=m+1:=⟨f-1,by omega⟩;obtain rfl:W'=[]:=List.length_eq_zero_iff.1 hW;rw [zC4,if_neg (by omega)];rfl
 | succ n ih=>
  intro W' pre s i k f hW hp hb hf hs hk2 hi2;obtain ⟨f,rfl⟩:∃ m,f=m+1:=⟨f-1,by omega⟩
  obtain ⟨w,W',rfl⟩:∃ w t,W'=w::t:=by cases W' with|nil=>simp at hW|cons w t=>exact ⟨w,t,rfl⟩
  simp only [List.length_cons] at hW;have e1:W64 ((i:Int)+1)=((i+1:Nat):Int):=zDo (by omega);have e2:W64 ((k:Int)+1)=((k+1:Nat):Int):=zDo (by omega)
  have hw:∀ v,zGq (pre++w::W') (i:Int) v=(pre++[v])++W':=by intro v;unfold zGq;rw [Int.toNat_natCast,← hp,List.set_append_right _ _ (Nat.le_refl _),Nat.sub_self];simp
  have hx:idx (pre++w::W') (i:Int)=some w:=by rw [← hp];exact zGp pre w W'
  rw [zC4,if_pos (by omega)];simp only [zBm];rw [zSb hL hs,zAn,if_neg (by omega),hx,zAn,hw,e1,e2];have:=ih W' (pre++[(nmS L s).1]) (nmS L s).2 (i+1) (k+1) f (by omega) (by simp;omega) (by omega) (by omega) (zL7 hs) (by omega) (by omega);rw [rwS];refine this.trans ?_;simp only [List.append_assoc,List.singleton_append];rw [show k+1+n=k+(n+1) by omega]
theorem zcn {L:List Bool} (hL:L.length≤1000000000) (p111:zA3) (H:zA3) (j:zA1→zA3→Option (zA3×Int×zA4×zA0)) :
 ∀ (n:Nat) (W' pre:List UInt64) (s:StH) (i k f:Nat),W'.length=n→pre.length=i→i+n=p111.Neg.Counts.length→n<f→s.a≤L.length→k+n≤100000→i+n≤100000 →
 zC5 p111 j f (i:Int) (rdS L s) ⟨H.Scale,H.Zero,H.Pos,⟨H.Neg.Offset,pre++W'⟩⟩ (k:Int)=j (rdS L (rwS L n s).2) ⟨H.Scale,H.Zero,H.Pos,⟨H.Neg.Offset,pre++(rwS L n s).1⟩⟩:=by
 intro n
 induction n with
 | zero=>
  intro W' pre s i k f hW hp hb hf hs hk2 hi2;obtain ⟨f,rfl⟩:∃ m,f=m+1:=⟨f-1,by omega⟩;obtain rfl:W'=[]:=List.length_eq_zero_iff.1 hW;rw [zC5,if_neg (by omega)];rfl
 | succ n ih=>
  intro W' pre s i k f hW hp hb hf hs hk2 hi2;obtain ⟨f,rfl⟩:∃ m,f=m+1:=⟨f-1,by omega⟩
  obtain ⟨w,W',rfl⟩:∃ w t,W'=w::t:=by cases W' with|nil=>simp at hW|cons w t=>exact ⟨w,t,rfl⟩
  simp only [List.length_cons] at hW;have e1:W64 ((i:Int)+1)=((i+1:Nat):Int):=zDo (by omega);have e2:W64 ((k:Int)+1)=((k+1:Nat):Int):=zDo (by omega)
  have hw:∀ v,zGq (pre++w::W') (i:Int) v=(pre++[v])++W':=by intro v;unfold zGq;rw [Int.toNat_natCast,← hp,List.set_append_right _ _ (Nat.le_refl _),Nat.sub_self];simp
  have hx:idx (pre++w::W') (i:Int)=some w:=by rw [← hp];exact zGp pre w W'
  rw [zC5,if_pos (by omega)];simp only [zBm];rw [zSb hL hs,zAn,if_neg (by omega),hx,zAn,hw,e1,e2];have:=ih W' (pre++[(nmS L s).1]) (nmS L s).2 (i+1) (k+1) f (by omega) (by simp;omega) (by omega) (by omega) (zL7 hs) (by omega) (by omega);rw [rwS];refine this.trans ?_;simp only [List.append_assoc,List.singleton_append]
  done
end Go.Proofs.YthjhejgjcdajdaaGreatDoor
set_option maxRecDepth 20000
set_option linter.unusedVariables false
set_option linter.unusedSimpArgs false
namespace Go.Proofs.YthjhejgjcdajdaaGreatDoor
open Go Go.RowKit Go.Wk
theorem zUp (L:List Bool) (n:Nat) (s:StH):s.a≤(tkS L n s).2.a:=by
 unfold tkS;repeat' split
 ·exact Nat.le_refl _
 ·exact Nat.le_add_right _ _
 ·exact Nat.le_refl _
theorem zRh (L:List Bool) (s:StH):s.a≤(nmS L s).2.a:=by
 unfold nmS;split
 ·exact Nat.le_refl _
 ·exact Nat.le_add_right _ _
theorem zZ (L:List Bool) (s:StH):s.a≤(sdS L s).2.a:=by
 have:=zUp L 8 s
 have h1:s.a≤(if (tkS L 8 s).2.e=0∧(tkS L 8 s).1>160 then (⟨(tkS L 8 s).2.a,4⟩:StH) else (tkS L 8 s).2).a:=by split<;>exact this
 unfold sdS;dsimp only;generalize (if (tkS L 8 s).2.e=0∧(tkS L 8 s).1>160 then (⟨(tkS L 8 s).2.a,4⟩:StH) else (tkS L 8 s).2)=q at *
 split
 ·exact h1
 ·exact Nat.le_trans h1 (zRh L q)
theorem zV2 (L:List Bool):∀ (k:Nat) (s:StH),s.a≤(rwS L k s).2.a
 | 0,s=>Nat.le_refl _
 | k+1,s=>Nat.le_trans (zRh L s) (zV2 L k _)
theorem zUi (L:List Bool):∀ (cs:List UInt64) (s:StH),s.a≤(vsS L cs s).2.a
 | [],s=>Nat.le_refl _
 | c::cs,s=>Nat.le_trans (zRh L s) (zUi L cs _)
structure zWs where
 H:zA3
 a:Nat
 E:Int
def zXw (b:zA3) (vs:List UInt64):zA3:=⟨b.Scale,vs.headD 0,⟨b.Pos.Offset,(vs.drop 1).take b.Pos.Counts.length⟩,⟨b.Neg.Offset,vs.drop (1+b.Pos.Counts.length)⟩⟩
def zQz (H:zA3) (s:StH) (bad:Bool):zWs:=if s.e≠0 then ⟨h00,0,(s.e:Int)⟩ else if hcE H≠0 then ⟨h00,0,hcE H⟩ else if bad=true then ⟨h00,0,3⟩ else ⟨H,s.a,0⟩
def zYi (L:List Bool) (s:StH):zA3×StH:=
 (⟨((tkS L 5 s).1:Int)-10,0,(sdS L (tkS L 5 s).2).1,(sdS L (sdS L (tkS L 5 s).2).2).1⟩,(sdS L (sdS L (tkS L 5 s).2).2).2)
def zd3 (n:Nat) (last:zA3) (L:List Bool) (b:zA3×StH):zWs:=
 zQz (zXw b.1 (rwS L (1+b.1.Pos.Counts.length+b.1.Neg.Counts.length) b.2).1) (rwS L (1+b.1.Pos.Counts.length+b.1.Neg.Counts.length) b.2).2 (decide (0<n∧zPf last (zXw b.1 (rwS L (1+b.1.Pos.Counts.length+b.1.Neg.Counts.length) b.2).1)))
def zaq (n:Nat) (last:zA3) (L:List Bool) (a:Nat):zWs:=
 if (tkS L 1 ⟨a,0⟩).1=1 then
  (if n=0 then ⟨h00,0,3⟩ else zQz (zXw last (vsS L (zKa last) (tkS L 1 ⟨a,0⟩).2).1) (vsS L (zKa last) (tkS L 1 ⟨a,0⟩).2).2 false)
 else zd3 n last L (zYi L (tkS L 1 ⟨a,0⟩).2)
def zbi (n:Nat) (last:zA3) (L:List Bool) (a:Nat) (g:zWs):zA3×Int×zA4×zA0:=
 if g.E=0 then (g.H,0,⟨((n+1:Nat):Int),g.H⟩,RdO L g.a) else (h00,g.E,⟨(n:Int),last⟩,RdO L a)
def zas (x0:zA4) (x1:zA0) (y49:zA1) (y37:zA3):Option (zA3×Int×zA4×zA0):=
 if y49.e≠0 then
  (some (({ Scale:=0,Zero:=(0:UInt64),Pos:=({ Offset:=0,Counts:=([]:List UInt64) }:zA9),Neg:=({ Offset:=0,Counts:=([]:List UInt64) }:zA9) }:zA3),y49.e,x0,x1))
 else
  ((zBt y49.r).bind fun p65=>
   (zBt x1).bind fun p67=>
   (zBx x1 (W64 (p65-p67))).bind fun p69=>
   (zD6 y37).bind fun p78=>
   some (y37,0,({ n:=W64 (x0.n+1),last:=p78 }:zA4),p69.2))
def zbk (x0:zA4) (x1:zA0) (y36:zA1) (y37:zA3):Option (zA3×Int×zA4×zA0):=
 if y36.e=0 then (zFi y37).bind fun p90=>zas x0 x1 ({ r:=y36.r,e:=p90 }:zA1) y37 else zas x0 x1 y36 y37
section
variable {n a:Nat} {last H:zA3} {L:List Bool} {s:StH}
theorem zQo (hL:L.length≤1000000000) (hn:n≤1000000000) (h1:a≤s.a) (h2:s.a≤L.length) (p:H.Pos.Counts.length≤1000000) (q:H.Neg.Counts.length≤1000000) (e:Int) :
 zas ⟨(n:Int),last⟩ (RdO L a) ⟨RdO L s.a,e⟩ H=some (zbi n last L a (if e≠0 then ⟨h00,0,e⟩ else ⟨H,s.a,0⟩)):=by
 unfold zas zbi zBt
 by_cases he:e≠0
 ·rw [if_pos he,if_pos he,if_neg he]
 ·have hW:W64 ((n:Int)+1)=((n+1:Nat):Int):=zDo (by omega)
  have sk:=zN2 (L:=L) (a:=a) (n:=s.a-a) (by omega) (by omega)
  have hd:W64 ((s.a:Int)-(a:Int))=((s.a-a:Nat):Int):=by rw [zAr (by omega) (by omega)];omega
  rw [if_neg he,if_neg he,if_pos rfl,zAn,zAn];dsimp only;rw [hd,sk,zAn,zMx H p q,zAn,hW,show a+(s.a-a)=s.a by omega]
theorem zat (hL:L.length≤1000000000) (hn:n≤1000000000) (h1:a≤s.a) (h2:s.a≤L.length) (p:H.Pos.Counts.length≤1000000) (q:H.Neg.Counts.length≤1000000) :
 zbk ⟨(n:Int),last⟩ (RdO L a) (rdS L s) H=some (zbi n last L a (zQz H s false)):=by
 unfold zbk zQz
 by_cases he:s.e≠0
 ·rw [if_neg (show ¬(s.e:Int)=0 by omega),zQo hL hn h1 h2 p q,if_pos (by omega),if_pos he]
 ·rw [if_pos (show (s.e:Int)=0 by omega),if_neg he,zJe H p q,zAn,zQo hL hn h1 h2 p q]
  by_cases hc:hcE H≠0
  ·rw [if_pos hc,if_pos hc]
  ·rw [if_neg hc,if_neg hc,if_neg (by decide)]
end
theorem zWv (L:List Bool) (h:zA3) {s:StH} (hs:s.a≤L.length) :
 zXw h (vsS L (zKa h) s).1=⟨h.Scale,h.Zero+zAe (zPg (nmS L s).1),⟨h.Pos.Offset,(vsS L h.Pos.Counts (nmS L s).2).1⟩,⟨h.Neg.Offset,(vsS L h.Neg.Counts (vsS L h.Pos.Counts (nmS L s).2).2).1⟩⟩ ∧
 (vsS L (zKa h) s).2=(vsS L h.Neg.Counts (vsS L h.Pos.Counts (nmS L s).2).2).2:=by
 have e:=zSp h.Pos.Counts (zL7 (s:=s) hs);unfold zKa zXw;rw [vsS,zUj];dsimp only;rw [List.headD_cons,List.drop_one,List.tail_cons,List.take_left' e.2,Nat.add_comm,List.drop_succ_cons,List.drop_left' e.2];exact ⟨rfl,rfl⟩
theorem zXb (L:List Bool) (b:zA3) {s:StH} (hs:s.a≤L.length) :
 zXw b (rwS L (1+b.Pos.Counts.length+b.Neg.Counts.length) s).1=⟨b.Scale,(nmS L s).1,⟨b.Pos.Offset,(rwS L b.Pos.Counts.length (nmS L s).2).1⟩,⟨b.Neg.Offset,(rwS L b.Neg.Counts.length (rwS L b.Pos.Counts.length (nmS L s).2).2).1⟩⟩ ∧
 (rwS L (1+b.Pos.Counts.length+b.Neg.Counts.length) s).2=(rwS L b.Neg.Counts.length (rwS L b.Pos.Counts.length (nmS L s).2).2).2:=by
 have e:=zT3 b.Pos.Counts.length (zL7 (s:=s) hs);unfold zXw;rw [show 1+b.Pos.Counts.length+b.Neg.Counts.length=(b.Pos.Counts.length+b.Neg.Counts.length)+1 by omega,rwS,zV3];dsimp only;rw [List.headD_cons,List.drop_one,List.tail_cons,List.take_left' e.2,Nat.add_comm 1,List.drop_succ_cons,List.drop_left' e.2];exact ⟨rfl,rfl⟩
theorem zan {n a:Nat} {last:zA3} {L:List Bool} (hL:L.length≤1000000000) (hn:n≤1000000000) (ha:a≤L.length)
 (b1:last.Pos.Counts.length≤1000) (b2:last.Neg.Counts.length≤1000) :
 zE2 ⟨(n:Int),last⟩ (RdO L a)=some (zbi n last L a (zaq n last L a)):=by
 have t1:=zQj (n:=1) (s:=⟨a,0⟩) hL ha (by omega);have m1:=zUp L 1 ⟨a,0⟩;have l1:=zSu (n:=1) (s:=⟨a,0⟩) ha;obtain ⟨m,hm⟩:=zM9 1001 (by omega);unfold zE2 zaq;rw [show zBu ({ r:=RdO L a,e:=0 }:zA1) 1=_ from t1,zAn];generalize tkS L 1 ⟨a,0⟩=t at *;simp only [zBm]
 by_cases h1:t.1=1
 ·rw [if_pos (show (t.1:Int)=1 by omega),if_pos h1]
  by_cases h0:n=0
  ·rw [if_pos (show (n:Int)=0 by omega),if_pos h0];rfl
  ·rw [if_neg (show ¬(n:Int)=0 by omega),if_neg h0,zMx last (by omega) (by omega),zAn,zMz last (by omega) (by omega),zAn,zQk hL l1,zAn]
   obtain ⟨v1,v2⟩:=zWv L last l1;rw [v1,v2];have n1:=zL7 (s:=t.2) l1;have p1:=zSp last.Pos.Counts n1;have q1:=zSp last.Neg.Counts p1.1;have mo:a≤(vsS L last.Neg.Counts (vsS L last.Pos.Counts (nmS L t.2).2).2).2.a:=Nat.le_trans m1 (Nat.le_trans (zRh L t.2) (Nat.le_trans (zUi L last.Pos.Counts _) (zUi L last.Neg.Counts _)));rw [if_pos (by rw [zJt];omega),show idx (zKa last) 0=some last.Zero from rfl,zAn]
   have g2:=fun j=>zco hL last (zKa last) ⟨last.Scale,zAe (zPg (nmS L t.2).1)+last.Zero,last.Pos,last.Neg⟩ j last.Pos.Counts last.Pos.Counts [] [last.Zero] last.Neg.Counts (nmS L t.2).2 0 1 fuel rfl rfl rfl rfl (by simp) (by rw [hm];omega) n1 (by omega) (by omega)
   refine (g2 _).trans ?_
   have g1:=fun j=>zcp hL (zKa last) ⟨last.Scale,zAe (zPg (nmS L t.2).1)+last.Zero,⟨last.Pos.Offset,[]++(vsS L last.Pos.Counts (nmS L t.2).2).1⟩,last.Neg⟩ ⟨last.Scale,zAe (zPg (nmS L t.2).1)+last.Zero,⟨last.Pos.Offset,[]++(vsS L last.Pos.Counts (nmS L t.2).2).1⟩,last.Neg⟩ j last.Neg.Counts last.Neg.Counts [] (last.Zero::last.Pos.Counts) [] (vsS L last.Pos.Counts (nmS L t.2).2).2 0 (1+last.Pos.Counts.length) fuel (by simp [zKa]) rfl rfl (by simp;omega) (by simp) (by rw [hm];omega) p1.1 (by omega) (by omega)
   refine (g1 _).trans ?_;rw [UInt64.add_comm];exact zat hL hn mo q1.1 (show (vsS L last.Pos.Counts (nmS L t.2).2).1.length≤1000000 by omega) (show (vsS L last.Neg.Counts _).1.length≤1000000 by omega)
 ·rw [if_neg (show ¬(t.1:Int)=1 by omega),if_neg h1]
  have t5:=zQj (n:=5) (s:=t.2) hL l1 (by omega);have m5:=zUp L 5 t.2;have l5:=zSu (n:=5) l1;have k5:=zYv L 5 t.2;unfold zd3 zYi;rw [show zBu (rdS L t.2) 5=_ from t5,zAn];generalize tkS L 5 t.2=c at *;have z1:=zUz L c.2;have e1:=zTj hL l5;have lp:=zZ0 l5;have mp:=zZ L c.2;rw [e1,zAn];generalize sdS L c.2=p at *;have z2:=zUz L p.2;have e2:=zTj hL lp;have lq:=zZ0 lp;have mq:=zZ L p.2;rw [e2,zAn];generalize sdS L p.2=q at *;have n1:=zL7 lq;rw [zSb hL lq,zAn,if_neg (by omega)];dsimp only;obtain ⟨v1,v2⟩:=zXb L ⟨(c.1:Int)-10,0,p.1,q.1⟩ lq;dsimp only at v1 v2;rw [v1,v2];have p1:=zT3 p.1.Counts.length n1;have q1:=zT3 q.1.Counts.length p1.1
  have hsc:W64 ((c.1:Int)+(-10))=(c.1:Int)-10:=by rw [zAr (by omega) (by omega)];omega
  have mo:a≤(rwS L q.1.Counts.length (rwS L p.1.Counts.length (nmS L q.2).2).2).2.a:=Nat.le_trans m1 (Nat.le_trans m5 (Nat.le_trans mp (Nat.le_trans mq (Nat.le_trans (zRh L q.2) (Nat.le_trans (zV2 L _ _) (zV2 L _ _))))))
  have g4:=fun j=>zcm hL (p.1,rdS L p.2) ⟨(c.1:Int)-10,(nmS L q.2).1,p.1,q.1⟩ j p.1.Counts.length p.1.Counts [] (nmS L q.2).2 0 1 fuel rfl rfl (by simp) (by rw [hm];omega) n1 (by omega) (by omega)
  rw [hsc];refine (g4 _).trans ?_
  have g3:=fun j=>zcn hL ⟨(c.1:Int)-10,(nmS L q.2).1,⟨p.1.Offset,[]++(rwS L p.1.Counts.length (nmS L q.2).2).1⟩,q.1⟩ ⟨(c.1:Int)-10,(nmS L q.2).1,⟨p.1.Offset,[]++(rwS L p.1.Counts.length (nmS L q.2).2).1⟩,q.1⟩ j q.1.Counts.length q.1.Counts [] (rwS L p.1.Counts.length (nmS L q.2).2).2 0 (1+p.1.Counts.length) fuel rfl rfl (by simp) (by rw [hm];omega) p1.1 (by omega) (by omega)
  refine (g3 _).trans ?_;rw [List.nil_append,List.nil_append];generalize hr:(rwS L q.1.Counts.length (rwS L p.1.Counts.length (nmS L q.2).2).2)=r at *;generalize hpp:(rwS L p.1.Counts.length (nmS L q.2).2).1=pp at *;generalize (nmS L q.2).1=z at *;generalize hH:(⟨(c.1:Int)-10,z,⟨p.1.Offset,pp⟩,⟨q.1.Offset,r.1⟩⟩:zA3)=H at *
  have hP:H.Pos.Counts.length≤1000000:=by rw [← hH];show pp.length≤_;omega
  have hN:H.Neg.Counts.length≤1000000:=by rw [← hH];show r.1.length≤_;omega
  have k1:=fun e:Int=>zQo (last:=last) (H:=H) hL hn mo q1.1 hP hN e
  unfold zas at k1;unfold zFo;simp only [zAn];generalize hb:decide (0<n∧zPf last H)=bad
  by_cases he:r.2.e≠0
  ·have f1:zQz H r.2 bad=⟨h00,0,(r.2.e:Int)⟩:=by unfold zQz;rw [if_pos he]
   have k:=k1 (r.2.e:Int)
   have hz:(r.2.e:Int)≠0:=by omega
   rw [if_pos (c:=(r.2.e:Int)≠0) (t:=(⟨h00,0,(r.2.e:Int)⟩:zWs)) hz] at k;rw [f1,if_neg (show ¬(r.2.e:Int)=0 by omega),if_neg (show ¬(r.2.e:Int)=0 by omega),if_neg (show ¬(false=true) by decide)];rw [if_neg (show ¬(r.2.e:Int)=0 by omega)];exact k
  ·rw [if_pos (show (r.2.e:Int)=0 by omega),zJe H hP hN,zAn]
   by_cases hc:hcE H≠0
   ·have f1:zQz H r.2 bad=⟨h00,0,hcE H⟩:=by unfold zQz;rw [if_neg he,if_pos hc]
    have k:=k1 (hcE H);rw [if_pos (t:=(⟨h00,0,hcE H⟩:zWs)) hc] at k;rw [f1,if_neg hc,if_neg (show ¬(false=true) by decide),if_neg hc];exact k
   ·have hc0:hcE H=0:=Classical.not_not.1 hc
    have good:bad=false→zbk ⟨(n:Int),last⟩ (RdO L a) ⟨RdO L r.2.a,hcE H⟩ H=some (zbi n last L a (zQz H r.2 bad)):=by
     intro hbad
     have f1:zQz H r.2 bad=⟨H,r.2.a,0⟩:=by unfold zQz;rw [if_neg he,if_neg hc,hbad,if_neg (by decide)]
     have k:=zQo (last:=last) (H:=H) hL hn mo q1.1 hP hN (hcE H);rw [if_neg hc] at k;unfold zbk;rw [f1,if_pos hc0,zJe H hP hN,zAn];exact k
    rw [if_pos hc0]
    by_cases h0:0<n
    ·rw [if_pos (show (n:Int)>0 by omega)]
     by_cases hal:zPf last H
     ·have hbad:bad=true:=by rw [← hb];exact decide_eq_true ⟨h0,hal⟩
      have f1:zQz H r.2 bad=⟨h00,0,3⟩:=by unfold zQz;rw [if_neg he,if_neg hc,hbad,if_pos rfl]
      have k:=k1 3;rw [if_pos (t:=(⟨h00,0,3⟩:zWs)) (by decide)] at k;rw [if_pos (decide_eq_true ((zXq H last).2 hal)),f1,if_neg (show ¬(3:Int)=0 by decide)];exact k
     ·have hbad:bad=false:=by rw [← hb];exact decide_eq_false (fun k=>hal k.2)
      have k:=good hbad;unfold zbk zas at k;rw [zJe H hP hN] at k;rw [if_neg (by rw [decide_eq_false (fun k=>hal ((zXq H last).1 k))];decide)];exact k
    ·have hbad:bad=false:=by rw [← hb];exact decide_eq_false (fun k=>h0 k.1)
     have k:=good hbad;unfold zbk zas at k;rw [zJe H hP hN] at k;rw [if_neg (show ¬(n:Int)>0 by omega),if_neg (show ¬(false=true) by decide)];exact k
end Go.Proofs.YthjhejgjcdajdaaGreatDoor
set_option maxRecDepth 20000
set_option linter.unusedVariables false
set_option linter.unusedSimpArgs false
namespace Go.Proofs.YthjhejgjcdajdaaGreatDoor
open Go Go.RowKit Go.Wk
section
variable {L:List Bool} {s:StH}
end
end Go.Proofs.YthjhejgjcdajdaaGreatDoor
set_option maxRecDepth 20000
set_option linter.unusedVariables false
set_option linter.unusedSimpArgs false
namespace Go.Proofs.YthjhejgjcdajdaaGreatDoor
open Go Go.RowKit Go.Wk
end Go.Proofs.YthjhejgjcdajdaaGreatDoor
set_option maxRecDepth 20000
set_option linter.unusedVariables false
set_option linter.unusedSimpArgs false
namespace Go.Proofs.YthjhejgjcdajdaaGreatDoor
open Go Go.RowKit Go.Wk
section shift
def shS (a:Nat) (s:StH):StH:=⟨a+s.a,s.e⟩
variable {L:List Bool} {a:Nat}
theorem zUo (ha:a≤L.length) (n:Nat) (s:StH):tkS L n (shS a s)=((tkS (L.drop a) n s).1,shS a (tkS (L.drop a) n s).2):=by
 unfold tkS shS;dsimp only
 by_cases he:s.e≠0
 ·rw [if_pos he,if_pos he]
 ·rw [if_neg he,if_neg he,List.length_drop,List.drop_drop]
  by_cases h:a+s.a+n≤L.length
  ·rw [if_pos h,if_pos (by omega),Nat.add_assoc]
  ·rw [if_neg h,if_neg (by omega)]
theorem zVl (s:StH):nmS L (shS a s)=((nmS (L.drop a) s).1,shS a (nmS (L.drop a) s).2):=by
 unfold nmS shS;dsimp only
 by_cases he:s.e≠0
 ·rw [if_pos he,if_pos he]
 ·rw [if_neg he,if_neg he,List.drop_drop,Nat.add_assoc]
theorem zYz (ha:a≤L.length) (s:StH):sdS L (shS a s)=((sdS (L.drop a) s).1,shS a (sdS (L.drop a) s).2):=by
 unfold sdS;dsimp only;rw [zUo ha];generalize tkS (L.drop a) 8 s=q;dsimp only
 have e:(if (shS a q.2).e=0∧q.1>160 then (⟨(shS a q.2).a,4⟩:StH) else shS a q.2)=shS a (if q.2.e=0∧q.1>160 then (⟨q.2.a,4⟩:StH) else q.2):=by
  show (if q.2.e=0∧q.1>160 then (⟨(shS a q.2).a,4⟩:StH) else shS a q.2)=_
  split<;>rfl
 rw [e];generalize (if q.2.e=0∧q.1>160 then (⟨q.2.a,4⟩:StH) else q.2)=s1;rw [zVl];show (if s1.e≠0∨q.1=0 then _ else _)=_
 split<;>rfl
theorem zZ3:∀ (k:Nat) (s:StH),rwS L k (shS a s)=((rwS (L.drop a) k s).1,shS a (rwS (L.drop a) k s).2)
 | 0,s=>rfl
 | k+1,s=>by rw [rwS,zVl,zZ3 k,rwS]
theorem zYu:∀ (cs:List UInt64) (s:StH),vsS L cs (shS a s)=((vsS (L.drop a) cs s).1,shS a (vsS (L.drop a) cs s).2)
 | [],s=>rfl
 | c::cs,s=>by rw [vsS,zVl,zYu cs,vsS]
def shG (a:Nat) (g:zWs):zWs:=if g.E=0 then ⟨g.H,a+g.a,0⟩ else g
theorem zW2 (H:zA3) (s:StH) (b:Bool):zQz H (shS a s) b=shG a (zQz H s b):=by
 unfold zQz;show (if s.e≠0 then _ else _)=_
 by_cases he:s.e≠0
 ·rw [if_pos he,if_pos he];unfold shG;rw [if_neg (by dsimp only;omega)];rfl
 ·rw [if_neg he,if_neg he]
  by_cases hc:hcE H≠0
  ·rw [if_pos hc,if_pos hc];unfold shG;rw [if_neg hc]
  ·rw [if_neg hc,if_neg hc];cases b<;>rfl
theorem zap (ha:a≤L.length) (n:Nat) (last:zA3):zaq n last L a=shG a (zaq n last (L.drop a) 0):=by
 have t:=zUo ha 1 ⟨0,0⟩;unfold zaq;rw [show (⟨a,0⟩:StH)=shS a ⟨0,0⟩ from rfl,t];dsimp only
 by_cases h1:(tkS (L.drop a) 1 ⟨0,0⟩).1=1
 ·rw [if_pos h1,if_pos h1]
  by_cases h0:n=0
  ·rw [if_pos h0,if_pos h0];rfl
  ·rw [if_neg h0,if_neg h0,zYu,zW2]
 ·rw [if_neg h1,if_neg h1]
  generalize tkS (L.drop a) 1 ⟨0,0⟩=t1;unfold zd3 zYi;have c5:=zUo ha 5 t1.2;rw [c5];generalize tkS (L.drop a) 5 t1.2=c;dsimp only;have e1:=zYz ha c.2;rw [e1];generalize sdS (L.drop a) c.2=p;dsimp only;have e2:=zYz ha p.2;rw [e2];generalize sdS (L.drop a) p.2=q;dsimp only;have r:=zZ3 (L:=L) (a:=a) (1+p.1.Counts.length+q.1.Counts.length) q.2;rw [r];generalize rwS (L.drop a) (1+p.1.Counts.length+q.1.Counts.length) q.2=z;exact zW2 _ _ _
end shift
section back
variable {L:List Bool}
theorem zJd {a:Nat} {x R:List Bool} (h:L.drop a=x++R):L.drop (a+x.length)=R:=by
 rw [← List.drop_drop,h,List.drop_left]
theorem zQg {a:Nat} {v:UInt64} {R:List Bool} (h:L.drop a=smB v.toNat++R):nmS L ⟨a,0⟩=(v,⟨a+(smB v.toNat).length,0⟩):=by
 unfold nmS;rw [if_neg (show ¬(0:Nat)≠0 by decide),h,zQl _ (by have:=v.toNat_lt;omega)];dsimp only;rw [UInt64.ofNat_toNat]
theorem zT4:∀ (l:List UInt64) (a:Nat) (R:List Bool),L.drop a=smS l++R→rwS L l.length ⟨a,0⟩=(l,⟨a+(smS l).length,0⟩)
 | [],a,R,h=>rfl
 | c::l,a,R,h=>by
  rw [zQd,List.append_assoc] at h;have:=zT4 l _ R (zJd h);rw [List.length_cons,rwS,zQg h];dsimp only;rw [this,zQd,List.length_append,Nat.add_assoc]
theorem zYp (a b:UInt64):b+zAe (zPg (zig (sI (a-b))))=a:=by
 rw [zO6 (zV0 _),zO7,UInt64.add_comm,UInt64.sub_add_cancel]
theorem zSq:∀ (l m:List UInt64) (a:Nat) (R:List Bool),l.length=m.length→L.drop a=dfS l m++R→vsS L m ⟨a,0⟩=(l,⟨a+(dfS l m).length,0⟩)
 | [],[],a,R,_,h=>rfl
 | x::l,y::m,a,R,hl,h=>by
  have e:dfS (x::l) (y::m)=smB (zig (sI (x-y))).toNat++dfS l m:=rfl;rw [e,List.append_assoc] at h;have:=zSq l m _ R (by simpa using hl) (zJd h);rw [vsS,zQg h];dsimp only;rw [this,zYp,e,List.length_append,Nat.add_assoc]
 | [],y::m,a,R,hl,h=>by simp at hl
 | x::l,[],a,R,hl,h=>by simp at hl
theorem zO8 {a n v:Nat} {R:List Bool} (hv:v<2^n) (h:L.drop a=zG9 v n++R) (hn:0<n):tkS L n ⟨a,0⟩=(v,⟨a+n,0⟩):=by
 have hl:=congrArg List.length h;rw [List.length_drop,List.length_append,zAw] at hl;unfold tkS;dsimp only;rw [if_neg (by decide),if_pos (by omega),h,List.take_left' (zAw _ _),zHm hv]
theorem zT0 {a:Nat} {s:zA9} {R:List Bool} (hl:s.Counts.length≤160) (ho:okI s.Offset) (hz:s.Counts=[]→s.Offset=0) (h:L.drop a=shB s++R) :
 sdS L ⟨a,0⟩=(⟨s.Offset,List.replicate s.Counts.length 0⟩,⟨a+(shB s).length,0⟩):=by
 have h':=h;unfold shB at h';rw [List.append_assoc] at h';unfold sdS;rw [zO8 (by omega) h' (by decide)];dsimp only;rw [if_neg (show ¬((0:Nat)=0∧s.Counts.length>160) by omega)];have hd:=zJd h';rw [zAw] at hd
 by_cases h0:s.Counts.length>0
 ·rw [if_pos h0] at hd
  rw [if_neg (show ¬((0:Nat)≠0∨s.Counts.length=0) by omega),zQg hd];dsimp only;rw [zO6 ho];unfold shB;rw [if_pos h0,List.length_append,zAw,Nat.add_assoc]
 ·have hc:s.Counts=[]:=List.length_eq_zero_iff.1 (by omega)
  rw [if_pos (Or.inr (by omega))];unfold shB;rw [if_neg h0,hz hc,hc,List.append_nil,zAw];rfl
end back
theorem zc4 {s:zA9} (h:sdE s=0):s.Counts=[]→s.Offset=0:=by
 intro hc;unfold sdE at h;rw [hc] at h;rw [if_neg (by simp),if_pos rfl] at h
 by_cases h3:s.Offset≠0
 ·rw [if_pos h3] at h;exact absurd h (by decide)
 ·exact Classical.not_not.1 h3
theorem hcE_z {h:zA3} (e:hcE h=0):(h.Pos.Counts=[]→h.Pos.Offset=0)∧(h.Neg.Counts=[]→h.Neg.Offset=0):=by
 unfold hcE at e
 by_cases hs:h.Scale < -10∨h.Scale>20
 ·rw [if_pos hs] at e;exact absurd e (by decide)
 rw [if_neg hs] at e
 by_cases c1:sdE h.Pos≠0
 ·rw [if_pos c1] at e;exact absurd e c1
 rw [if_neg c1] at e
 by_cases c2:sdE h.Neg≠0
 ·rw [if_pos c2] at e;exact absurd e c2
 exact ⟨zc4 (Classical.not_not.1 c1),zc4 (Classical.not_not.1 c2)⟩
theorem zTe {b h:zA3} (h1:b.Scale=h.Scale) (h2:b.Pos.Offset=h.Pos.Offset) (h3:b.Neg.Offset=h.Neg.Offset) (h4:b.Pos.Counts.length=h.Pos.Counts.length):zXw b (zKa h)=h:=by
 unfold zXw zKa;rw [h1,h2,h3,h4,List.headD_cons,List.drop_one,List.tail_cons,List.take_left,Nat.add_comm,List.drop_succ_cons,List.drop_left]
theorem zW {n:Nat} {last h:zA3} (e:hcE h=0) (R:List Bool):zaq n last (hB n last h++R) 0=⟨h,(hB n last h).length,0⟩:=by
 have ok:=zP4 e;have z:=hcE_z e
 have fin:∀ (s:StH) (b:Bool),s.e=0→b=false→zQz h s b=⟨h,s.a,0⟩:=by
  intro s b h1 h2;unfold zQz;rw [if_neg (fun k=>k h1),if_neg (fun k=>k e),h2,if_neg (by decide)]
 unfold zaq
 by_cases hd:0<n∧zPf last h
 ·have hB':hB n last h=true::dfS (zKa h) (zKa last):=by unfold hB;rw [if_pos hd]
  have hal:=hd.2;rw [hB'];have t:=zO8 (L:=true::dfS (zKa h) (zKa last)++R) (a:=0) (n:=1) (v:=1) (R:=dfS (zKa h) (zKa last)++R) (by decide) rfl (by decide);rw [t,if_pos rfl,if_neg (by omega)];dsimp only
  have hl:(zKa h).length=(zKa last).length:=by rw [zJt,zJt,hal.2.2.2.1,hal.2.2.2.2]
  have v:=zSq (L:=true::dfS (zKa h) (zKa last)++R) (zKa h) (zKa last) (0+1) R hl rfl;rw [v,zTe hal.1 hal.2.1 hal.2.2.1 hal.2.2.2.1,fin _ _ rfl rfl];dsimp only;rw [List.length_cons];congr 1;omega
 ·have hB':hB n last h=zQn h:=by unfold hB;rw [if_neg hd]
  rw [hB'];have:=ok.s0;have:=ok.s1;generalize hX:zQn h++R=X
  have hX':X=zG9 0 1++(zG9 (h.Scale+10).toNat 5++(shB h.Pos++(shB h.Neg++(smS (zKa h)++R)))):=by
   rw [← hX];unfold zQn;simp only [List.cons_append,List.append_assoc];rfl
  have d0:X.drop 0=zG9 0 1++(zG9 (h.Scale+10).toNat 5++(shB h.Pos++(shB h.Neg++(smS (zKa h)++R)))):=hX';have d1:=zJd d0;rw [zAw] at d1;have d2:=zJd d1;rw [zAw] at d2;have d3:=zJd d2;have d4:=zJd d3;have t:=zO8 (by decide) d0 (by decide);have t5:=zO8 (show (h.Scale+10).toNat<2^5 by omega) d1 (by decide);have p:=zT0 ok.p ok.op z.1 d2;have q:=zT0 ok.n ok.on z.2 d3;have r:=zT4 (zKa h) _ R d4;rw [zJt] at r;rw [t,if_neg (by decide)];unfold zd3 zYi;dsimp only;rw [t5];dsimp only;rw [p];dsimp only;rw [q];dsimp only;rw [List.length_replicate,List.length_replicate,r];dsimp only;rw [zTe (b:=⟨(((h.Scale+10).toNat:Nat):Int)-10,0,⟨h.Pos.Offset,List.replicate h.Pos.Counts.length 0⟩,⟨h.Neg.Offset,List.replicate h.Neg.Counts.length 0⟩⟩) (h:=h) (show (((h.Scale+10).toNat:Nat):Int)-10=h.Scale by omega) rfl rfl (List.length_replicate ..),fin _ _ rfl (decide_eq_false hd)]
  have el:0+1+5+(shB h.Pos).length+(shB h.Neg).length+(smS (zKa h)).length=(zQn h).length:=by
   unfold zQn;simp only [List.length_cons,List.length_append,zAw];omega
  show (⟨h,0+1+5+(shB h.Pos).length+(shB h.Neg).length+(smS (zKa h)).length,0⟩:zWs)=_;rw [el]
end Go.Proofs.YthjhejgjcdajdaaGreatDoor
