import Derived.Test.YthjhejgjcdajdaaGreatDoorVC2
import Derived.Test.YthjhejgjcdajdaaGreatDoorNC
import Derived.Sort.Walk0
set_option linter.unusedVariables false
set_option linter.unusedSimpArgs false
namespace Go.Wk
def zL4 (l : List Bool) : Nat:=l.foldl (fun a b=>2 * a + b.toNat) 0
def zGx (v : Nat) : Nat → List Bool
  | 0=>[]
  | n + 1=>zGx (v / 2) n ++ [v % 2 == 1]
theorem foldB (l : List Bool) : ∀ a : Nat,l.foldl (fun a b=>2 * a + b.toNat) a = a * 2 ^ l.length + zL4 l:=by
  induction l with
  | nil=>intro a;simp [zL4]
  | cons b t ih=>
    intro a;have h1:=ih (2 * a + b.toNat);have h2:=ih (2 * 0 + b.toNat);simp only [zL4,List.foldl_cons,List.length_cons] at *;rw [h1,h2,Nat.pow_succ,Nat.add_mul]
    have : 2 * a * 2 ^ t.length = a * (2 ^ t.length * 2):=by rw [Nat.mul_comm 2 a,Nat.mul_assoc,Nat.mul_comm 2]
    rw [this];simp only [Nat.mul_zero,Nat.zero_add];omega
theorem zNl (a b : List Bool) : zL4 (a ++ b) = zL4 a * 2 ^ b.length + zL4 b:=by
  unfold zL4;rw [List.foldl_append,foldB];rfl
theorem zPr (b : Bool) : zL4 [b] = b.toNat:=by simp [zL4]
theorem zVo (b : Bool) (l : List Bool) : zL4 (b :: l) = b.toNat * 2 ^ l.length + zL4 l:=by
  have:=zNl [b] l;rwa [zPr] at this
theorem zQ6 (l : List Bool) : zL4 l < 2 ^ l.length:=by
  induction l with
  | nil=>simp [zL4]
  | cons b t ih=>
    rw [zVo,List.length_cons,Nat.pow_succ]
    cases b<;>simp<;>omega
theorem zBo (n : Nat) : ∀ v,(zGx v n).length = n:=by
  induction n with
  | zero=>intro v;rfl
  | succ n ih=>intro v;simp [zGx,ih]
theorem zSb (v : Nat) : zGx v 0 = []:=rfl
theorem za0 (v : Nat) : (v % 2 == 1).toNat = v % 2:=by
  rcases Nat.mod_two_eq_zero_or_one v with h|h<;>simp [h]
theorem zTu (n : Nat) : ∀ v,zL4 (zGx v n) = v % 2 ^ n:=by
  induction n with
  | zero=>intro v;simp [zGx,zL4,Nat.mod_one]
  | succ n ih=>
    intro v;rw [zGx,zNl,ih,zPr,za0]
    have : 2 ^ (n + 1) = 2 * 2 ^ n:=by rw [Nat.pow_succ,Nat.mul_comm]
    rw [this,Nat.mod_mul];simp;omega
theorem zVg (l : List Bool) : ∀ k,zGx (k * 2 ^ l.length + zL4 l) l.length = l:=by
  generalize hn : l.length = n
  induction n generalizing l with
  | zero=>intro k;rw [List.eq_nil_of_length_eq_zero hn];rfl
  | succ n ih=>
    intro k
    have hne : l ≠ []:=by intro h;subst h;simp at hn
    obtain ⟨t,b,rfl⟩ : ∃ t b,l = t ++ [b]:=⟨l.dropLast,l.getLast hne,(List.dropLast_concat_getLast hne).symm⟩
    have hl : t.length = n:=by simpa using hn
    rw [zGx,zNl,zPr]
    have e2 : b.toNat < 2:=by cases b<;>simp
    have e : (k * 2 ^ (n + 1) + (zL4 t * 2 ^ [b].length + b.toNat)) = 2 * (k * 2 ^ n + zL4 t) + b.toNat:=by
      have : k * 2 ^ (n + 1) = 2 * (k * 2 ^ n):=by rw [Nat.pow_succ,← Nat.mul_assoc,Nat.mul_comm]
      rw [this];simp;omega
    rw [e]
    have e3 : (2 * (k * 2 ^ n + zL4 t) + b.toNat) / 2 = k * 2 ^ n + zL4 t:=by omega
    have e4 : (2 * (k * 2 ^ n + zL4 t) + b.toNat) % 2 = b.toNat:=by omega
    rw [e3,e4,ih t hl k]
    congr 1
    cases b<;>rfl
theorem zX9 (l : List Bool) : zGx (zL4 l) l.length = l:=by
  have:=zVg l 0;rwa [Nat.zero_mul,Nat.zero_add] at this
theorem zRh (v : Nat) (m n : Nat) : zGx v (m + n) = zGx (v / 2 ^ n) m ++ zGx v n:=by
  induction n generalizing v with
  | zero=>simp [zGx]
  | succ n ih=>
    rw [← Nat.add_assoc,zGx,ih,zGx,List.append_assoc]
    congr 2
    rw [Nat.div_div_eq_div_mul,Nat.pow_succ,Nat.mul_comm 2]
theorem zRf (v n : Nat) : zGx (v % 2 ^ n) n = zGx v n:=by
  have h:=zX9 (zGx v n);rw [zBo,zTu] at h;exact h
def zIq (l : List Bool) : UInt8:=UInt8.ofNat (zL4 l * 2 ^ (8 - l.length))
theorem zNd {l : List Bool} (h : l.length ≤ 8) : (zIq l).toNat = zL4 l * 2 ^ (8 - l.length):=by
  unfold zIq;rw [UInt8.toNat_ofNat']
  apply Nat.mod_eq_of_lt
  have h1:=zQ6 l
  have h2 : 2 ^ l.length * 2 ^ (8 - l.length) = 2 ^ 8:=by rw [← Nat.pow_add];congr 1;omega
  have h3 : 0 < 2 ^ (8 - l.length):=Nat.two_pow_pos _
  calc zL4 l * 2 ^ (8 - l.length) < 2 ^ l.length * 2 ^ (8 - l.length):=Nat.mul_lt_mul_of_pos_right h1 h3
    _ = 2 ^ 8:=h2
def zFp (l : List Bool) : List UInt8:=if h : l = [] then [] else zIq (l.take 8) :: zFp (l.drop 8)
termination_by l.length
decreasing_by
  have : 0 < l.length:=by cases l with
    | nil=>exact (h rfl).elim
    | cons=>simp
  simp;omega
theorem zN0 : zFp [] = []:=by rw [zFp];simp
theorem zOf {l : List Bool} (h : l ≠ []) : zFp l = zIq (l.take 8) :: zFp (l.drop 8):=by rw [zFp,dif_neg h]
theorem zQ4 : ∀ (k : Nat) (a b : List Bool),a.length = 8 * k → zFp (a ++ b) = zFp a ++ zFp b:=by
  intro k
  induction k with
  | zero=>intro a b h;rw [List.eq_nil_of_length_eq_zero (by omega : a.length = 0)];simp [zN0]
  | succ k ih=>
    intro a b h
    have h1 : a ≠ []:=by intro hh;subst hh;simp at h
    have h2 : a ++ b ≠ []:=by simp [h1]
    rw [zOf h1,zOf h2,List.take_append_of_le_length (by omega),List.drop_append_of_le_length (by omega),ih (a.drop 8) b (by simp;omega)]
    rfl
theorem zM9 {l : List Bool} (h : l ≠ []) (h8 : l.length ≤ 8) : zFp l = [zIq l]:=by
  rw [zOf h,List.take_of_length_le h8,List.drop_of_length_le h8,zN0]
theorem zGu (l : List Bool) : (zFp l).length = (l.length + 7) / 8:=by
  generalize hn : l.length = n
  induction n using Nat.strongRecOn generalizing l with
  | ind n ih=>
    by_cases h : l = []
    · subst h;rw [zN0];simp at hn;subst hn;rfl
    · have hp : 0 < l.length:=List.length_pos_iff.2 h
      rw [zOf h,List.length_cons,ih (n - 8) (by omega) (l.drop 8) (by simp;omega)]
      omega
theorem cut8 (l : List Bool) : ∃ (k : Nat) (a b : List Bool),l = a ++ b ∧ a.length = 8 * k ∧ b.length < 8 ∧ b.length = l.length % 8 ∧ k = l.length / 8:=
  ⟨l.length / 8,l.take (8 * (l.length / 8)),l.drop (8 * (l.length / 8)),(List.take_append_drop _ _).symm,by simp;omega,by simp;omega,by simp;omega,rfl⟩
abbrev biZ (b : Bool) : Int:=if b = true then 1 else 0
theorem za1 (b : Bool) : biZ b = (b.toNat : Int):=by cases b<;>rfl
end Go.Wk
set_option linter.unusedVariables false
set_option linter.unusedSimpArgs false
namespace Go.Wk
theorem zLl (z : Int) : (zAe z).toNat = (z % 18446744073709551616).toNat:=by
  unfold zAe;rw [UInt64.toNat_ofNat'];apply Nat.mod_eq_of_lt;omega
theorem zDu {k : Nat} (h : k < 18446744073709551616) : (zAe (k : Int)).toNat = k:=by rw [zLl];omega
theorem zTj (z : Int) : (toU8 z).toNat = (z % 256).toNat:=by
  unfold toU8;rw [UInt8.toNat_ofNat'];apply Nat.mod_eq_of_lt;omega
theorem zZf : (2 : Nat) ^ 64 = 18446744073709551616:=by decide
theorem zb3 {m : Nat} (h : 64 ≤ m) : 18446744073709551616 ≤ 2 ^ m:=by rw [← zZf];exact Nat.pow_le_pow_right (by omega) h
theorem zS5 (a : UInt64) (m : Nat) : (shl64 a m).toNat = a.toNat * 2 ^ m % 18446744073709551616:=by
  unfold shl64
  split
  · rename_i h
    rw [UInt64.toNat_shiftLeft,Nat.shiftLeft_eq,zZf]
    have : (UInt64.ofNat m).toNat % 64 = m:=by rw [UInt64.toNat_ofNat'];omega
    rw [this]
  · rename_i h
    obtain ⟨q,rfl⟩ : ∃ q,m = 64 + q:=⟨m - 64,by omega⟩;rw [Nat.pow_add,zZf,Nat.mul_left_comm,Nat.mul_mod_right];rfl
theorem zS4 {a : UInt64} {m : Nat} (h : a.toNat * 2 ^ m < 18446744073709551616) : (shl64 a m).toNat = a.toNat * 2 ^ m:=by rw [zS5,Nat.mod_eq_of_lt h]
theorem zLo (a : UInt64) (m : Nat) : (shr64 a m).toNat = a.toNat / 2 ^ m:=by
  unfold shr64
  split
  · rename_i h
    rw [UInt64.toNat_shiftRight,Nat.shiftRight_eq_div_pow]
    have : (UInt64.ofNat m).toNat % 64 = m:=by rw [UInt64.toNat_ofNat'];omega
    rw [this]
  · rename_i h
    have:=a.toNat_lt;have h2:=zb3 (Nat.le_of_not_lt h);rw [Nat.div_eq_of_lt (by omega)];rfl
theorem zb9 {k : Nat} (h : k ≤ 64) (a : UInt64) : (a &&& (shl64 1 k - 1)).toNat = a.toNat % 2 ^ k:=by
  have ha:=a.toNat_lt
  rcases Nat.lt_or_ge k 64 with hk|hk
  · have h1 : (2 : Nat) ^ k < 2 ^ 64:=Nat.pow_lt_pow_right (by omega) hk
    have h2:=Nat.two_pow_pos k
    have e1 : (shl64 1 k).toNat = 2 ^ k:=by rw [zS4];simp;simp;omega
    have e2 : (shl64 1 k - 1).toNat = 2 ^ k - 1:=by
      rw [UInt64.toNat_sub_of_le _ _ (by rw [UInt64.le_iff_toNat_le,e1];exact h2),e1];rfl
    rw [UInt64.toNat_and,e2,Nat.and_two_pow_sub_one_eq_mod]
  · obtain rfl : k = 64:=by omega
    have : (shl64 1 64 - 1 : UInt64) = 18446744073709551615:=by decide
    rw [this,UInt64.toNat_and]
    have : (18446744073709551615 : UInt64).toNat = 2 ^ 64 - 1:=by decide
    rw [this,Nat.and_two_pow_sub_one_eq_mod]
theorem zX5 (a : UInt8) (m : Nat) : (shl8 a m).toNat = a.toNat * 2 ^ m % 256:=by
  unfold shl8
  split
  · rename_i h
    rw [UInt8.toNat_shiftLeft,Nat.shiftLeft_eq]
    have : (UInt8.ofNat m).toNat % 8 = m:=by rw [UInt8.toNat_ofNat'];omega
    rw [this]
  · rename_i h
    obtain ⟨q,rfl⟩ : ∃ q,m = 8 + q:=⟨m - 8,by omega⟩;rw [Nat.pow_add,Nat.mul_left_comm,show (2 : Nat) ^ 8 = 256 by decide,Nat.mul_mod_right];rfl
theorem zb6 {a b i : Nat} (h : b < 2 ^ i) : (a * 2 ^ i) ||| b = a * 2 ^ i + b:=by
  rw [← Nat.shiftLeft_eq,← Nat.shiftLeft_add_eq_or_of_lt h]
theorem zS6 {α : Type} (l : List α) (x y : α) : zK9 (l ++ [x]) (l.length : Int) y = l ++ [y]:=by
  unfold zK9;simp
theorem zRi {a b : Nat} (h : b ≠ 0) (ha : a ≤ 9223372036854775807) : quoZ (a : Int) (b : Int) = some ((a / b : Nat) : Int):=by
  unfold quoZ;rw [if_neg (by omega),← Int.ofNat_tdiv];have h1 : a / b ≤ a:=Nat.div_le_self a b;generalize a / b = q at h1 ⊢;rw [zBc (by omega) (by omega)]
theorem zXc {a b : Nat} (h : b ≠ 0) : remZ (a : Int) (b : Int) = some ((a % b : Nat) : Int):=by
  unfold remZ;rw [if_neg (by omega),← Int.ofNat_tmod]
end Go.Wk
set_option maxRecDepth 20000
set_option linter.unusedVariables false
set_option linter.unusedSimpArgs false
namespace Go.Proofs.YthjhejgjcdajdaaGreatDoor
open Go Go.RowKit Go.Wk
abbrev WrO (L : List Bool) : zA0:=⟨zFp L,(L.length : Int)⟩
theorem zQ3 {A B : List Bool} {q : Nat} (hA : A.length = 8 * q) : zFp (A ++ B) = zFp A ++ zFp B:=zQ4 q A B hA
theorem zWe {B K : List Bool} (h : B.length + K.length ≤ 8) : zIq (B ++ K) = zIq B ||| UInt8.ofNat (zL4 K * 2 ^ (8 - B.length - K.length)):=by
  apply UInt8.toNat_inj.1
  have hk:=zQ6 K;have hp:=Nat.two_pow_pos (8 - B.length - K.length)
  have e1 : 2 ^ K.length * 2 ^ (8 - B.length - K.length) = 2 ^ (8 - B.length):=by rw [← Nat.pow_add];congr 1;omega
  have h1 : zL4 K * 2 ^ (8 - B.length - K.length) < 2 ^ (8 - B.length):=by rw [← e1];exact Nat.mul_lt_mul_of_pos_right hk hp
  have h2 : 2 ^ (8 - B.length) ≤ 2 ^ 8:=Nat.pow_le_pow_right (by omega) (by omega)
  have h3 : (UInt8.ofNat (zL4 K * 2 ^ (8 - B.length - K.length))).toNat = zL4 K * 2 ^ (8 - B.length - K.length):=by
    rw [UInt8.toNat_ofNat'];exact Nat.mod_eq_of_lt (by omega)
  rw [UInt8.toNat_or,h3,zNd (by simp;omega),zNd (by omega),zb6 h1,zNl,List.length_append,Nat.add_mul,Nat.mul_assoc,show 8 - (B.length + K.length) = 8 - B.length - K.length by omega,e1]
theorem zZe (v : UInt64) {A B : List Bool} {q m k : Nat} (hA : A.length = 8 * q) (hm : m ≤ 64) (hk : k ≤ m) (hk0 : 0 < k) (hB : B.length + k ≤ 8) (hq : q ≤ 1000000000) :
    zK9 (zFp A ++ [zIq B]) (W64 (((zFp A ++ [zIq B]).length : Int) - 1)) (zIq B ||| toU8 ((shl64 ((shr64 v ((zAe (W64 ((m : Int) - (k : Int)))).toNat)) &&& ((shl64 (1 : UInt64) ((zAe (k : Int)).toNat)) - (1 : UInt64))) ((zAe (W64 (((8 - B.length : Nat) : Int) - (k : Int)))).toNat)).toNat : Int)) = zFp (A ++ (B ++ zGx (v.toNat / 2 ^ (m - k)) k)):=by
  have hl : (zFp A).length = q:=by rw [zGu,hA];omega
  have e1 : W64 (((zFp A ++ [zIq B]).length : Int) - 1) = ((zFp A).length : Int):=by rw [List.length_append,hl];simp only [List.length_cons,List.length_nil];rw [zBc (by omega) (by omega)];omega
  rw [e1,zS6]
  have e2 : (zAe (W64 ((m : Int) - (k : Int)))).toNat = m - k:=by rw [zBc (by omega) (by omega),show (m : Int) - (k : Int) = ((m - k : Nat) : Int) by omega,zDu (by omega)]
  have e3 : (zAe (k : Int)).toNat = k:=zDu (by omega)
  have e4 : (zAe (W64 (((8 - B.length : Nat) : Int) - (k : Int)))).toNat = 8 - B.length - k:=by rw [zBc (by omega) (by omega),show ((8 - B.length : Nat) : Int) - (k : Int) = ((8 - B.length - k : Nat) : Int) by omega,zDu (by omega)]
  rw [e2,e3,e4];generalize hK : zGx (v.toNat / 2 ^ (m - k)) k = K
  have hKl : K.length = k:=by rw [← hK,zBo]
  have e5 : ((shr64 v (m - k)) &&& ((shl64 (1 : UInt64) k) - (1 : UInt64))).toNat = zL4 K:=by rw [zb9 (by omega),zLo,← hK,zTu]
  have hK1:=zQ6 K;rw [hKl] at hK1
  have h8 : zL4 K * 2 ^ (8 - B.length - k) < 256:=by
    have e1 : 2 ^ k * 2 ^ (8 - B.length - k) = 2 ^ (8 - B.length):=by rw [← Nat.pow_add];congr 1;omega
    have h1 : zL4 K * 2 ^ (8 - B.length - k) < 2 ^ (8 - B.length):=by rw [← e1];exact Nat.mul_lt_mul_of_pos_right hK1 (Nat.two_pow_pos _)
    have h2 : 2 ^ (8 - B.length) ≤ 2 ^ 8:=Nat.pow_le_pow_right (by omega) (by omega)
    omega
  have e6 : (shl64 ((shr64 v (m - k)) &&& ((shl64 (1 : UInt64) k) - (1 : UInt64))) (8 - B.length - k)).toNat = zL4 K * 2 ^ (8 - B.length - k):=by
    rw [zS4 (by rw [e5];omega),e5]
  rw [e6]
  have hne : B ++ K ≠ []:=by intro h;have:=congrArg List.length h;simp [hKl] at this;omega
  rw [zQ3 hA,zM9 hne (by simp [hKl];omega),zWe (by rw [hKl];exact hB),hKl]
  congr 3
  apply UInt8.toNat_inj.1
  rw [zTj,UInt8.toNat_ofNat',show (256 : Int) = ((256 : Nat) : Int) by rfl,← Int.natCast_emod,Int.toNat_natCast]
theorem zZ9 {M : List Bool} (h : M.length ≤ 8000000000) : zD6 (WrO M) = some ((8 * ((M.length + 7) / 8) - M.length : Nat) : Int):=by
  unfold zD6;dsimp only
  have e : W64 (8 * ((zFp M).length : Int)) = 8 * ((zFp M).length : Int):=by rw [zGu,zBc (by omega) (by omega)]
  rw [e,zGu,zBc (by omega) (by omega)]
  congr 1;omega
theorem zXh (v : UInt64) (j2 : zA0 → Option (Bool × zA0)) : ∀ (m : Nat) (M : List Bool) (n : Nat),m ≤ 64 → M.length + m ≤ 8000000000 → m < n →
    zCr v j2 n (m : Int) (WrO M) = j2 (WrO (M ++ zGx v.toNat m)):=by
  intro m
  induction m using Nat.strongRecOn with
  | ind m ih=>
    intro M n hm hM hn;obtain ⟨n,rfl⟩ : ∃ k,n = k + 1:=⟨n - 1,by omega⟩;rw [zCr]
    by_cases h0 : m = 0
    · subst h0;rw [if_neg (by omega),zSb,List.append_nil]
    rw [if_pos (by omega),zZ9 (by omega),zAn,zCc];obtain ⟨q,A,B,hAB,hA,hB,hBl,hq⟩:=cut8 M
    have hl : M.length = 8 * q + B.length:=by rw [hAB,List.length_append,hA]
    generalize hy : ({ b:=zFp A ++ [zIq B],n:=(M.length : Int) } : zA0) = y
    have key : (zD6 y).bind (fun p18 => jn (fun (y21 : UInt64) =>
            ((idx y.b (W64 ((y.b.length : Int) - 1))).bind fun z26=>
              (idx y.b (W64 ((y.b.length : Int) - 1))).bind fun z27=>
              zCr v j2 n (W64 ((m : Int) - (min (m : Int) p18))) ({ b:=(zK9 y.b (W64 ((y.b.length : Int) - 1)) (z26 ||| (toU8 ((shl64 y21 ((zAe (W64 (p18 - (min (m : Int) p18)))).toNat)).toNat : Int)))),n:=W64 (y.n + (min (m : Int) p18)) } : zA0))) fun j4=>
          if min (m : Int) p18 < 64 then
          (j4 ((shr64 v ((zAe (W64 ((m : Int) - (min (m : Int) p18)))).toNat)) &&& ((shl64 (1 : UInt64) ((zAe (min (m : Int) p18)).toNat)) - (1 : UInt64))))
          else
          (j4 (shr64 v ((zAe (W64 ((m : Int) - (min (m : Int) p18)))).toNat)))) = j2 (WrO (M ++ zGx v.toNat m)):=by
      have hyb : y.b = zFp A ++ [zIq B]:=by rw [← hy]
      have hyn : y.n = (M.length : Int):=by rw [← hy]
      have hlen : (zFp A).length = q:=by rw [zGu,hA];omega
      have er : zD6 y = some ((8 - B.length : Nat) : Int):=by
        unfold zD6;rw [hyb,hyn,List.length_append,hlen];simp only [List.length_cons,List.length_nil];have e : W64 (8 * ((q + (0 + 1) : Nat) : Int)) = 8 * ((q + (0 + 1) : Nat) : Int):=zBc (by omega) (by omega);rw [e,zBc (by omega) (by omega)]
        congr 1;omega
      rw [er,zAn,zCc,hyb,hyn];generalize hk : min m (8 - B.length) = k
      have ek : min (m : Int) ((8 - B.length : Nat) : Int) = (k : Int):=by omega
      rw [ek,if_pos (by omega)];dsimp only
      have ei : idx (zFp A ++ [zIq B]) (W64 (((zFp A ++ [zIq B]).length : Int) - 1)) = some (zIq B):=by
        have e1 : W64 (((zFp A ++ [zIq B]).length : Int) - 1) = ((zFp A).length : Int):=by rw [List.length_append,hlen];simp only [List.length_cons,List.length_nil];rw [zBc (by omega) (by omega)];omega
        rw [e1];exact zKt _ _ _
      rw [ei,zAn,zAn,zZe v hA hm (by omega) (by omega) (by omega) (by omega)]
      have e7 : W64 ((m : Int) - (k : Int)) = ((m - k : Nat) : Int):=by rw [zBc (by omega) (by omega)];omega
      have e8 : W64 ((M.length : Int) + (k : Int)) = ((M ++ zGx (v.toNat / 2 ^ (m - k)) k).length : Int):=by rw [zBc (by omega) (by omega),List.length_append,zBo];omega
      have e9 : A ++ (B ++ zGx (v.toNat / 2 ^ (m - k)) k) = M ++ zGx (v.toNat / 2 ^ (m - k)) k:=by rw [hAB,List.append_assoc]
      rw [e7,e8,e9];have:=ih (m - k) (by omega) (M ++ zGx (v.toNat / 2 ^ (m - k)) k) n (by omega) (by rw [List.length_append,zBo];omega) (by omega);rw [this,List.append_assoc,← zRh,show k + (m - k) = m by omega]
    by_cases hB0 : B.length = 0
    · rw [if_pos (by omega)]
      obtain rfl : B = []:=List.eq_nil_of_length_eq_zero hB0
      have hMA : M = A:=by rw [hAB,List.append_nil]
      have hb : zIq [] = 0:=by decide
      rw [zBp (by rw [zGu];simp;omega),zAn];rw [hb,← hMA] at hy;subst hy;exact key
    · rw [if_neg (by omega)]
      have hne : B ≠ []:=by intro h;subst h;exact hB0 rfl
      have : WrO M = y:=by rw [← hy];unfold WrO;rw [hAB,zQ3 hA,zM9 hne (by omega)]
      rw [this];exact key
theorem zJc {M : List Bool} {v : UInt64} {n : Nat} (hM : M.length + n ≤ 8000000000) (hn : n ≤ 64) (hv : v.toNat < 2 ^ n) :
    zAh (WrO M) v (n : Int) = some (true,WrO (M ++ zGx v.toNat n)):=by
  unfold zAh;simp only [zCc];rw [if_neg (by omega)];obtain ⟨f,hf⟩:=zLk 65 (by omega);have hl:=zXh v (fun y8=>some (true,y8)) n M fuel hn hM (by rw [hf];omega)
  by_cases h64 : n < 64
  · have e1 : (zAe (n : Int)).toNat = n:=zDu (by omega)
    rw [if_pos (by omega),e1,zLo,Nat.div_eq_of_lt hv,decide_eq_false (by simp)];simp only [Bool.false_eq_true,if_false];exact hl
  · rw [if_neg (by omega)]
    simp only [Bool.false_eq_true,if_false];exact hl
end Go.Proofs.YthjhejgjcdajdaaGreatDoor
set_option maxRecDepth 20000
set_option linter.unusedVariables false
set_option linter.unusedSimpArgs false
namespace Go.Proofs.YthjhejgjcdajdaaGreatDoor
open Go Go.RowKit Go.Wk
end Go.Proofs.YthjhejgjcdajdaaGreatDoor
set_option maxRecDepth 20000
set_option linter.unusedVariables false
set_option linter.unusedSimpArgs false
namespace Go.Proofs.YthjhejgjcdajdaaGreatDoor
open Go Go.RowKit Go.Wk
abbrev zs (l : List Bool) : List Int:=l.map biZ
theorem zI7 (a b : List Bool) : zs (a ++ b) = zs a ++ zs b:=List.map_append
theorem zDm (a : List Bool) : (zs a).length = a.length:=List.length_map ..
theorem rem2 (v : UInt64) : rem64 v 2 = some (UInt64.ofNat (v.toNat % 2)):=by
  unfold rem64;rw [if_neg (by decide)];congr 1
  apply UInt64.toNat_inj.1
  rw [UInt64.toNat_mod,UInt64.toNat_ofNat',show (2 : UInt64).toNat = 2 by rfl];omega
theorem quo2 (v : UInt64) : quo64 v 2 = some (UInt64.ofNat (v.toNat / 2)):=by
  unfold quo64;rw [if_neg (by decide)];congr 1
  apply UInt64.toNat_inj.1
  have:=v.toNat_lt;rw [UInt64.toNat_div,UInt64.toNat_ofNat',show (2 : UInt64).toNat = 2 by rfl];omega
theorem zX8 (n : Nat) (hn : n ≤ 64) (j1 : UInt64 → List Int → Option (List Int × Bool)) : ∀ (r i : Nat) (v : UInt64) (acc : List Bool) (f : Nat),i + r = n → acc.length ≤ i → r < f →
    zCh (n : Int) j1 f v (zs acc) (i : Int) = j1 (UInt64.ofNat (v.toNat / 2 ^ r)) (zs (zGx v.toNat r ++ acc)):=by
  intro r
  induction r with
  | zero=>
    intro i v acc f h1 h2 h3;obtain ⟨f,rfl⟩ : ∃ k,f = k + 1:=⟨f - 1,by omega⟩;rw [zCh,if_neg (by omega),zSb];simp
  | succ r ih=>
    intro i v acc f h1 h2 h3;obtain ⟨f,rfl⟩ : ∃ k,f = k + 1:=⟨f - 1,by omega⟩;have hv:=v.toNat_lt;rw [zCh,if_pos (by omega),rem2,zAn]
    have hb : W64 (((UInt64.ofNat (v.toNat % 2)).toNat : Nat) : Int) = biZ (v.toNat % 2 == 1):=by
      rw [UInt64.toNat_ofNat',Nat.mod_eq_of_lt (by omega),zBc (by omega) (by omega)]
      rcases Nat.mod_two_eq_zero_or_one v.toNat with h|h<;>rw [h]<;>rfl
    rw [hb,show ([biZ (v.toNat % 2 == 1)] : List Int) = zs [v.toNat % 2 == 1] by rfl,zBp (by simp;omega),zAn,quo2,zAn,← zI7,zDj (by omega)]
    have hq : (UInt64.ofNat (v.toNat / 2)).toNat = v.toNat / 2:=by rw [UInt64.toNat_ofNat'];exact Nat.mod_eq_of_lt (by omega)
    rw [ih (i + 1) _ _ f (by omega) (by simp;omega) (by omega),hq,zGx,Nat.div_div_eq_div_mul,← Nat.pow_succ',List.append_assoc]
theorem zPz {v : UInt64} {n : Nat} (hn : n ≤ 64) : zAy v (n : Int) = some (zs (zGx v.toNat n),decide (v.toNat < 2 ^ n)):=by
  unfold zAy;rw [if_neg (by omega),zCc];obtain ⟨f,hf⟩:=zLk 65 (by omega);have:=zX8 n hn (fun y6 y7=>some (y7,decide (((y6).toNat : Int) = 0))) n 0 v [] fuel (by omega) (by simp) (by rw [hf];omega);rw [show ([] : List Int) = zs [] by rfl];refine this.trans ?_;rw [List.append_nil]
  congr 2
  have hv:=v.toNat_lt;have hp:=Nat.two_pow_pos n;have h1 : v.toNat / 2 ^ n ≤ v.toNat:=Nat.div_le_self _ _;rw [UInt64.toNat_ofNat',Nat.mod_eq_of_lt (by omega)]
  by_cases h : v.toNat < 2 ^ n
  · rw [decide_eq_true h,Nat.div_eq_of_lt h];rfl
  · have:=Nat.div_pos (Nat.le_of_not_lt h) hp
    rw [decide_eq_false h,decide_eq_false (by omega)]
theorem zY (l : List Bool) (i : Nat) (j2 : Int → Option (List UInt8)) (hl : l.length ≤ 1073741824) (hi : i < l.length) : ∀ (r k : Nat) (B : List Bool) (f : Nat),k + r = 8 → r < f → B.length = min k (l.length - i) → B = (l.drop i).take k →
    zC8 (zs l) (i : Int) j2 f ((zL4 B * 2 ^ (k - B.length) : Nat) : Int) (k : Int) = j2 (((zIq ((l.drop i).take 8)).toNat : Nat) : Int):=by
  intro r
  induction r with
  | zero=>
    intro k B f hk hf hB hB2;obtain ⟨f,rfl⟩ : ∃ k,f = k + 1:=⟨f - 1,by omega⟩;rw [zC8,if_neg (by omega),zNd (by simp;omega)]
    obtain rfl : k = 8:=by omega
    rw [← hB2]
  | succ r ih=>
    intro k B f hk hf hB hB2;obtain ⟨f,rfl⟩ : ∃ k,f = k + 1:=⟨f - 1,by omega⟩
    have hn : zL4 B * 2 ^ (k - B.length) < 2 ^ 8:=by
      have h1:=zQ6 B
      have e1 : 2 ^ B.length * 2 ^ (k - B.length) = 2 ^ k:=by rw [← Nat.pow_add];congr 1;omega
      have h2 : zL4 B * 2 ^ (k - B.length) < 2 ^ k:=by rw [← e1];exact Nat.mul_lt_mul_of_pos_right h1 (Nat.two_pow_pos _)
      have h3 : 2 ^ k ≤ 2 ^ 8:=Nat.pow_le_pow_right (by omega) (by omega)
      omega
    have ea : W64 ((i : Int) + (k : Int)) = ((i + k : Nat) : Int):=by rw [zBc (by omega) (by omega)];rfl
    have eb : W64 (2 * ((zL4 B * 2 ^ (k - B.length) : Nat) : Int)) = ((2 * (zL4 B * 2 ^ (k - B.length)) : Nat) : Int):=by
      generalize zL4 B * 2 ^ (k - B.length) = x at hn ⊢;rw [zBc (by omega) (by omega)];rfl
    rw [zC8,if_pos (by omega),zCc,ea,eb];dsimp only
    by_cases h : i + k < l.length
    · rw [if_pos (by rw [zDm];omega),zGm (by rw [zDm];exact h),zAn]
      have e : (zs l)[i + k]'(by rw [zDm];exact h) = biZ l[i + k]:=by simp [zs]
      have hBk : B.length = k:=by omega
      have ec : W64 (((2 * (zL4 B * 2 ^ (k - B.length)) : Nat) : Int) + biZ l[i + k]) = ((zL4 (B ++ [l[i + k]]) * 2 ^ ((k + 1) - (B ++ [l[i + k]]).length) : Nat) : Int):=by
        rw [za1,hBk,List.length_append,hBk,zNl,zPr];simp only [Nat.sub_self,Nat.pow_zero,Nat.mul_one,List.length_cons,List.length_nil,Nat.zero_add,Nat.pow_one];rw [hBk,Nat.sub_self,Nat.pow_zero,Nat.mul_one] at hn
        have hb : l[i + k].toNat < 2:=by cases l[i + k]<;>decide
        rw [zBc (by omega) (by omega)];omega
      rw [e,ec,zDj (by omega)];refine ih (k + 1) _ f (by omega) (by omega) (by simp;omega) ?_;rw [hB2,List.take_add_one,List.getElem?_drop,List.getElem?_eq_getElem h];rfl
    · rw [if_neg (by rw [zDm];omega)]
      have ec : ((2 * (zL4 B * 2 ^ (k - B.length)) : Nat) : Int) = ((zL4 B * 2 ^ ((k + 1) - B.length) : Nat) : Int):=by
        rw [show k + 1 - B.length = (k - B.length) + 1 by omega,Nat.pow_succ];generalize 2 ^ (k - B.length) = y;exact congrArg (fun n : Nat=>(n : Int)) (by rw [Nat.mul_comm y 2,Nat.mul_left_comm])
      rw [ec,zDj (by omega)];refine ih (k + 1) _ f (by omega) (by omega) (by omega) ?_;rw [hB2,List.take_of_length_le (by simp;omega),List.take_of_length_le (by simp;omega)]
theorem zWd {l : List Bool} (h : l.length ≤ 1000000000) : zF0 (zs l) = some (zFp l):=by
  unfold zF0;rw [zCc];obtain ⟨f,hf⟩:=fuelB 1000000001 (by decide)
  have key : ∀ (m i : Nat) (f : Nat),l.length ≤ i + 8 * m → i % 8 = 0 → m < f → zBw (zs l) (fun y3=>some y3) f (zFp (l.take i)) (i : Int) = some (zFp l):=by
    intro m
    induction m with
    | zero=>
      intro i f hm hi hf;obtain ⟨f,rfl⟩ : ∃ k,f = k + 1:=⟨f - 1,by omega⟩;rw [zBw,if_neg (by rw [zDm];omega),List.take_of_length_le (by omega)]
    | succ m ih=>
      intro i f hm hi hf;obtain ⟨f,rfl⟩ : ∃ k,f = k + 1:=⟨f - 1,by omega⟩;rw [zBw]
      by_cases h0 : i < l.length
      · rw [if_pos (by rw [zDm];omega),zCc]
        obtain ⟨f2,hf2⟩:=zLk 9 (by omega);have hin:=zY l i (fun y15=>(zDn (zFp (l.take i)) [toU8 y15]).bind fun z17=>zBw (zs l) (fun y3=>some y3) f z17 (W64 ((i : Int) + 8))) (by omega) h0 8 0 [] fuel (by omega) (by rw [hf2];omega) (by simp) (by simp);refine Eq.trans ?_ (hin.trans ?_)
        · rfl
        · have hlt : (l.take i).length = 8 * (i / 8):=by simp;omega
          have hne : (l.drop i).take 8 ≠ []:=by intro hh;have:=congrArg List.length hh;simp at this;omega
          have e8 : zFp (l.take i) ++ [zIq ((l.drop i).take 8)] = zFp (l.take (i + 8)):=by
            rw [List.take_add,zQ3 hlt,zM9 hne (by simp;omega)]
          have et : toU8 (((zIq ((l.drop i).take 8)).toNat : Nat) : Int) = zIq ((l.drop i).take 8):=by
            apply UInt8.toNat_inj.1;have:=(zIq ((l.drop i).take 8)).toNat_lt;rw [zTj];omega
          rw [et,zBp (by rw [zGu];simp;omega),zAn,e8,show W64 ((i : Int) + 8) = ((i + 8 : Nat) : Int) by rw [zBc (by omega) (by omega)];rfl];exact ih (i + 8) f (by omega) (by omega) (by omega)
      · rw [if_neg (by rw [zDm];omega),List.take_of_length_le (by omega)]
  have:=key 1000000000 0 fuel (by omega) rfl (by rw [hf];omega);rw [List.take_zero,zN0] at this;exact this
end Go.Proofs.YthjhejgjcdajdaaGreatDoor
set_option linter.unusedVariables false
set_option linter.unusedSimpArgs false
namespace Go.Proofs.YthjhejgjcdajdaaGreatDoor
open Go Go.RowKit Go.Wk
theorem zRo {α β : Type} {F : α} {B : α → β} {r : β} (Q : α → Prop) (hF : Q F) (hB : ∀ j,Q j → B j = r) : jn F B = r:=hB F hF
def bl (n : Nat) : Nat:=if n = 0 then 0 else n.log2 + 1
theorem zRu (n : Nat) : n < 2 ^ bl n:=by
  unfold bl;split
  · rename_i h;subst h;decide
  · exact Nat.lt_log2_self
theorem zWg {n : Nat} (h : n ≠ 0) : 2 ^ (bl n - 1) ≤ n:=by
  unfold bl;rw [if_neg h];exact Nat.log2_self_le h
theorem bl_of {n L : Nat} (h1 : n < 2 ^ L) (h2 : L = 0 ∨ 2 ^ (L - 1) ≤ n) : bl n = L:=by
  rcases h2 with rfl|h2
  · have : n = 0:=by simpa using h1
    subst this;rfl
  · have hn : n ≠ 0:=by have:=Nat.two_pow_pos (L - 1);omega
    have hl:=zWg hn;have hh:=zRu n;have a1 : L - 1 < bl n:=(Nat.pow_lt_pow_iff_right (a:=2) (by omega)).1 (by omega);have a2 : bl n - 1 < L:=(Nat.pow_lt_pow_iff_right (a:=2) (by omega)).1 (by omega)
    have a3 : 0 < bl n:=by omega
    omega
theorem zRt {n : Nat} (k : Nat) (h : 2 ^ k ≤ n) : bl n = bl (n / 2 ^ k) + k:=by
  have hp:=Nat.two_pow_pos k;have hq : n / 2 ^ k ≠ 0:=Nat.pos_iff_ne_zero.1 (Nat.div_pos h hp);have h1:=zRu (n / 2 ^ k);have h2:=zWg hq
  have h3 : 0 < bl (n / 2 ^ k):=by
    rcases Nat.eq_zero_or_pos (bl (n / 2 ^ k)) with h0|h0
    · rw [h0] at h1;exact absurd (by simpa using h1) hq
    · exact h0
  refine bl_of ?_ (.inr ?_)
  · rw [Nat.pow_add];exact (Nat.div_lt_iff_lt_mul hp).1 h1
  · rw [show bl (n / 2 ^ k) + k - 1 = bl (n / 2 ^ k) - 1 + k by omega,Nat.pow_add];exact (Nat.le_div_iff_mul_le hp).1 h2
theorem zQt {n k : Nat} (h : n < 2 ^ k) : bl n ≤ k:=by
  by_cases h0 : n = 0
  · subst h0;exact Nat.zero_le _
  · have:=zWg h0
    have : bl n - 1 < k:=(Nat.pow_lt_pow_iff_right (a:=2) (by omega)).1 (by omega)
    omega
theorem tabL {T : List UInt8} (hT : ∀ n,n < 256 → T[n]? = some (UInt8.ofNat (bl n))) {n : Nat} (h : n < 256) : idx T (n : Int) = some (UInt8.ofNat (bl n)):=by rw [zO9];exact hT n h
theorem zXj {n : Nat} (h : n < 256) : (UInt8.ofNat (bl n)).toNat = bl n:=by
  have : bl n ≤ 8:=zQt h;simp [UInt8.toNat_ofNat'];omega
theorem zTy (x : UInt64) : zGh x = some ((bl x.toNat : Nat) : Int):=by
  unfold zGh
  have hsh : ∀ (y : UInt64) (k : Nat),k < 64 → (y >>> UInt64.ofNat k).toNat = y.toNat / 2 ^ k:=fun y k hk=>by
    rw [UInt64.toNat_shiftRight,Nat.shiftRight_eq_div_pow];congr 2;simp [UInt64.toNat_ofNat'];omega
  refine zRo (fun j=>∀ (y : UInt64) (a : Int),y.toNat < 4294967296 → 0 ≤ a → a ≤ 32 → j y a = some (a + (bl y.toNat : Nat))) (fun y a hy h0 h1=>?_) (fun j hj=>?_)
  · refine zRo (fun j=>∀ (y : UInt64) (a : Int),y.toNat < 65536 → 0 ≤ a → a ≤ 48 → j y a = some (a + (bl y.toNat : Nat))) (fun y a hy h0 h1=>?_) (fun j hj=>?_)
    · refine zRo (fun j=>∀ (y : UInt64) (a : Int),y.toNat < 256 → 0 ≤ a → a ≤ 56 → j y a = some (a + (bl y.toNat : Nat))) (fun y a hy h0 h1=>?_) (fun j hj=>?_)
      · have hb : bl y.toNat ≤ 8:=zQt hy
        have e8 : (toU8 (y.toNat : Int)).toNat = y.toNat:=by simp [toU8,UInt8.toNat_ofNat'];omega
        dsimp only;rw [e8,tabL ?_ hy]
        · rw [zAn,zXj hy,zBc (by omega) (by omega)]
        · decide +kernel
      · by_cases hc : (y.toNat : Int) ≥ 256
        · rw [if_pos hc,zBc (by omega) (by omega),hj _ _ (by rw [hsh _ _ (by omega)];omega) (by omega) (by omega),hsh _ _ (by omega),zRt (n:=y.toNat) 8 (by omega)]
          congr 1;omega
        · rw [if_neg hc,hj _ _ (by omega) h0 (by omega)]
    · by_cases hc : (y.toNat : Int) ≥ 65536
      · rw [if_pos hc,zBc (by omega) (by omega),hj _ _ (by rw [hsh _ _ (by omega)];omega) (by omega) (by omega),hsh _ _ (by omega),zRt (n:=y.toNat) 16 (by omega)]
        congr 1;omega
      · rw [if_neg hc,hj _ _ (by omega) h0 (by omega)]
  · have hx:=x.toNat_lt
    by_cases hc : (x.toNat : Int) ≥ 4294967296
    · rw [if_pos hc,hj _ _ (by rw [hsh _ _ (by omega)];omega) (by omega) (by omega),hsh _ _ (by omega),zRt (n:=x.toNat) 32 (by omega)]
      congr 1;omega
    · rw [if_neg hc,hj _ _ (by omega) (by omega) (by omega)];congr 1;omega
def oth (n : Nat) : Nat:=if 56 < bl n then 8 else (bl n - 1) / 7
theorem zVl (x : UInt64) : zIg x = some ((oth x.toNat : Nat) : Int):=by
  unfold zIg;have hb : bl x.toNat ≤ 64:=zQt x.toNat_lt;rw [zTy,zAn];unfold oth
  by_cases h : 56 < bl x.toNat
  · rw [if_pos h,if_pos (by omega)];rfl
  · rw [if_neg h,if_neg (by omega),zBc (by omega) (by omega)]
    unfold quoZ;rw [if_neg (by omega),zAn];rw [Int.tdiv_eq_ediv_of_nonneg (by omega),zBc (by omega) (by omega)]
    congr 1;omega
theorem zTt (n : Nat) : oth n ≤ 8:=by unfold oth;split<;>omega
theorem zYp {n : Nat} (h : oth n < 8) : n < 2 ^ (7 * oth n + 7):=by
  have h1:=zRu n;unfold oth at h ⊢
  split at h
  · omega
  · rename_i hb
    rw [if_neg hb];exact Nat.lt_of_lt_of_le h1 (Nat.pow_le_pow_right (by omega) (by omega))
theorem zb5 {n : Nat} (h : oth n ≠ 0) : 2 ^ (7 * oth n) ≤ n:=by
  have hn : n ≠ 0:=by rintro rfl;exact h rfl
  have h1:=zWg hn;unfold oth at h ⊢
  split
  · exact Nat.le_trans (Nat.pow_le_pow_right (by omega) (by omega)) h1
  · exact Nat.le_trans (Nat.pow_le_pow_right (by omega) (by omega)) h1
def byt (n : Nat) : Nat → List UInt8
  | 0=>[]
  | k + 1=>UInt8.ofNat (n / 256 ^ k % 256) :: byt n k
theorem zWf (n k : Nat) : (byt n k).length = k:=by induction k with
  | zero=>rfl
  | succ k ih=>simp [byt,ih]
def zbg (n k : Nat) : UInt8:=if k < 8 then UInt8.ofNat (256 - 2 ^ (8 - k) + n / 256 ^ k) else 255
def enc (v : UInt64) : List UInt8:=zbg v.toNat (oth v.toNat) :: byt v.toNat (oth v.toNat)
theorem zZu (v : UInt64) : (enc v).length = oth v.toNat + 1:=by simp [enc,zWf]
theorem zGv (v : UInt64) : (enc v).length ≤ 9:=by have:=zTt v.toNat;rw [zZu];omega
theorem zYn (k : Nat) : 256 ^ k = 2 ^ (8 * k):=by rw [Nat.pow_mul]
theorem zV7 (x : UInt64) (k : Nat) (hk : k < 8) : (shr64 x (8 * k)).toNat = x.toNat / 256 ^ k:=by
  unfold shr64;rw [if_pos (by omega),UInt64.toNat_shiftRight,Nat.shiftRight_eq_div_pow,zYn]
  congr 2
  simp [UInt64.toNat_ofNat'];omega
theorem zNg (n : Nat) : toU8 (n : Int) = UInt8.ofNat (n % 256):=by unfold toU8;congr 1
theorem zV (k : Nat) (h : k ≤ 64) : (zAe (k : Int)).toNat = k:=by
  simp [zAe,UInt64.toNat_ofNat'];omega
theorem zS {n : Nat} (h : oth n < 8) : n / 256 ^ oth n < 2 ^ (7 - oth n):=by
  have h1:=zYp h;rw [Nat.div_lt_iff_lt_mul (Nat.pow_pos (by omega)),zYn,← Nat.pow_add];rw [show 7 - oth n + 8 * oth n = 7 * oth n + 7 by omega];exact h1
theorem zXt : ∀ k,k < 8 → ∀ t,t < 2 ^ (7 - k) → shl8 (255 : UInt8) (8 - k) ||| UInt8.ofNat (t % 256) = UInt8.ofNat (256 - 2 ^ (8 - k) + t):=by
  decide +kernel
theorem zaq (x : UInt64) (j : zAb → Option zAb) : ∀ (k n : Nat) (b : List UInt8),k < n → k ≤ 8 → b.length + k ≤ 1073741824 → zD x j n (k : Int) ⟨b⟩ = j ⟨b ++ byt x.toNat k⟩
  | 0,n,b,hn,_,_=>by
    obtain ⟨n,rfl⟩ : ∃ m,n = m + 1:=⟨n - 1,by omega⟩;rw [zD,if_neg (by omega)];simp [byt]
  | k + 1,n,b,hn,hk,hb=>by
    obtain ⟨n,rfl⟩ : ∃ m,n = m + 1:=⟨n - 1,by omega⟩;rw [zD,if_pos (by omega),zBc (z:=8 * ((k + 1 : Nat) : Int)) (by omega) (by omega),zBc (z:=8 * ((k + 1 : Nat) : Int) - 8) (by omega) (by omega)];rw [show 8 * ((k + 1 : Nat) : Int) - 8 = ((8 * k : Nat) : Int) by omega,zV _ (by omega),zV7 _ _ (by omega),zNg];rw [zBp (by simp;omega),zAn,zBc (by omega) (by omega),show ((k + 1 : Nat) : Int) - 1 = (k : Int) by omega];rw [zaq x j k n _ (by omega) (by omega) (by simp;omega)];simp [byt]
theorem zSy (b : List UInt8) (v : UInt64) (h : b.length ≤ 1000000000) : zF6 ⟨b⟩ v = some ⟨b ++ enc v⟩:=by
  unfold zF6;have hle:=zTt v.toNat;rw [zVl,zAn]
  refine zRo (fun j=>j (zbg v.toNat (oth v.toNat)) = some ⟨b ++ enc v⟩) ?_ fun j hj=>?_
  · rw [zBp (by simp;omega),zAn,zCc]
    obtain ⟨m,hm⟩:=zLk 9 (by omega);rw [zaq v _ _ _ _ (by omega) hle (by simp;omega)];simp [enc]
  · by_cases hk : oth v.toNat < 8
    · rw [if_pos (by omega)]
      rw [zBc (by omega) (by omega),zBc (by omega) (by omega)];rw [show (8 : Int) - (oth v.toNat : Nat) = ((8 - oth v.toNat : Nat) : Int) by omega,show 8 * ((oth v.toNat : Nat) : Int) = ((8 * oth v.toNat : Nat) : Int) by omega,zV _ (by omega),zV _ (by omega),zV7 _ _ (by omega),zNg];rw [zXt _ hk _ (zS hk)];unfold zbg at hj;rw [if_pos hk] at hj;exact hj
    · have : oth v.toNat = 8:=by omega
      rw [if_neg (by omega),zBc (by omega) (by omega)];rw [this] at hj ⊢;exact hj
end Go.Proofs.YthjhejgjcdajdaaGreatDoor
set_option linter.unusedVariables false
set_option linter.unusedSimpArgs false
namespace Go.Proofs.YthjhejgjcdajdaaGreatDoor
open Go Go.RowKit Go.Wk
end Go.Proofs.YthjhejgjcdajdaaGreatDoor
set_option linter.unusedVariables false
set_option linter.unusedSimpArgs false
namespace Go.Proofs.YthjhejgjcdajdaaGreatDoor
open Go Go.RowKit Go.Wk
abbrev okI (x : Int) : Prop:=-9223372036854775808 ≤ x ∧ x ≤ 9223372036854775807
def zig (x : Int) : UInt64:=UInt64.ofNat (if 0 ≤ x then 2 * x.toNat else 2 * (-1 - x).toNat + 1)
theorem zUu {x : Int} (h : okI x) : (zig x).toNat = if 0 ≤ x then 2 * x.toNat else 2 * (-1 - x).toNat + 1:=by
  unfold zig;rw [UInt64.toNat_ofNat',Nat.mod_eq_of_lt]
  split<;>omega
theorem zZ1 (y : Nat) (h : y < 18446744073709551616) : y ^^^ 18446744073709551615 = 18446744073709551615 - y:=by
  have e:=congrArg BitVec.toNat (BitVec.xor_allOnes (x:=BitVec.ofNat 64 y));rw [BitVec.toNat_xor,BitVec.toNat_not,BitVec.toNat_ofNat,BitVec.toNat_allOnes,Nat.mod_eq_of_lt (by simpa using h)] at e;simpa using e
theorem zae {z : Int} (h0 : 9223372036854775808 ≤ z) (h1 : z < 18446744073709551616) : W64 z = z - 18446744073709551616:=by
  unfold W64 IntKind.wrap;simp [IntKind.signed,IntKind.bits]
  split<;>omega
theorem zap {x : Int} (h : okI x) : zNn x = some (zig x):=by
  unfold zNn
  congr 1
  apply UInt64.toNat_inj.1
  rw [zUu h,UInt64.toNat_xor]
  have e1 : (zAe x <<< UInt64.ofNat 1).toNat = if 0 ≤ x then 2 * x.toNat else 18446744073709551616 - 2 * (-x).toNat:=by
    rw [UInt64.toNat_shiftLeft]
    have : (UInt64.ofNat 1).toNat % 64 = 1:=by decide
    rw [this,Nat.shiftLeft_eq];simp only [zAe,UInt64.toNat_ofNat']
    split<;>omega
  have e2 : (zAe (shrZ x 63)).toNat = if 0 ≤ x then 0 else 18446744073709551615:=by
    have : shrZ x 63 = if 0 ≤ x then 0 else -1:=by
      unfold shrZ;rw [show min 63 64 = 63 by decide,Int.fdiv_eq_ediv_of_nonneg _ (by decide)]
      split<;>omega
    rw [this]
    split<;>rfl
  rw [e1,e2]
  by_cases h0 : 0 ≤ x
  · rw [if_pos h0,if_pos h0,if_pos h0,Nat.xor_zero]
  · rw [if_neg h0,if_neg h0,if_neg h0]
    rw [zZ1 _ (by omega)];omega
theorem zXw (l : List UInt8) (h : l.length ≤ 1073741824) : zF1 l = some l:=by unfold zF1;rw [zBp (by simpa using h)];rfl
def zWv (s : List UInt8) : List UInt8:=enc (UInt64.ofNat s.length) ++ s
theorem zWz (b s : List UInt8) (h : b.length ≤ 1000000000) (hs : s.length ≤ 10000000) : zGy ⟨b⟩ s = some ⟨b ++ zWv s⟩:=by
  unfold zGy
  have e : zAe (s.length : Int) = UInt64.ofNat s.length:=by unfold zAe;congr 1;omega
  have:=zGv (UInt64.ofNat s.length);rw [e,zSy _ _ h,zAn,zBp (by simp;omega),zAn];simp [zWv]
end Go.Proofs.YthjhejgjcdajdaaGreatDoor
set_option maxRecDepth 20000
set_option linter.unusedVariables false
set_option linter.unusedSimpArgs false
namespace Go.Proofs.YthjhejgjcdajdaaGreatDoor
open Go Go.RowKit Go.Wk
def szN (c : Nat) : Nat:=if c = 0 then 0 else if c = 1 then 7 else if c = 2 then 20 else 64
def clsN (v : Nat) : Nat:=if v < 1 then 0 else if v < 128 then 1 else if v < 1048576 then 2 else 3
theorem zW8 (v : Nat) : clsN v < 4:=by unfold clsN;(repeat' split)<;>omega
theorem zTk (c : Nat) : szN c ≤ 64:=by unfold szN;(repeat' split)<;>omega
theorem zXv {v : Nat} (h : v < 18446744073709551616) : v < 2 ^ szN (clsN v):=by
  unfold clsN
  split
  · simp [szN];omega
  · split
    · simp [szN];omega
    · split
      · simp [szN];omega
      · simp [szN];omega
theorem idx4 {i : Nat} (h : i < 4) : idx ([0,7,20,64] : List Int) (i : Int) = some ((szN i : Nat) : Int):=by
  rcases (show i = 0 ∨ i = 1 ∨ i = 2 ∨ i = 3 by omega) with rfl|rfl|rfl|rfl<;>rfl
theorem zXz (v : UInt64) : zJe v = some ((clsN v.toNat : Nat) : Int):=by
  have hv:=v.toNat_lt;unfold zJe zIa;rw [zAn,zCc];obtain ⟨f,hf⟩:=zLk 5 (by omega)
  have step : ∀ (f i T : Nat),i < 4 → 2 ^ szN i = T → zEe v { a0:=0,a1:=7,a2:=20,a3:=64 } (fun _=>some 3) (f + 1) (i : Int) = if v.toNat < T then some (i : Int) else zEe v { a0:=0,a1:=7,a2:=20,a3:=64 } (fun _=>some 3) f ((i + 1 : Nat) : Int):=by
    intro f i T hi hT;have hs:=zTk i;rw [zEe,if_pos (by omega),idx4 hi,zAn,zDu (by omega),zLo,zDj (by omega),hT]
    have hp : 0 < T:=by rw [← hT];exact Nat.two_pow_pos _
    by_cases h : v.toNat < T
    · rw [if_pos h,Nat.div_eq_of_lt h,if_pos (by rfl)]
    · have:=Nat.div_pos (Nat.le_of_not_lt h) hp
      rw [if_neg h,if_neg (by omega)]
  have h0:=step (f + 4) 0 1 (by omega) rfl;have h1:=step (f + 3) 1 128 (by omega) rfl;have h2:=step (f + 2) 2 1048576 (by omega) rfl;have h3:=step (f + 1) 3 18446744073709551616 (by omega) rfl;rw [hf];refine h0.trans ?_;rw [h1,h2,h3];unfold clsN
  by_cases a : v.toNat < 1
  · rw [if_pos a,if_pos a]
  · rw [if_neg a,if_neg a]
    by_cases b : v.toNat < 128
    · rw [if_pos b,if_pos b]
    · rw [if_neg b,if_neg b]
      by_cases c : v.toNat < 1048576
      · rw [if_pos c,if_pos c]
      · rw [if_neg c,if_neg c,if_pos (by omega)]
theorem zRj {n : Nat} (hn : n < 64) : zCu (n : Int) = some (UInt64.ofNat (2 ^ n)):=by
  unfold zCu;rw [zCc];obtain ⟨f,hf⟩:=zLk 65 (by omega)
  have key : ∀ (r i f : Nat),i + r = n → r < f → zC6 (n : Int) (fun y=>some y) f (UInt64.ofNat (2 ^ i)) (i : Int) = some (UInt64.ofNat (2 ^ n)):=by
    intro r
    induction r with
    | zero=>
      intro i f hi hf;obtain ⟨f,rfl⟩ : ∃ k,f = k + 1:=⟨f - 1,by omega⟩;rw [zC6,if_neg (by omega),show i = n by omega]
    | succ r ih=>
      intro i f hi hf;obtain ⟨f,rfl⟩ : ∃ k,f = k + 1:=⟨f - 1,by omega⟩
      have e : (2 : UInt64) * UInt64.ofNat (2 ^ i) = UInt64.ofNat (2 ^ (i + 1)):=by
        apply UInt64.toNat_inj.1
        rw [UInt64.toNat_mul,UInt64.toNat_ofNat',UInt64.toNat_ofNat',show (2 : UInt64).toNat = 2 by rfl,show 2 ^ (i + 1) = 2 * 2 ^ i from Nat.pow_succ'];generalize 2 ^ i = x
        omega
      rw [zC6,if_pos (by omega),zDj (by omega),e];exact ih (i + 1) f (by omega) (by omega)
  exact key n 0 fuel (by omega) (by rw [hf];omega)
theorem zTq {i : Nat} (h : i < 4) : zE5 (i : Int) = some ((szN i : Nat) : Int):=by
  unfold zE5;rw [idx4 h,zAn]
theorem zYe (v : UInt64) : zF v = some ((clsN v.toNat : Nat) : Int):=by
  unfold zF;rw [zCc];obtain ⟨f,hf⟩:=zLk 5 (by omega)
  have step : ∀ (f i T : Nat),i < 3 → 2 ^ szN i = T → zBf v (fun _=>some 3) (f + 1) (i : Int) = if v.toNat < T then some (i : Int) else zBf v (fun _=>some 3) f ((i + 1 : Nat) : Int):=by
    intro f i T hi hT
    have hs : szN i < 64:=by rcases (show i = 0 ∨ i = 1 ∨ i = 2 by omega) with rfl | rfl | rfl<;>decide
    have hp : 2 ^ szN i < 2 ^ 64:=Nat.pow_lt_pow_right (by omega) hs;rw [zBf,if_pos (by omega),zTq (by omega),zAn,zRj hs,zAn,zDj (by omega),UInt64.toNat_ofNat',Nat.mod_eq_of_lt hp,hT]
    by_cases h : v.toNat < T
    · rw [if_pos h,if_pos (by omega)]
    · rw [if_neg h,if_neg (by omega)]
  have h0:=step (f + 4) 0 1 (by omega) rfl;have h1:=step (f + 3) 1 128 (by omega) rfl;have h2:=step (f + 2) 2 1048576 (by omega) rfl
  have h3 : zBf v (fun _=>some 3) (f + 1 + 1) ((2 + 1 : Nat) : Int) = some 3:=by
    rw [zBf,if_neg (by omega)]
  rw [hf];refine h0.trans ?_;rw [h1,h2,h3];unfold clsN
  by_cases a : v.toNat < 1
  · rw [if_pos a,if_pos a]
  · rw [if_neg a,if_neg a]
    by_cases b : v.toNat < 128
    · rw [if_pos b,if_pos b]
    · rw [if_neg b,if_neg b]
      by_cases c : v.toNat < 1048576
      · rw [if_pos c,if_pos c]
      · rw [if_neg c,if_neg c];rfl
def smB (v : Nat) : List Bool:=zGx (clsN v) 2 ++ zGx v (szN (clsN v))
theorem zZ8 (v : Nat) : (smB v).length = 2 + szN (clsN v):=by rw [smB,List.length_append,zBo,zBo]
theorem zLn (v : Nat) : (smB v).length ≤ 66:=by have:=zTk (clsN v);rw [zZ8];omega
theorem zT {M : List Bool} (v : UInt64) (hM : M.length ≤ 7000000000) : zHh (WrO M) v = some (WrO (M ++ smB v.toNat)):=by
  unfold zHh zIa;have hc:=zW8 v.toNat;have hs:=zTk (clsN v.toNat);have e1 : (zAe ((clsN v.toNat : Nat) : Int)).toNat = clsN v.toNat:=zDu (by omega);have p1:=zJc (M:=M) (v:=zAe ((clsN v.toNat : Nat) : Int)) (n:=2) (by omega) (by omega) (by rw [e1];omega);rw [e1] at p1;have p2:=zJc (M:=M ++ zGx (clsN v.toNat) 2) (v:=v) (n:=szN (clsN v.toNat)) (by rw [List.length_append,zBo];omega) hs (zXv (by have:=v.toNat_lt;omega));rw [zXz,zAn,show (2 : Int) = ((2 : Nat) : Int) by rfl,p1,zAn,zAn];dsimp only;rw [idx4 hc,zAn,p2,zAn,List.append_assoc];rfl
theorem zNq (v : UInt64) : zAs v = some (zs (smB v.toNat)):=by
  unfold zAs;have hc:=zW8 v.toNat;have hs:=zTk (clsN v.toNat);have e1 : (zAe ((clsN v.toNat : Nat) : Int)).toNat = clsN v.toNat:=zDu (by omega);have r1:=zPz (v:=zAe ((clsN v.toNat : Nat) : Int)) (n:=2) (by omega);rw [e1] at r1;rw [zYe,zAn,show (2 : Int) = ((2 : Nat) : Int) by rfl,r1,zAn,zTq hc,zAn,zPz hs,zAn,zBp (by rw [zDm,zDm,zBo,zBo];omega),zAn,← zI7];rfl
structure GotB where
  V : Nat
  N : Nat
  E : Nat
end Go.Proofs.YthjhejgjcdajdaaGreatDoor
set_option maxRecDepth 20000
set_option linter.unusedVariables false
set_option linter.unusedSimpArgs false
namespace Go.Proofs.YthjhejgjcdajdaaGreatDoor
open Go Go.RowKit Go.Wk
theorem zF8 {n : Nat} (h : n < 18446744073709551616) : (UInt64.ofNat n).toNat = n:=by rw [UInt64.toNat_ofNat'];exact Nat.mod_eq_of_lt h
end Go.Proofs.YthjhejgjcdajdaaGreatDoor
set_option maxRecDepth 20000
set_option linter.unusedVariables false
set_option linter.unusedSimpArgs false
namespace Go.Proofs.YthjhejgjcdajdaaGreatDoor
open Go Go.RowKit Go.Wk
def sI (u : UInt64) : Int:=if u.toNat < 9223372036854775808 then (u.toNat : Int) else (u.toNat : Int) - 18446744073709551616
theorem zUa (u : UInt64) : W64 ((u.toNat : Nat) : Int) = sI u:=by
  have:=u.toNat_lt;unfold sI
  split
  · rw [zBc (by omega) (by omega)]
  · rw [zae (by omega) (by omega)]
theorem zX6 (u : UInt64) : okI (sI u):=by have:=u.toNat_lt;unfold sI okI;split<;>omega
theorem zU7 {x : Int} (h : okI x) : zC2 x = some (zig x):=by
  have e:=zUu h;unfold okI at h;unfold zC2
  by_cases h0 : x ≥ 0
  · rw [if_pos h0];congr 1
    apply UInt64.toNat_inj.1
    rw [e,if_pos (by omega),UInt64.toNat_mul,zLl,show (2 : UInt64).toNat = 2 by rfl];omega
  · rw [if_neg h0];congr 1
    apply UInt64.toNat_inj.1
    rw [e,if_neg (by omega),zBc (by omega) (by omega),UInt64.toNat_add,UInt64.toNat_mul,zLl,show (2 : UInt64).toNat = 2 by rfl,show (1 : UInt64).toNat = 1 by rfl];omega
theorem zNf {M : List Bool} {x : Int} (h : okI x) (hM : M.length ≤ 7000000000) : zEc (WrO M) x = some (WrO (M ++ smB (zig x).toNat)):=by
  unfold zEc;rw [zap h,zAn,zT _ hM,zAn]
def wdN (k : Nat) : Nat:=if k = 0 then 0 else if k = 1 then 6 else if k = 2 then 10 else if k = 3 then 16 else 64
theorem zUy (k : Nat) : wdN k ≤ 64:=by unfold wdN;(repeat' split)<;>omega
def wayN (d : Int) : Nat:=if d = 0 then 0 else if -32 ≤ d ∧ d < 32 then 1 else if -512 ≤ d ∧ d < 512 then 2 else if -32768 ≤ d ∧ d < 32768 then 3 else 4
theorem zSz (d : Int) : wayN d ≤ 4:=by unfold wayN;(repeat' split)<;>omega
theorem zal {i : Nat} (h : i < 5) : idx ([0,6,10,16,64] : List Int) (i : Int) = some ((wdN i : Nat) : Int):=by
  rcases (show i = 0 ∨ i = 1 ∨ i = 2 ∨ i = 3 ∨ i = 4 by omega) with rfl|rfl|rfl|rfl|rfl<;>rfl
theorem zQg (d : Int) (n : Nat) (b : Int) (hn : n = 0 ∧ b = 0 ∨ n = 6 ∧ b = 32 ∨ n = 10 ∧ b = 512 ∨ n = 16 ∧ b = 32768 ∨ n = 64 ∧ b = 0) :
    zKc d (n : Int) = some (if n = 0 then decide (d = 0) else if n = 64 then true else decide (-b ≤ d ∧ d < b)):=by
  unfold zKc;simp only [zCc]
  rcases hn with ⟨rfl,rfl⟩|⟨rfl,rfl⟩|⟨rfl,rfl⟩|⟨rfl,rfl⟩|⟨rfl,rfl⟩
  · rfl
  · refine (if_neg (by decide)).trans ((if_neg (by decide)).trans ?_)
    show _ = some (decide (-32 ≤ d ∧ d < 32));rw [show shlZ (-1) ((zAe (W64 (((6 : Nat) : Int) - 1))).toNat) = -32 by decide,show shlZ 1 ((zAe (W64 (((6 : Nat) : Int) - 1))).toNat) = 32 by decide]
    by_cases h : d ≥ -32
    · rw [if_pos h];congr 1;simp;omega
    · rw [if_neg h];congr 1;simp;omega
  · refine (if_neg (by decide)).trans ((if_neg (by decide)).trans ?_)
    show _ = some (decide (-512 ≤ d ∧ d < 512));rw [show shlZ (-1) ((zAe (W64 (((10 : Nat) : Int) - 1))).toNat) = -512 by decide,show shlZ 1 ((zAe (W64 (((10 : Nat) : Int) - 1))).toNat) = 512 by decide]
    by_cases h : d ≥ -512
    · rw [if_pos h];congr 1;simp;omega
    · rw [if_neg h];congr 1;simp;omega
  · refine (if_neg (by decide)).trans ((if_neg (by decide)).trans ?_)
    show _ = some (decide (-32768 ≤ d ∧ d < 32768));rw [show shlZ (-1) ((zAe (W64 (((16 : Nat) : Int) - 1))).toNat) = -32768 by decide,show shlZ 1 ((zAe (W64 (((16 : Nat) : Int) - 1))).toNat) = 32768 by decide]
    by_cases h : d ≥ -32768
    · rw [if_pos h];congr 1;simp;omega
    · rw [if_neg h];congr 1;simp;omega
  · rfl
theorem zas (d : Int) : zNm d = some ((wayN d : Nat) : Int):=by
  unfold zNm zHg;rw [zAn,zCc];obtain ⟨f,hf⟩:=zLk 6 (by omega)
  have step : ∀ (f i : Nat) (p : Bool),i < 5 → zKc d ((wdN i : Nat) : Int) = some p → zFw d { a0:=0,a1:=6,a2:=10,a3:=16,a4:=64 } (fun _=>some 4) (f + 1) (i : Int) = if p = true then some (i : Int) else zFw d { a0:=0,a1:=6,a2:=10,a3:=16,a4:=64 } (fun _=>some 4) f ((i + 1 : Nat) : Int):=by
    intro f i p hi hp;rw [zFw,if_pos (by omega),zal hi,zAn,hp,zAn,zDj (by omega)]
  have h0:=step (f + 5) 0 _ (by omega) (zQg d 0 0 (by omega));have h1:=step (f + 4) 1 _ (by omega) (zQg d 6 32 (by omega));have h2:=step (f + 3) 2 _ (by omega) (zQg d 10 512 (by omega));have h3:=step (f + 2) 3 _ (by omega) (zQg d 16 32768 (by omega));have h4:=step (f + 1) 4 _ (by omega) (zQg d 64 0 (by omega));rw [hf];refine h0.trans ?_;rw [h1,h2,h3,h4];unfold wayN;simp only [if_true,decide_eq_true_eq]
  by_cases a : d = 0
  · rw [if_pos a,if_pos a]
  · rw [if_neg a,if_neg a]
    simp only [show ¬ (6 : Nat) = 0 by decide,show ¬ (6 : Nat) = 64 by decide,show ¬ (10 : Nat) = 0 by decide,show ¬ (10 : Nat) = 64 by decide,show ¬ (16 : Nat) = 0 by decide,show ¬ (16 : Nat) = 64 by decide,show ¬ (64 : Nat) = 0 by decide,if_false,decide_eq_true_eq]
    by_cases b : -32 ≤ d ∧ d < 32
    · rw [if_pos b,if_pos b]
    · rw [if_neg b,if_neg b]
      by_cases c : -512 ≤ d ∧ d < 512
      · rw [if_pos c,if_pos c]
      · rw [if_neg c,if_neg c]
        by_cases e : -32768 ≤ d ∧ d < 32768
        · rw [if_pos e,if_pos e]
        · rw [if_neg e,if_neg e,if_pos trivial]
theorem zbn (d : Int) : zFz d = some ((wayN d : Nat) : Int):=by
  unfold zFz wayN
  by_cases a : d = 0
  · rw [if_pos a,if_pos a];rfl
  rw [if_neg a,if_neg a,zCc];obtain ⟨f,hf⟩:=zLk 6 (by omega)
  have step : ∀ (f i n : Nat) (b : Int),1 ≤ i → i < 4 → wdN i = n + 1 → n < 63 → ((2 ^ n : Nat) : Int) = b → zBu d (fun _=>some 4) (f + 1) (i : Int) = if -b ≤ d ∧ d < b then some (i : Int) else zBu d (fun _=>some 4) f ((i + 1 : Nat) : Int):=by
    intro f i n b hi0 hi hw hn hb;have hb2 : 2 ^ n < 2 ^ 63:=Nat.pow_lt_pow_right (by omega) hn;have hb3 : 0 < 2 ^ n:=Nat.two_pow_pos n
    have hb4 : 0 < b ∧ b < 9223372036854775808:=by rw [← hb];exact ⟨Int.ofNat_lt.2 hb3,Int.ofNat_lt.2 hb2⟩
    rw [zBu,if_pos (by omega)];unfold zBr;rw [zal (by omega),zAn,zAn,hw,show W64 (((n + 1 : Nat) : Int) - 1) = ((n : Nat) : Int) by rw [zBc (by omega) (by omega)];omega,zRj (by omega),zAn,zF8 (by omega),hb,zDj (by omega)];have e : W64 b = b:=zBc (by omega) (by omega);rw [e,zBc (by omega) (by omega)]
    by_cases h : -b ≤ d ∧ d < b
    · rw [if_pos h,if_pos (by omega)]
    · rw [if_neg h,if_neg (by omega)]
  have h1:=step (f + 5) 1 5 32 (by omega) (by omega) rfl (by omega) rfl;have h2:=step (f + 4) 2 9 512 (by omega) (by omega) rfl (by omega) rfl;have h3:=step (f + 3) 3 15 32768 (by omega) (by omega) rfl (by omega) rfl
  have h4 : zBu d (fun _=>some 4) (f + 2 + 1) ((3 + 1 : Nat) : Int) = some 4:=by rw [zBu,if_neg (by omega)]
  rw [hf];refine h1.trans ?_;rw [h2,h3,h4]
  by_cases b : -32 ≤ d ∧ d < 32
  · rw [if_pos b,if_pos b]
  · rw [if_neg b,if_neg b]
    by_cases c : -512 ≤ d ∧ d < 512
    · rw [if_pos c,if_pos c]
    · rw [if_neg c,if_neg c]
      by_cases e : -32768 ≤ d ∧ d < 32768
      · rw [if_pos e,if_pos e]
      · rw [if_neg e,if_neg e];rfl
def stB (d : Int) : List Bool:=(List.replicate (wayN d) true ++ if wayN d < 4 then [false] else []) ++ zGx (zAe d).toNat (wdN (wayN d))
theorem zYh (d : Int) : (stB d).length ≤ 69:=by
  have h1:=zSz d;have h2:=zUy (wayN d);unfold stB;rw [List.length_append,List.length_append,zBo,List.length_replicate]
  split<;>simp<;>omega
theorem zZi (p : Int) (k : Nat) (hp : p = k) (hk : k ≤ 4) : ∀ (r i : Nat) (M : List Bool) (f : Nat) (j2 : zA0 → Option (zA0 × zA5)),i + r = k → M.length + r ≤ 7000000000 → r < f →
    zDo p j2 f (i : Int) (WrO M) = j2 (WrO (M ++ List.replicate r true)):=by
  intro r
  induction r with
  | zero=>
    intro i M f j2 hi hM hf;obtain ⟨f,rfl⟩ : ∃ k,f = k + 1:=⟨f - 1,by omega⟩;rw [zDo,if_neg (by omega)];simp
  | succ r ih=>
    intro i M f j2 hi hM hf;obtain ⟨f,rfl⟩ : ∃ k,f = k + 1:=⟨f - 1,by omega⟩;have p1 : zAh (WrO M) 1 1 = some (true,WrO (M ++ zGx (1 : UInt64).toNat 1)):=zJc (M:=M) (v:=1) (n:=1) (by omega) (by omega) (by decide);rw [zDo,if_pos (by omega),p1,zAn,zDj (by omega)];dsimp only;have e : zGx (1 : UInt64).toNat 1 = [true]:=rfl;rw [e,ih (i + 1) (M ++ [true]) f j2 (by omega) (by rw [List.length_append];simp;omega) (by omega),List.append_assoc,List.replicate_succ];rfl
end Go.Proofs.YthjhejgjcdajdaaGreatDoor
set_option maxRecDepth 20000
set_option linter.unusedVariables false
set_option linter.unusedSimpArgs false
namespace Go.Proofs.YthjhejgjcdajdaaGreatDoor
open Go Go.RowKit Go.Wk
def zR5 (r : zA5) (v : UInt64) : zA5:=⟨r.n + 1,v,if r.n > 0 then v - r.last else r.step⟩
def zIr (xs : List Int) : zA5:=xs.foldl (fun r v=>zR5 r (zAe v)) ⟨0,0,0⟩
theorem zLr (xs : List Int) (v : Int) : zIr (xs ++ [v]) = zR5 (zIr xs) (zAe v):=by unfold zIr;rw [List.foldl_append];rfl
theorem zVf (xs : List Int) : (zIr xs).n = (xs.length : Int):=by
  have key : ∀ (xs : List Int) (r : zA5),(xs.foldl (fun r v=>zR5 r (zAe v)) r).n = r.n + (xs.length : Int):=by
    intro xs
    induction xs with
    | nil=>intro r;simp
    | cons v t ih=>intro r;rw [List.foldl_cons,ih,List.length_cons];show r.n + 1 + _ = _;omega
  have:=key xs ⟨0,0,0⟩;unfold zIr;rw [this];simp
theorem zS9 (t : List Int) (v : Int) : (zIr (t ++ [v])).last = zAe v:=by rw [zLr];rfl
theorem zVe (t : List Int) (u v : Int) : (zIr (t ++ [u] ++ [v])).step = zAe v - zAe u:=by
  rw [zLr];unfold zR5;rw [zS9,if_pos (by rw [zVf,List.length_append];simp only [List.length_cons,List.length_nil];omega)]
theorem zVz {r : zA5} (v : UInt64) (h : 0 ≤ r.n ∧ r.n ≤ 1000000000) : zEa r v = some (zR5 r v):=by
  unfold zEa zR5;rw [zCc]
  by_cases h0 : r.n > 0
  · rw [if_pos h0,if_pos h0];dsimp only;rw [zBc (by omega) (by omega)]
  · rw [if_neg h0,if_neg h0];dsimp only;rw [zBc (by omega) (by omega)]
def zRk (r : zA5) (v : Int) : List Bool:=
  if r.n = 0 then smB (zig v).toNat
  else if r.n = 1 then smB (zig (sI (zAe v - r.last))).toNat
  else stB (sI (zAe v - r.last - r.step))
theorem zJo (r : zA5) (v : Int) : (zRk r v).length ≤ 69:=by
  unfold zRk
  split
  · have:=zLn (zig v).toNat;omega
  · split
    · have:=zLn (zig (sI (zAe v - r.last))).toNat;omega
    · exact zYh _
theorem zRd {r : zA5} {M : List Bool} {v : Int} (hr : 0 ≤ r.n ∧ r.n ≤ 1000000000) (hv : okI v) (hM : M.length ≤ 6000000000) :
    zF4 r (WrO M) v = some (WrO (M ++ zRk r v),zR5 r (zAe v)):=by
  unfold zF4 zRk;rw [zCc]
  have tail : ∀ X : List Bool,((zEa r (zAe v)).bind fun p5=>some (WrO X,p5)) = some (WrO X,zR5 r (zAe v)):=fun X=>by rw [zVz _ hr,zAn]
  by_cases h0 : r.n = 0
  · rw [if_pos h0,if_pos h0,zNf hv (by omega),zAn];exact tail _
  rw [if_neg h0,if_neg h0]
  by_cases h1 : r.n = 1
  · rw [if_pos h1,if_pos h1,zUa,zNf (zX6 _) (by omega),zAn];exact tail _
  rw [if_neg h1,if_neg h1,zUa,zas,zAn,zCc];generalize hd : sI (zAe v - r.last - r.step) = d;have hw:=zSz d;obtain ⟨f,hf⟩:=zLk 6 (by omega);have on:=zZi ((wayN d : Nat) : Int) (wayN d) rfl hw (wayN d) 0 M fuel;refine (on _ (by omega) (by omega) (by rw [hf];omega)).trans ?_;rw [zCc];have hwd:=zUy (wayN d)
  have e1 : (zAe (W64 (64 - ((wdN (wayN d) : Nat) : Int)))).toNat = 64 - wdN (wayN d):=by
    rw [zBc (by omega) (by omega),show (64 : Int) - ((wdN (wayN d) : Nat) : Int) = ((64 - wdN (wayN d) : Nat) : Int) by omega,zDu (by omega)]
  have hx:=(zAe d).toNat_lt
  have e2 : (shr64 (shl64 (zAe d) (64 - wdN (wayN d))) (64 - wdN (wayN d))).toNat = (zAe d).toNat % 2 ^ wdN (wayN d):=by
    rw [zLo,zS5]
    have e3 : (18446744073709551616 : Nat) = 2 ^ wdN (wayN d) * 2 ^ (64 - wdN (wayN d)):=by rw [← Nat.pow_add,show wdN (wayN d) + (64 - wdN (wayN d)) = 64 by omega]
    rw [e3,Nat.mul_mod_mul_right,Nat.mul_div_cancel _ (Nat.two_pow_pos _)]
  have last : ∀ X : List Bool, X.length ≤ 7000000000 → ((zHg ).bind fun p26 =>
              (idx ([p26.a0,p26.a1,p26.a2,p26.a3,p26.a4] : List Int) ((wayN d : Nat) : Int)).bind fun z28=>
              (zAh (WrO X) (shr64 (shl64 (zAe d) ((zAe (W64 (64 - z28))).toNat)) ((zAe (W64 (64 - z28))).toNat)) z28).bind fun p29=>
              (zEa r (zAe v)).bind fun p5=>some (p29.2,p5)) = some (WrO (X ++ zGx (zAe d).toNat (wdN (wayN d))),zR5 r (zAe v)):=by
    intro X hX;rw [show zHg = some { a0:=0,a1:=6,a2:=10,a3:=16,a4:=64 } by rfl,zAn];dsimp only;rw [zal (by omega),zAn,e1,zJc (by omega) hwd (by rw [e2];exact Nat.mod_lt _ (Nat.two_pow_pos _)),zAn,e2,zRf];exact tail _
  by_cases h4 : wayN d < 4
  · rw [if_pos (by omega)]
    have p1 : zAh (WrO (M ++ List.replicate (wayN d) true)) 0 1 = some (true,WrO ((M ++ List.replicate (wayN d) true) ++ zGx (0 : UInt64).toNat 1)):=
      zJc (v:=0) (n:=1) (by rw [List.length_append,List.length_replicate];omega) (by omega) (by decide)
    rw [p1,zAn];have:=last ((M ++ List.replicate (wayN d) true) ++ zGx (0 : UInt64).toNat 1) (by rw [List.length_append,List.length_append,List.length_replicate,zBo];omega);refine this.trans ?_;unfold stB;rw [if_pos h4,show zGx (0 : UInt64).toNat 1 = [false] by rfl];simp only [List.append_assoc]
  · rw [if_neg (by omega)]
    refine (last _ (by rw [List.length_append,List.length_replicate];omega)).trans ?_;unfold stB;rw [if_neg h4];simp only [List.append_assoc,List.append_nil]
theorem zaf (d : Int) : zE6 d = some (zs (stB d)):=by
  unfold zE6 stB;have hw:=zSz d;have hwd:=zUy (wayN d);rw [zbn,zAn,zCc];obtain ⟨f,hf⟩:=zLk 6 (by omega);have on : ∀ (r i : Nat) (M : List Bool) (f : Nat) (j : List Int → Option (List Int)),i + r = wayN d → M.length + r ≤ 100 → r < f →
      zCd ((wayN d : Nat) : Int) j f (zs M) (i : Int) = j (zs (M ++ List.replicate r true)):=by
    intro r
    induction r with
    | zero=>
      intro i M f j hi hM hf;obtain ⟨f,rfl⟩ : ∃ k,f = k + 1:=⟨f - 1,by omega⟩;rw [zCd,if_neg (by omega)];simp
    | succ r ih=>
      intro i M f j hi hM hf;obtain ⟨f,rfl⟩ : ∃ k,f = k + 1:=⟨f - 1,by omega⟩
      rw [zCd,if_pos (by omega),zBp (by rw [zDm];simp;omega),zAn,zDj (by omega),show ([1] : List Int) = zs [true] by rfl,← zI7,
        ih (i + 1) (M ++ [true]) f j (by omega) (by rw [List.length_append];simp;omega) (by omega),List.append_assoc,List.replicate_succ];rfl
  have:=on (wayN d) 0 [] fuel;rw [List.nil_append] at this;refine (this _ (by omega) (by simp;omega) (by rw [hf];omega)).trans ?_;rw [zCc]
  have last : ∀ (X : List Bool) (u : UInt64), X.length ≤ 100 → u.toNat % 2 ^ wdN (wayN d) = (zAe d).toNat % 2 ^ wdN (wayN d) → ((zBr ((wayN d : Nat) : Int)).bind fun p13 =>
              (zAy u p13).bind fun p15=>
              (zDn (zs X) p15.1).bind fun z18=>
              some z18) = some (zs (X ++ zGx (zAe d).toNat (wdN (wayN d)))):=by
    intro X u hX hu;unfold zBr;rw [zal (by omega),zAn,zAn,zPz hwd,zAn,zBp (by rw [zDm,zDm,zBo];omega),zAn,← zRf u.toNat,hu,zRf,← zI7]
  have mid : ∀ X : List Bool, X.length ≤ 100 → (jn (fun (y11 : UInt64) =>
            ((zBr ((wayN d : Nat) : Int)).bind fun p13=>
              (zAy y11 p13).bind fun p15=>
              (zDn (zs X) p15.1).bind fun z18=>
              some z18)) fun j3=>
          if ((wayN d : Nat) : Int) < 4 then
          ((zBr ((wayN d : Nat) : Int)).bind fun p21=>
            (zCu p21).bind fun p23=>
            (rem64 (zAe d) p23).bind fun z25=>
            j3 z25)
          else
          (j3 (zAe d))) = some (zs (X ++ zGx (zAe d).toNat (wdN (wayN d)))):=by
    intro X hX;rw [zCc]
    by_cases h4 : wayN d < 4
    · have h16 : wdN (wayN d) ≤ 16:=by
        rcases (show wayN d = 0 ∨ wayN d = 1 ∨ wayN d = 2 ∨ wayN d = 3 by omega) with h|h|h|h<;>rw [h]<;>decide
      have hp : 2 ^ wdN (wayN d) ≤ 2 ^ 16:=Nat.pow_le_pow_right (by omega) h16;have hp0:=Nat.two_pow_pos (wdN (wayN d));have hpn : (UInt64.ofNat (2 ^ wdN (wayN d))).toNat = 2 ^ wdN (wayN d):=zF8 (by omega);rw [if_pos (by omega)]
      have hr : rem64 (zAe d) (UInt64.ofNat (2 ^ wdN (wayN d))) = some (zAe d % UInt64.ofNat (2 ^ wdN (wayN d))):=by
        unfold rem64;rw [if_neg];intro hh;rw [hh] at hpn;have : (0 : UInt64).toNat = 0:=rfl;omega
      conv=>lhs;unfold zBr
      rw [zal (by omega),zAn,zAn,zRj (by omega),zAn,hr,zAn];have:=last X (zAe d % UInt64.ofNat (2 ^ wdN (wayN d))) hX (by rw [UInt64.toNat_mod,hpn,Nat.mod_mod]);unfold zBr at this;rw [zal (by omega),zAn] at this;exact this
    · rw [if_neg (by omega)]
      exact last X (zAe d) hX rfl
  by_cases h4 : wayN d < 4
  · rw [if_pos (by omega),if_pos h4,zBp (by rw [zDm];simp;omega),zAn,show ([0] : List Int) = zs [false] by rfl,← zI7]
    exact mid _ (by rw [List.length_append,List.length_replicate];simp;omega)
  · rw [if_neg (by omega),if_neg h4,List.append_nil]
    exact mid _ (by rw [List.length_replicate];omega)
end Go.Proofs.YthjhejgjcdajdaaGreatDoor
set_option maxRecDepth 20000
set_option linter.unusedVariables false
set_option linter.unusedSimpArgs false
namespace Go.Proofs.YthjhejgjcdajdaaGreatDoor
open Go Go.RowKit Go.Wk
end Go.Proofs.YthjhejgjcdajdaaGreatDoor
set_option maxRecDepth 20000
namespace Go.Proofs.YthjhejgjcdajdaaGreatDoor
open Go Go.RowKit Go.Wk
end Go.Proofs.YthjhejgjcdajdaaGreatDoor
set_option maxRecDepth 20000
namespace Go.Proofs.YthjhejgjcdajdaaGreatDoor
open Go Go.RowKit Go.Wk
theorem ofN (u : UInt64) : UInt64.ofNat u.toNat = u:=by simp
def zLf : zA5 → List Int → List Bool
  | _,[]=>[]
  | r,v :: t=>zRk r v ++ zLf (zR5 r (zAe v)) t
theorem zSa (xs : List Int) (v : Int) : ∀ r : zA5,zLf r (xs ++ [v]) = zLf r xs ++ zRk (xs.foldl (fun r v=>zR5 r (zAe v)) r) v:=by
  induction xs with
  | nil=>intro r;simp [zLf]
  | cons x t ih=>intro r;rw [List.cons_append,zLf,ih,zLf,List.append_assoc];rfl
abbrev zYz (xs : List Int) : List Bool:=zLf ⟨0,0,0⟩ xs
theorem zSt (xs : List Int) (v : Int) : zYz (xs ++ [v]) = zYz xs ++ zRk (zIr xs) v:=zSa xs v _
theorem zWl (xs : List Int) : (zYz xs).length ≤ 69 * xs.length:=by
  have key : ∀ (xs : List Int) (r : zA5),(zLf r xs).length ≤ 69 * xs.length:=by
    intro xs
    induction xs with
    | nil=>intro r;simp [zLf]
    | cons v t ih=>intro r;have h1:=ih (zR5 r (zAe v));have h2:=zJo r v;rw [zLf,List.length_append,List.length_cons];omega
  exact key xs _
theorem zZ {xs : List Int} (hx : xs.length ≤ 10000000) (hi : ∀ x ∈ xs,okI x) : zEj xs = some (zs (zYz xs)):=by
  unfold zEj;rw [zCc,zJv _ _ _ (by omega)];refine zLq (fun p s=>s = zs (zYz p)) (fun _ _ _=>some (zs (zYz xs))) rfl (fun s hs=>by rw [hs]) ?_;intro p x q s k hp hs hk;subst hs;have hl:=congrArg List.length hp;simp only [List.length_append,List.length_cons] at hl;have hox : okI x:=hi x (by rw [← hp];simp);have hle:=zWl p;have hn:=zVf p;have fin : k (zs (zYz p ++ zRk (zIr p) x)) = some (zs (zYz xs)):=hk _ (by rw [zSt]);rw [zCc]
  by_cases h0 : p.length = 0
  · obtain rfl : p = []:=List.eq_nil_of_length_eq_zero h0
    have hnx : zRk (zIr []) x = smB (zig x).toNat:=rfl;have hs:=zLn (zig x).toNat
    have i0 : idx xs 0 = some x:=by rw [← hp];rfl
    rw [if_pos (by rfl),i0,zAn,zU7 hox,zAn,zNq,zAn,zBp (by rw [zDm,zDm];omega),zAn,← zI7,← hnx];exact fin
  rw [if_neg (by omega)]
  by_cases h1 : p.length = 1
  · obtain ⟨y,rfl⟩ : ∃ y,p = [y]:=List.length_eq_one_iff.1 h1
    have hnx : zRk (zIr [y]) x = smB (zig (sI (zAe x - zAe y))).toNat:=rfl;have hs:=zLn (zig (sI (zAe x - zAe y))).toNat
    have i1 : idx xs 1 = some x:=by rw [← hp];rfl
    have i0 : idx xs 0 = some y:=by rw [← hp];rfl
    rw [if_pos (by rfl),i1,zAn,i0,zAn,zUa,zU7 (zX6 _),zAn,zNq,zAn,zBp (by rw [zDm,zDm];omega),zAn,← zI7,← hnx];exact fin
  rw [if_neg (by omega)]
  obtain ⟨t,u,v,rfl⟩ : ∃ t u v,p = t ++ [u] ++ [v]:=by
    have hne : p ≠ []:=by intro h;subst h;simp at h0
    have e1:=List.dropLast_concat_getLast hne
    have hne2 : p.dropLast ≠ []:=by intro h;have:=congrArg List.length h;simp at this;omega
    have e2:=List.dropLast_concat_getLast hne2;exact ⟨_,_,_,by rw [e2,e1]⟩
  have hlen : (t ++ [u] ++ [v]).length = t.length + 2:=by simp
  have i1 : idx xs (W64 (((t ++ [u] ++ [v]).length : Int) - 1)) = some v:=by
    rw [hlen,zBc (by omega) (by omega),show ((t.length + 2 : Nat) : Int) - 1 = (((t ++ [u]).length : Nat) : Int) by simp;omega,← hp,List.append_assoc (t ++ [u])];exact zKt _ _ _
  have i2 : idx xs (W64 (((t ++ [u] ++ [v]).length : Int) - 2)) = some u:=by
    rw [hlen,zBc (by omega) (by omega),show ((t.length + 2 : Nat) : Int) - 2 = ((t.length : Nat) : Int) by omega,← hp,List.append_assoc,List.append_assoc];exact zKt _ _ _
  have e : (zAe x - 2 * zAe v) + zAe u = zAe x - (zIr (t ++ [u] ++ [v])).last - (zIr (t ++ [u] ++ [v])).step:=by
    rw [zS9,zVe]
    apply UInt64.toNat_inj.1
    have h1:=(zAe x).toNat_lt;have h2:=(zAe u).toNat_lt;have h3:=(zAe v).toNat_lt;simp only [UInt64.toNat_add,UInt64.toNat_sub,UInt64.toNat_mul,show (2 : UInt64).toNat = 2 by rfl];omega
  have hnx : zRk (zIr (t ++ [u] ++ [v])) x = stB (sI ((zAe x - 2 * zAe v) + zAe u)):=by
    unfold zRk;rw [if_neg (by rw [hn];omega),if_neg (by rw [hn];omega),e]
  have hs:=zYh (sI ((zAe x - 2 * zAe v) + zAe u));rw [zAn,i1,zAn,i2,zAn,zUa,zaf,zAn,zBp (by rw [zDm,zDm];omega),zAn,← zI7,← hnx];exact fin
theorem zRl {xs : List Int} {v : Int} (hx : xs.length ≤ 1000000) (hi : ∀ x ∈ xs,okI x) (hv : okI v) : zBn xs v = some (zs (zRk (zIr xs) v)):=by
  unfold zBn;have h2:=zWl (xs ++ [v])
  rw [zZ (by omega) hi,zAn,zBp (by simp;omega),zAn,List.nil_append,zBp (by simp;omega),zAn,
    zZ (by simp;omega) (by intro x hx';exact (List.mem_append.1 hx').elim (hi x) (fun h=>by rw [List.mem_singleton.1 h];exact hv)),zAn,zSt,zI7,zW7,zAn]
end Go.Proofs.YthjhejgjcdajdaaGreatDoor
set_option maxRecDepth 20000
set_option linter.unusedVariables false
set_option linter.unusedSimpArgs false
namespace Go.Proofs.YthjhejgjcdajdaaGreatDoor
open Go Go.RowKit Go.Wk
theorem zOg : ∀ (k x : Nat),0 < x → x < 2 ^ k → ∃ t q,t < k ∧ x = 2 ^ t * (2 * q + 1)
  | 0,x,h0,h1=>by simp at h1;omega
  | k + 1,x,h0,h1=>by
    rcases Nat.mod_two_eq_zero_or_one x with h|h
    · obtain ⟨t,q,h2,h3⟩:=zOg k (x / 2) (by omega) (by rw [Nat.pow_succ] at h1;omega)
      exact ⟨t + 1,q,by omega,by rw [Nat.pow_succ,Nat.mul_assoc,Nat.mul_left_comm,← h3];omega⟩
    · exact ⟨0,x / 2,by omega,by simp;omega⟩
theorem zaa {t q : Nat} (ht : t < 64) (hx : 2 ^ t * (2 * q + 1) < 2 ^ 64) : (2 ^ t * (2 * q + 1)) &&& (2 ^ 64 - 2 ^ t * (2 * q + 1)) = 2 ^ t:=by
  have hp:=Nat.two_pow_pos t;have hpos : 0 < 2 ^ t * (2 * q + 1):=Nat.mul_pos hp (by omega)
  have e1 : 2 ^ 64 - 2 ^ t * (2 * q + 1) = 2 ^ 64 - ((2 ^ t * (2 * q + 1) - 1) + 1):=by omega
  have e2 : 2 ^ t * (2 * q + 1) - 1 = 2 ^ t * (2 * q) + (2 ^ t - 1):=by rw [Nat.mul_add,Nat.mul_one];omega
  apply Nat.eq_of_testBit_eq
  intro i;rw [Nat.testBit_and,e1,Nat.testBit_two_pow_sub_succ (by omega),e2,Nat.testBit_two_pow_mul_add _ (by omega),Nat.testBit_two_pow_mul,Nat.testBit_two_pow]
  by_cases h1 : i < t
  · simp [h1,show ¬ t ≤ i by omega,show ¬ t = i by omega]
  · have h2 : t ≤ i:=by omega
    by_cases h3 : i = t
    · subst h3;simp [ht]
    · have e3 : (2 * q + 1).testBit (i - t) = (2 * q).testBit (i - t):=by
        obtain ⟨j,hj⟩ : ∃ j,i - t = j + 1:=⟨i - t - 1,by omega⟩;rw [hj,Nat.testBit_succ,Nat.testBit_succ];congr 1;omega
      rw [e3];simp [h1,h2,show ¬ t = i by omega];intro a b;simp [a]
theorem zav : ∀ t,t < 64 → idx gt3 ((((UInt64.ofNat (2 ^ t)) * (285870213051353865 : UInt64)) >>> UInt64.ofNat 58).toNat : Int) = some (UInt8.ofNat t):=by decide +kernel
theorem zaw {x : UInt64} {t q : Nat} (ht : t < 64) (hx : x.toNat = 2 ^ t * (2 * q + 1)) : zD4 x = some ((t : Nat) : Int):=by
  have hlt:=x.toNat_lt;have hp:=Nat.two_pow_pos t;have hpos : 0 < 2 ^ t * (2 * q + 1):=Nat.mul_pos hp (by omega);unfold zD4
  have e : x &&& (0 - x) = UInt64.ofNat (2 ^ t):=by
    apply UInt64.toNat_inj.1
    have h2 : 2 ^ t < 2 ^ 64:=Nat.pow_lt_pow_right (by omega) ht;rw [UInt64.toNat_and,zF8 (by omega),UInt64.toNat_sub,show (0 : UInt64).toNat = 0 by rfl,Nat.add_zero,Nat.mod_eq_of_lt (by omega),hx,zaa ht (by omega)]
  rw [if_neg (by omega),e,zav t ht,zAn,UInt8.toNat_ofNat',Nat.mod_eq_of_lt (by omega)]
theorem zba (x : UInt64) : zDe x = some ((64 - bl x.toNat : Nat) : Int):=by
  unfold zDe;have:=zQt (n:=x.toNat) (k:=64) (by have:=x.toNat_lt;omega);rw [zTy,zAn,zBc (by omega) (by omega)];congr 1;omega
def inW (a s x : Nat) : Prop:=x < 2 ^ (64 - a) ∧ x % 2 ^ (64 - a - s) = 0
instance (a s x : Nat) : Decidable (inW a s x):=by unfold inW;exact inferInstance
structure zP3 where
  a : Nat
  s : Nat
deriving DecidableEq
abbrev zai (w : zP3) : zBb:=⟨(w.a : Int),(w.s : Int)⟩
abbrev zar (w : zP3) : zAj:=⟨(w.a : Int),(w.s : Int)⟩
def zP3.ok (w : zP3) : Prop:=(w.a = 0 ∧ w.s = 0) ∨ (w.a ≤ 31 ∧ 0 < w.s ∧ w.a + w.s ≤ 64)
theorem zXq {w : zP3} (hw : w.ok) {x : UInt64} (hx : x.toNat ≠ 0) : zFv (zai w) x = some (decide (0 < w.s ∧ inW w.a w.s x.toNat)):=by
  have hlt:=x.toNat_lt;unfold zFv zCj;obtain ⟨t,q,ht,hq⟩:=zOg 64 x.toNat (by omega) hlt
  by_cases h0 : w.s = 0
  · have ha : w.a = 0:=by rcases hw with h | h<;>omega
    rw [if_neg (by simp [h0,ha]),decide_eq_false (by omega)]
  have hw2 : w.a ≤ 31 ∧ 0 < w.s ∧ w.a + w.s ≤ 64:=by rcases hw with h | h<;>omega
  rw [if_pos (by intro h;have:=congrArg zBb.size h;simp at this;omega),zba,zAn];have hbl:=zQt (n:=x.toNat) (k:=64) (by omega)
  have e1 : ((64 - bl x.toNat : Nat) : Int) ≥ (w.a : Int) ↔ x.toNat < 2 ^ (64 - w.a):=by
    constructor
    · intro h
      have h1:=zRu x.toNat;have h2 : 2 ^ bl x.toNat ≤ 2 ^ (64 - w.a):=Nat.pow_le_pow_right (by omega) (by omega)
      omega
    · intro h;have:=zQt h;omega
  have e2 : ∀ b,b ≤ 64 → (x.toNat % 2 ^ b = 0 ↔ b ≤ t):=by
    intro b hb
    constructor
    · intro h
      rcases Nat.lt_or_ge t b with h1|h1
      · exfalso
        obtain ⟨c,rfl⟩ : ∃ c,b = t + (c + 1):=⟨b - t - 1,by omega⟩;rw [hq,Nat.pow_add,Nat.mul_mod_mul_left] at h;have hp:=Nat.two_pow_pos t
        have h2 : (2 * q + 1) % 2 ^ (c + 1) = 0:=by
          rcases Nat.mul_eq_zero.1 h with h|h
          · omega
          · exact h
        have h3 : (2 * q + 1) % 2 ^ (c + 1) % 2 = 1:=by
          rw [Nat.mod_mod_of_dvd _ (show 2 ∣ 2 ^ (c + 1) from ⟨2 ^ c,by rw [Nat.pow_succ,Nat.mul_comm]⟩)];omega
        rw [h2] at h3;simp at h3
      · exact h1
    · intro h
      obtain ⟨c,rfl⟩ : ∃ c,t = b + c:=⟨t - b,by omega⟩;rw [hq,Nat.pow_add,Nat.mul_assoc,Nat.mul_mod_right]
  by_cases h1 : x.toNat < 2 ^ (64 - w.a)
  · rw [if_pos (e1.2 h1),zaw ht hq,zAn,zAn]
    dsimp only;have e3 : W64 (64 - (w.a : Int)) = 64 - w.a:=zBc (by omega) (by omega);rw [e3,zBc (by omega) (by omega)]
    congr 1
    rw [decide_eq_decide];have:=e2 (64 - w.a - w.s) (by omega);unfold inW;rw [this];omega
  · rw [if_neg (fun h=>h1 (e1.1 h)),decide_eq_false];intro h;exact h1 h.2.1
def arW (x : Nat) : zP3:=⟨min (64 - bl x) 31,64 - min (64 - bl x) 31 - tzB 64 x⟩
where tzB : Nat → Nat → Nat
  | 0,_=>0
  | k + 1,x=>if x % 2 = 1 then 0 else tzB k (x / 2) + 1
theorem zTh {q : Nat} : ∀ (t k : Nat),t < k → arW.tzB k (2 ^ t * (2 * q + 1)) = t
  | 0,k,h=>by
    obtain ⟨k,rfl⟩ : ∃ m,k = m + 1:=⟨k - 1,by omega⟩;rw [arW.tzB,if_pos (by rw [Nat.pow_zero];omega)]
  | t + 1,k,h=>by
    obtain ⟨k,rfl⟩ : ∃ m,k = m + 1:=⟨k - 1,by omega⟩
    have e : 2 ^ (t + 1) * (2 * q + 1) = 2 * (2 ^ t * (2 * q + 1)):=by rw [Nat.pow_succ',Nat.mul_assoc]
    rw [arW.tzB,e,if_neg (by omega),show 2 * (2 ^ t * (2 * q + 1)) / 2 = 2 ^ t * (2 * q + 1) by omega,zTh t k (by omega)]
theorem zWh {x : UInt64} (hx : x.toNat ≠ 0) : zJd x = some (zai (arW x.toNat)):=by
  have hlt:=x.toNat_lt;obtain ⟨t,q,ht,hq⟩:=zOg 64 x.toNat (by omega) hlt;have hbl:=zQt (n:=x.toNat) (k:=64) (by omega)
  have htb : t < bl x.toNat:=by
    rcases Nat.lt_or_ge t (bl x.toNat) with h|h
    · exact h
    · have h1:=zRu x.toNat
      have h2 : 2 ^ bl x.toNat ≤ 2 ^ t:=Nat.pow_le_pow_right (by omega) h;have h3 : 2 ^ t * 1 ≤ 2 ^ t * (2 * q + 1):=Nat.mul_le_mul_left _ (by omega)
      omega
  unfold zJd;rw [zba,zAn,zaw ht hq,zAn];unfold arW
  have e1 : arW.tzB 64 x.toNat = t:=by rw [hq];exact zTh t 64 ht
  rw [e1]
  have e2 : min ((64 - bl x.toNat : Nat) : Int) 31 = ((min (64 - bl x.toNat) 31 : Nat) : Int):=by omega
  have e3 : W64 (64 - ((min (64 - bl x.toNat) 31 : Nat) : Int)) = 64 - ((min (64 - bl x.toNat) 31 : Nat) : Int):=zBc (by omega) (by omega);rw [e2,e3,zBc (by omega) (by omega)]
  congr 2;dsimp only;omega
theorem zU6 {x : Nat} (h0 : x ≠ 0) (hx : x < 2 ^ 64) : (arW x).a ≤ 31 ∧ 0 < (arW x).s ∧ (arW x).a + (arW x).s ≤ 64 ∧ inW (arW x).a (arW x).s x:=by
  obtain ⟨t,q,ht,hq⟩:=zOg 64 x (by omega) hx;have hbl:=zQt (n:=x) (k:=64) hx;have h1:=zRu x
  have htb : t < bl x:=by
    rcases Nat.lt_or_ge t (bl x) with h|h
    · exact h
    · have h2 : 2 ^ bl x ≤ 2 ^ t:=Nat.pow_le_pow_right (by omega) h
      have h3 : 2 ^ t * 1 ≤ 2 ^ t * (2 * q + 1):=Nat.mul_le_mul_left _ (by omega)
      omega
  have e1 : arW.tzB 64 x = t:=by rw [hq];exact zTh t 64 ht
  unfold inW arW;rw [e1];dsimp only;refine ⟨by omega,by omega,by omega,?_,?_⟩
  · have h2 : 2 ^ bl x ≤ 2 ^ (64 - min (64 - bl x) 31):=Nat.pow_le_pow_right (by omega) (by omega)
    omega
  · rw [show 64 - min (64 - bl x) 31 - (64 - min (64 - bl x) 31 - t) = t by omega,hq,Nat.mul_mod_right]
end Go.Proofs.YthjhejgjcdajdaaGreatDoor
set_option maxRecDepth 20000
set_option linter.unusedVariables false
set_option linter.unusedSimpArgs false
namespace Go.Proofs.YthjhejgjcdajdaaGreatDoor
open Go Go.RowKit Go.Wk
theorem zRg : ∀ (n v i : Nat),i < n → (zGx v n)[i]? = some (v.testBit (n - 1 - i))
  | 0,v,i,h=>by omega
  | n + 1,v,i,h=>by
    rw [zGx]
    by_cases h1 : i < n
    · rw [List.getElem?_append_left (by rw [zBo];exact h1),zRg n (v / 2) i h1]
      rw [show n + 1 - 1 - i = (n - 1 - i) + 1 by omega,Nat.testBit_succ]
    · obtain rfl : i = n:=by omega
      rw [List.getElem?_append_right (by rw [zBo];exact Nat.le_refl _),zBo,Nat.sub_self,show i + 1 - 1 - i = 0 by omega,Nat.testBit_zero]
      rcases Nat.mod_two_eq_zero_or_one v with h|h<;>simp [h]
theorem tb (x i : Nat) : x.testBit i = decide (x / 2 ^ i % 2 = 1):=Nat.testBit_eq_decide_div_mod_eq
def xB (n : Nat) (last v : UInt64) (w : zP3) : List Bool × zP3:=
  if n = 0 then (zGx v.toNat 64,w)
  else if (v ^^^ last).toNat = 0 then ([false],w)
  else if 0 < w.s ∧ inW w.a w.s (v ^^^ last).toNat then ([true,false] ++ zGx ((v ^^^ last).toNat / 2 ^ (64 - w.a - w.s)) w.s,w)
  else ([true,true] ++ (zGx (arW (v ^^^ last).toNat).a 5 ++ (zGx ((arW (v ^^^ last).toNat).s - 1) 6 ++ zGx ((v ^^^ last).toNat / 2 ^ (64 - (arW (v ^^^ last).toNat).a - (arW (v ^^^ last).toNat).s)) (arW (v ^^^ last).toNat).s)),arW (v ^^^ last).toNat)
theorem xB_ok {n : Nat} {last v : UInt64} {w : zP3} (hw : w.ok) : (xB n last v w).2.ok:=by
  unfold xB
  split
  · exact hw
  · split
    · exact hw
    · rename_i h
      split
      · exact hw
      · have:=zU6 h (by have:=(v ^^^ last).toNat_lt;omega);exact .inr ⟨this.1,this.2.1,this.2.2.1⟩
theorem zUv (n : Nat) (last v : UInt64) {w : zP3} (hw : w.ok) : (xB n last v w).1.length ≤ 77 ∧ 0 < (xB n last v w).1.length:=by
  unfold xB
  split
  · simp [zBo]
  · split
    · simp
    · rename_i h
      split
      · simp [zBo];rcases hw with h | h<;>omega
      · have:=zU6 h (by have:=(v ^^^ last).toNat_lt;omega)
        generalize (v ^^^ last).toNat = x at *;simp [zBo];omega
theorem zYt {a s x : Nat} (h : inW a s x) (ha : a + s ≤ 64) : x / 2 ^ (64 - a - s) < 2 ^ s:=by
  have e : 2 ^ (64 - a) = 2 ^ (64 - a - s) * 2 ^ s:=by rw [← Nat.pow_add];congr 1;omega
  exact Nat.div_lt_of_lt_mul (by rw [← e];exact h.1)
theorem zSs {w : zP3} (h : w.a + w.s ≤ 64) : zCj (zai w) = some ((64 - w.a - w.s : Nat) : Int):=by
  unfold zCj;dsimp only;have e3 : W64 (64 - (w.a : Int)) = 64 - w.a:=zBc (by omega) (by omega);rw [e3,zBc (by omega) (by omega)];congr 1;omega
theorem zZ0 {M : List Bool} {n : Nat} {last v : UInt64} {w : zP3} (hw : w.ok) (hn : n ≤ 1000000000) (hM : M.length ≤ 6000000000) :
    zEb ⟨(n : Int),last,zai w⟩ (WrO M) v = some (WrO (M ++ (xB n last v w).1),⟨((n + 1 : Nat) : Int),v,zai (xB n last v w).2⟩):=by
  unfold zEb xB;have hx:=(v ^^^ last).toNat_lt;rw [zCc];dsimp only;have e1 : W64 ((n : Int) + 1) = ((n + 1 : Nat) : Int):=zDj (by omega)
  by_cases h0 : n = 0
  · have p : zAh (WrO M) v 64 = _:=zJc (M:=M) (v:=v) (n:=64) (by omega) (by omega) (by have:=v.toNat_lt;omega)
    rw [if_pos (show (n : Int) = 0 by omega),if_pos h0,p,zAn,e1]
  rw [if_neg (show ¬ (n : Int) = 0 by omega),if_neg h0]
  by_cases h1 : (v ^^^ last).toNat = 0
  · have p : zAh (WrO M) 0 1 = _:=zJc (M:=M) (v:=0) (n:=1) (by omega) (by omega) (by decide)
    rw [if_pos (show (((v ^^^ last).toNat : Nat) : Int) = 0 by omega),if_pos h1,p,zAn,e1];rfl
  rw [if_neg (show ¬ (((v ^^^ last).toNat : Nat) : Int) = 0 by omega),if_neg h1,zXq hw h1,zAn]
  by_cases h2 : 0 < w.s ∧ inW w.a w.s (v ^^^ last).toNat
  · have hw2 : w.a + w.s ≤ 64:=by rcases hw with h | h<;>omega
    have p : zAh (WrO M) 2 2 = _:=zJc (M:=M) (v:=2) (n:=2) (by omega) (by omega) (by decide)
    have es : (shr64 (v ^^^ last) ((zAe ((64 - w.a - w.s : Nat) : Int)).toNat)).toNat = (v ^^^ last).toNat / 2 ^ (64 - w.a - w.s):=by rw [zDu (by omega),zLo]
    rw [decide_eq_true h2,if_pos rfl,if_pos h2,p,zAn,zSs hw2,zAn];dsimp only;rw [zJc (by rw [List.length_append,zBo];omega) (by omega) (by rw [es];exact zYt h2.2 hw2),zAn,es,List.append_assoc,e1];rfl
  · rw [decide_eq_false h2,if_neg (by simp),if_neg h2,zWh h1,zAn]
    obtain ⟨ha,hs,has,hin⟩:=zU6 h1 (by omega);generalize hu : arW (v ^^^ last).toNat = u at *;have p : zAh (WrO M) 3 2 = _:=zJc (M:=M) (v:=3) (n:=2) (by omega) (by omega) (by decide);have ea : (zAe ((u.a : Nat) : Int)).toNat = u.a:=zDu (by omega)
    have eb : (zAe (W64 (((u.s : Nat) : Int) - 1))).toNat = u.s - 1:=by
      rw [zBc (by omega) (by omega),show ((u.s : Nat) : Int) - 1 = ((u.s - 1 : Nat) : Int) by omega,zDu (by omega)]
    have es : (shr64 (v ^^^ last) ((zAe ((64 - u.a - u.s : Nat) : Int)).toNat)).toNat = (v ^^^ last).toNat / 2 ^ (64 - u.a - u.s):=by rw [zDu (by omega),zLo]
    have p5 : ∀ X : List Bool,X.length ≤ 7000000000 → zAh (WrO X) (zAe ((u.a : Nat) : Int)) 5 = some (true,WrO (X ++ zGx u.a 5)):=fun X hX=>by
      have : zAh (WrO X) (zAe ((u.a : Nat) : Int)) 5 = _:=zJc (n:=5) (by omega) (by omega) (by rw [ea];omega);rw [ea] at this;exact this
    have p6 : ∀ X : List Bool,X.length ≤ 7000000000 → zAh (WrO X) (zAe (W64 (((u.s : Nat) : Int) - 1))) 6 = some (true,WrO (X ++ zGx (u.s - 1) 6)):=fun X hX=>by
      have : zAh (WrO X) (zAe (W64 (((u.s : Nat) : Int) - 1))) 6 = _:=zJc (n:=6) (by omega) (by omega) (by rw [eb];omega);rw [eb] at this;exact this
    rw [p,zAn];dsimp only;rw [p5 _ (by rw [List.length_append,zBo];omega),zAn];dsimp only;rw [p6 _ (by rw [List.length_append,List.length_append,zBo,zBo];omega),zAn,zSs has,zAn];dsimp only;rw [zJc (by simp only [List.length_append,zBo];omega) (by omega) (by rw [es];exact zYt hin has),zAn,es,e1];simp only [List.append_assoc];rfl
abbrev XR (L : List UInt64) (w : zP3) : zAc:=⟨L,zar w⟩
def zK7 (L : List UInt64) : UInt64:=L.getLastD 0
theorem zR9 {L : List UInt64} (v : UInt64) (w : zAj) (s : zAc) (hs : s.L = L) (h : L.length ≤ 10000000) : zD0 s v w = some ⟨L ++ [v],w⟩:=by
  unfold zD0;rw [hs,zBp (by simp;omega),zAn,List.nil_append,zBp (by simp;omega),zAn]
theorem zXb {L : List UInt64} {w : zAj} (h : L.length ≤ 10000000) : zE4 ⟨L,w⟩ = some (zK7 L):=by
  unfold zE4 zK7
  by_cases h0 : L = []
  · subst h0;rfl
  · obtain ⟨t,x,rfl⟩ : ∃ t x,L = t ++ [x]:=⟨_,_,(List.dropLast_concat_getLast h0).symm⟩
    have hl : (t ++ [x]).length = t.length + 1:=by simp
    dsimp only;rw [if_neg (by rw [hl];omega),hl,zBc (by omega) (by omega),show ((t.length + 1 : Nat) : Int) - 1 = ((t.length : Nat) : Int) by omega,zKt,zAn];simp
theorem zVb (v : UInt64) : zEi v = some (zs (zGx v.toNat 64)):=by
  unfold zEi;have : zAy v 64 = _:=zPz (v:=v) (n:=64) (by omega);rw [this,zAn]
def Pin (x : Nat) (w : zP3) (i : Nat) : Prop:=∀ k,i ≤ k → k < 64 → x.testBit (63 - k) = true → w.a ≤ k ∧ k < w.a + w.s
theorem zYd {x : Nat} {w : zP3} {i : Nat} (hi : i < 64) : Pin x w i ↔ (x.testBit (63 - i) = true → w.a ≤ i ∧ i < w.a + w.s) ∧ Pin x w (i + 1):=by
  constructor
  · intro h;exact ⟨fun hb=>h i (Nat.le_refl _) hi hb,fun k h1 h2 h3=>h k (by omega) h2 h3⟩
  · intro ⟨h1,h2⟩ k hk1 hk2 hk3
    by_cases hk : k = i
    · subst hk;exact h1 hk3
    · exact h2 k (by omega) hk2 hk3
theorem zWr {x : Nat} (hx : x < 2 ^ 64) {w : zP3} : Pin x w 0 ↔ inW w.a w.s x:=by
  unfold inW
  constructor
  · intro h
    constructor
    · apply Nat.lt_pow_two_of_testBit
      intro i hi
      rcases Nat.lt_or_ge i 64 with h1|h1
      · cases hb : x.testBit i with
        | false=>rfl
        | true=>have:=h (63 - i) (by omega) (by omega) (by rw [show 63 - (63 - i) = i by omega];exact hb);omega
      · exact Nat.testBit_lt_two_pow (Nat.lt_of_lt_of_le hx (Nat.pow_le_pow_right (by omega) h1))
    · apply Nat.eq_of_testBit_eq
      intro i;rw [Nat.testBit_mod_two_pow,Nat.zero_testBit]
      by_cases h1 : i < 64 - w.a - w.s
      · cases hb : x.testBit i with
        | false=>simp
        | true=>have:=h (63 - i) (by omega) (by omega) (by rw [show 63 - (63 - i) = i by omega];exact hb);omega
      · simp [h1]
  · intro ⟨h1,h2⟩ k _ hk hb
    constructor
    · rcases Nat.lt_or_ge k w.a with h | h
      · rw [Nat.testBit_lt_two_pow (Nat.lt_of_lt_of_le h1 (Nat.pow_le_pow_right (by omega) (by omega)))] at hb;cases hb
      · exact h
    · rcases Nat.lt_or_ge k (w.a + w.s) with h | h
      · exact h
      · have:=Nat.testBit_mod_two_pow x (64 - w.a - w.s) (63 - k)
        rw [h2,Nat.zero_testBit,hb,decide_eq_true (by omega)] at this
        cases this
theorem zZq {x : Nat} {w : zP3} (hw : w.a + w.s ≤ 64) (j : Unit → Option Bool) : ∀ (r i f : Nat),i + r = 64 → r < f →
    (Pin x w i → zCb (zs (zGx x 64)) (zar w) j f (i : Int) = j ()) ∧ (¬ Pin x w i → zCb (zs (zGx x 64)) (zar w) j f (i : Int) = some false):=by
  intro r
  induction r with
  | zero=>
    intro i f hi hf;obtain ⟨f,rfl⟩ : ∃ k,f = k + 1:=⟨f - 1,by omega⟩;rw [zCb,if_neg (by omega)];exact ⟨fun _=>rfl,fun h=>(h fun k h1 h2=>by omega).elim⟩
  | succ r ih=>
    intro i f hi hf;obtain ⟨f,rfl⟩ : ∃ k,f = k + 1:=⟨f - 1,by omega⟩
    have hz : idx (zs (zGx x 64)) (i : Int) = some (biZ (x.testBit (63 - i))):=by
      rw [zO9,zs,List.getElem?_map,zRg 64 x i (by omega)];rfl
    rw [zCb,if_pos (by omega),hz,zAn];simp only [zCc]
    have ew : W64 ((w.a : Int) + (w.s : Int)) = ((w.a + w.s : Nat) : Int):=by rw [zBc (by omega) (by omega)];omega
    rw [zDj (by omega),ew];obtain ⟨n1,n2⟩:=ih (i + 1) f (by omega) (by omega);have hst:=zYd (x:=x) (w:=w) (i:=i) (by omega)
    cases hb : x.testBit (63 - i) with
    | false=>
      rw [hb] at hst;rw [if_neg (by decide)];simp only [Bool.false_eq_true,if_false];exact ⟨fun h=>n1 (hst.1 h).2,fun h=>n2 fun hh=>h (hst.2 ⟨(fun h=>by cases h),hh⟩)⟩
    | true=>
      rw [hb] at hst;rw [if_pos (by decide)]
      by_cases hin : w.a ≤ i ∧ i < w.a + w.s
      · rw [if_neg (show ¬ (i : Int) < (w.a : Int) by omega),decide_eq_false (show ¬ (i : Int) ≥ ((w.a + w.s : Nat) : Int) by omega)]
        simp only [Bool.false_eq_true,if_false];exact ⟨fun h=>n1 (hst.1 h).2,fun h=>n2 fun hh=>h (hst.2 ⟨fun _=>hin,hh⟩)⟩
      · refine ⟨fun h=>(hin ((hst.1 h).1 rfl)).elim,fun _=>?_⟩
        by_cases h1 : (i : Int) < (w.a : Int)
        · rw [if_pos h1];rfl
        · rw [if_neg h1,decide_eq_true (show (i : Int) ≥ ((w.a + w.s : Nat) : Int) by omega)];rfl
theorem in_eq {x : Nat} (hx : x < 2 ^ 64) {w : zP3} (hw : w.a + w.s ≤ 64) : zGb (zs (zGx x 64)) (zar w) = some (decide (0 < w.s ∧ inW w.a w.s x)):=by
  unfold zGb;rw [zCc];obtain ⟨f,hf⟩:=zLk 65 (by omega);obtain ⟨n1,n2⟩:=zZq (x:=x) hw (fun _=>some (decide ((w.s : Int) > 0))) 64 0 fuel (by omega) (by rw [hf];omega)
  by_cases h : inW w.a w.s x
  · refine (n1 ((zWr hx).2 h)).trans ?_
    congr 1
    rw [decide_eq_decide];exact ⟨fun hh=>⟨by omega,h⟩,fun hh=>by have:=hh.1;omega⟩
  · refine (n2 fun hh=>h ((zWr hx).1 hh)).trans ?_
    rw [decide_eq_false fun hh=>h hh.2]
end Go.Proofs.YthjhejgjcdajdaaGreatDoor
set_option maxRecDepth 20000
set_option linter.unusedVariables false
set_option linter.unusedSimpArgs false
namespace Go.Proofs.YthjhejgjcdajdaaGreatDoor
open Go Go.RowKit Go.Wk
theorem zVs {x : Nat} (h0 : x ≠ 0) : x.testBit (bl x - 1) = true ∧ ∀ j,bl x ≤ j → x.testBit j = false:=by
  have h1:=zRu x;have h2:=zWg h0
  have hb : bl x ≠ 0:=by intro h;rw [h] at h1;simp at h1;omega
  constructor
  · rw [tb]
    have e : 2 ^ bl x = 2 * 2 ^ (bl x - 1):=by rw [← Nat.pow_succ'];congr 1;omega
    have e2 : x / 2 ^ (bl x - 1) = 1:=by
      apply Nat.div_eq_of_lt_le<;>omega
    rw [e2];rfl
  · intro j hj;exact Nat.testBit_lt_two_pow (Nat.lt_of_lt_of_le h1 (Nat.pow_le_pow_right (by omega) hj))
theorem zV1 (t q : Nat) : (2 ^ t * (2 * q + 1)).testBit t = true ∧ ∀ j,j < t → (2 ^ t * (2 * q + 1)).testBit j = false:=by
  constructor
  · rw [Nat.testBit_two_pow_mul];simp
  · intro j hj;rw [Nat.testBit_two_pow_mul];simp;omega
theorem zbp {x i : Nat} (h : i < 64) : idx (zs (zGx x 64)) (i : Int) = some (biZ (x.testBit (63 - i))):=by
  rw [zO9,zs,List.getElem?_map,zRg 64 x i h];rfl
theorem zY4 {x : Nat} (h0 : x ≠ 0) (hx : x < 2 ^ 64) (j : Int → Option zAj) : ∀ (r i f : Nat),i + r = min (64 - bl x) 31 → r < f →
    zC0 (zs (zGx x 64)) j f (i : Int) = j ((min (64 - bl x) 31 : Nat) : Int):=by
  obtain ⟨hb1,hb2⟩:=zVs h0;have hbl:=zQt (n:=x) (k:=64) hx
  have hb0 : bl x ≠ 0:=by intro h;have h1:=zRu x;rw [h] at h1;simp at h1;omega
  intro r
  induction r with
  | zero=>
    intro i f hi hf;obtain ⟨f,rfl⟩ : ∃ k,f = k + 1:=⟨f - 1,by omega⟩;rw [zC0,zCc]
    by_cases h1 : i < 31
    · rw [if_pos (by omega),zbp (by omega),zAn]
      have : x.testBit (63 - i) = true:=by rw [show 63 - i = bl x - 1 by omega];exact hb1
      rw [this];simp only [biZ,if_true];rw [← hi];rfl
    · rw [if_neg (by omega)]
      simp only [Bool.false_eq_true,if_false];rw [← hi];rfl
  | succ r ih=>
    intro i f hi hf;obtain ⟨f,rfl⟩ : ∃ k,f = k + 1:=⟨f - 1,by omega⟩;rw [zC0,zCc,if_pos (by omega),zbp (by omega),zAn,hb2 _ (by omega),zDj (by omega)];simp only [biZ,Bool.false_eq_true,if_false,decide_true,if_true];exact ih (i + 1) f (by omega) (by omega)
theorem zY6 {x t q : Nat} (hq : x = 2 ^ t * (2 * q + 1)) (ht : t < 64) {a : Nat} (ha : a < 64 - t) (j : Int → Option zAj) : ∀ (r e f : Nat),e = 64 - t + r → r ≤ t → r < f →
    zC1 (zs (zGx x 64)) (a : Int) j f (e : Int) = j ((64 - t : Nat) : Int):=by
  obtain ⟨hb1,hb2⟩:=zV1 t q;intro r
  induction r with
  | zero=>
    intro e f he hr hf;obtain ⟨f,rfl⟩ : ∃ k,f = k + 1:=⟨f - 1,by omega⟩
    have ew : W64 ((e : Int) - 1) = ((e - 1 : Nat) : Int):=by rw [zBc (by omega) (by omega)];omega
    rw [zC1,zCc,if_pos (by omega),ew,zbp (by omega),zAn,show 63 - (e - 1) = t by omega,hq,hb1];simp only [biZ,if_true];rw [he];rfl
  | succ r ih=>
    intro e f he hr hf;obtain ⟨f,rfl⟩ : ∃ k,f = k + 1:=⟨f - 1,by omega⟩
    have ew : W64 ((e : Int) - 1) = ((e - 1 : Nat) : Int):=by rw [zBc (by omega) (by omega)];omega
    have hz : x.testBit (63 - (e - 1)) = false:=by rw [hq];exact hb2 _ (by omega)
    rw [zC1,zCc,if_pos (by omega),ew,zbp (by omega),zAn,hz];simp only [biZ,Bool.false_eq_true,if_false,decide_true,if_true];exact ih (e - 1) f (by omega) (by omega) (by omega)
theorem zUg {x : Nat} (h0 : x ≠ 0) (hx : x < 2 ^ 64) : zEo (zs (zGx x 64)) = some (zar (arW x)):=by
  obtain ⟨t,q,ht,hq⟩:=zOg 64 x (by omega) hx;have hbl:=zQt (n:=x) (k:=64) hx
  have htb : t < bl x:=by
    rcases Nat.lt_or_ge t (bl x) with h|h
    · exact h
    · have h1:=zRu x
      have h2 : 2 ^ bl x ≤ 2 ^ t:=Nat.pow_le_pow_right (by omega) h;have h3 : 2 ^ t * 1 ≤ 2 ^ t * (2 * q + 1):=Nat.mul_le_mul_left _ (by omega)
      omega
  have e1 : arW.tzB 64 x = t:=by rw [hq];exact zTh t 64 ht
  unfold zEo;rw [zCc];obtain ⟨f,hf⟩:=zLk 65 (by omega);refine (zY4 h0 hx _ (min (64 - bl x) 31) 0 fuel (by omega) (by rw [hf];omega)).trans ?_;rw [zCc];refine (zY6 hq ht (a:=min (64 - bl x) 31) (by omega) _ t 64 fuel (by omega) (by omega) (by rw [hf];omega)).trans ?_;unfold arW;rw [e1,zBc (by omega) (by omega)]
  congr 2;dsimp only;omega
theorem zRq {x a s : Nat} (h : a + s ≤ 64) : ((zGx x 64).take (a + s)).drop a = zGx (x / 2 ^ (64 - a - s)) s:=by
  have e : zGx x 64 = zGx (x / 2 ^ (64 - a)) a ++ (zGx (x / 2 ^ (64 - a - s)) s ++ zGx x (64 - a - s)):=by
    rw [show (64 : Nat) = a + (s + (64 - a - s)) by omega,zRh,zRh,show s + (64 - a - s) = 64 - a by omega,show a + (64 - a) = 64 by omega]
  rw [e,← List.append_assoc,List.take_append_of_le_length (by rw [List.length_append,zBo,zBo];omega),List.take_of_length_le (by rw [List.length_append,zBo,zBo];omega),
    List.drop_append_of_le_length (by rw [zBo];omega),List.drop_of_length_le (by rw [zBo];omega),List.nil_append]
theorem zW5 {x : Nat} {w : zP3} (h : w.a + w.s ≤ 64) : zNx (zs (zGx x 64)) (w.a : Int) (W64 ((w.a : Int) + (w.s : Int))) = some (zs (zGx (x / 2 ^ (64 - w.a - w.s)) w.s)):=by
  have ew : W64 ((w.a : Int) + (w.s : Int)) = ((w.a + w.s : Nat) : Int):=by rw [zBc (by omega) (by omega)];omega
  rw [ew,zU3 (by omega) (by omega) (by rw [zDm,zBo];omega),Int.toNat_natCast,Int.toNat_natCast,← zRq h];simp [zs,List.map_take,List.map_drop]
theorem zTv {v u : UInt64} : (v ^^^ u).toNat = 0 ↔ v.toNat = u.toNat:=by
  rw [UInt64.toNat_xor]
  constructor
  · intro h
    have:=congrArg (fun z=>z ^^^ u.toNat) h;simp only [Nat.xor_assoc,Nat.xor_self,Nat.xor_zero,Nat.zero_xor] at this;exact this
  · intro h;rw [h,Nat.xor_self]
theorem zWp {L : List UInt64} {w : zP3} (hw : w.ok) (hL : L.length ≤ 1000000) (v : UInt64) :
    zDq (XR L w) v = some (zs (xB L.length (zK7 L) v w).1,XR (L ++ [v]) (xB L.length (zK7 L) v w).2):=by
  unfold zDq xB;have hx:=(v ^^^ zK7 L).toNat_lt
  by_cases h0 : L.length = 0
  · rw [if_pos (by dsimp only;omega),if_pos h0,zVb,zAn,zR9 (L:=L) v _ _ rfl (by omega),zAn]
  rw [if_neg (by dsimp only;omega),if_neg h0,zXb (by omega),zAn,zVb,zAn,zAn]
  by_cases h1 : (v ^^^ zK7 L).toNat = 0
  · have hv:=zTv.1 h1
    rw [if_pos (by omega),if_pos h1,zR9 (L:=L) v _ _ rfl (by omega),zAn];rfl
  have hv : ¬ v.toNat = (zK7 L).toNat:=fun h=>h1 (zTv.2 h)
  have hws : w.a + w.s ≤ 64:=by rcases hw with h | h<;>omega
  rw [if_neg (by omega),if_neg h1,in_eq (by omega) hws,zAn]
  by_cases h2 : 0 < w.s ∧ inW w.a w.s (v ^^^ zK7 L).toNat
  · rw [decide_eq_true h2,if_pos rfl,if_pos h2,zW5 hws,zAn,show ([1,0] : List Int) = zs [true,false] by rfl,zBp (by rw [zDm,zDm,zBo];simp;omega),zAn,← zI7,zR9 (L:=L) v _ _ rfl (by omega),zAn]
  · obtain ⟨ha,hs,has,hin⟩:=zU6 h1 (by omega)
    rw [decide_eq_false h2,if_neg (by simp),if_neg h2,zUg h1 (by omega),zAn];generalize arW (v ^^^ zK7 L).toNat = u at *;have ea : (zAe ((u.a : Nat) : Int)).toNat = u.a:=zDu (by omega)
    have eb : (zAe (W64 (((u.s : Nat) : Int) - 1))).toNat = u.s - 1:=by
      rw [zBc (by omega) (by omega),show ((u.s : Nat) : Int) - 1 = ((u.s - 1 : Nat) : Int) by omega,zDu (by omega)]
    have r5 : zAy (zAe ((u.a : Nat) : Int)) 5 = _:=zPz (n:=5) (by omega);have r6 : zAy (zAe (W64 (((u.s : Nat) : Int) - 1))) 6 = _:=zPz (n:=6) (by omega)
    rw [r5,zAn,r6,zAn,ea,eb,show ([1,1] : List Int) = zs [true,true] by rfl,zBp (by rw [zDm,zDm,zBo];simp),zAn,← zI7,zBp (by rw [zDm,zDm,List.length_append,zBo,zBo];simp),zAn,← zI7,
      zW5 has,zAn,zBp (by rw [zDm,zDm];simp only [List.length_append,zBo,List.length_cons,List.length_nil];omega),zAn,← zI7,zR9 (L:=L) v _ _ rfl (by omega),zAn]
    simp only [List.append_assoc]
def zR8 (xs : List UInt64) : zP3:=(xs.foldl (fun (s : List UInt64 × zP3) v=>(s.1 ++ [v],(xB s.1.length (zK7 s.1) v s.2).2)) ([],⟨0,0⟩)).2
theorem zQx (xs : List UInt64) (v : UInt64) : zR8 (xs ++ [v]) = (xB xs.length (zK7 xs) v (zR8 xs)).2:=by
  have key : ∀ (xs : List UInt64) (s : List UInt64 × zP3),(xs.foldl (fun (s : List UInt64 × zP3) v=>(s.1 ++ [v],(xB s.1.length (zK7 s.1) v s.2).2)) s).1 = s.1 ++ xs:=by
    intro xs
    induction xs with
    | nil=>intro s;simp
    | cons x t ih=>intro s;rw [List.foldl_cons,ih];simp
  unfold zR8;rw [List.foldl_append];have:=key xs ([],⟨0,0⟩);rw [List.nil_append] at this;simp only [List.foldl_cons,List.foldl_nil];rw [this]
theorem zL3 (xs : List UInt64) : (zR8 xs).ok:=by
  have key : ∀ (xs : List UInt64) (s : List UInt64 × zP3),s.2.ok → (xs.foldl (fun (s : List UInt64 × zP3) v=>(s.1 ++ [v],(xB s.1.length (zK7 s.1) v s.2).2)) s).2.ok:=by
    intro xs
    induction xs with
    | nil=>intro s h;exact h
    | cons x t ih=>intro s h;rw [List.foldl_cons];exact ih _ (xB_ok h)
  exact key xs _ (.inl ⟨rfl,rfl⟩)
theorem zOp {xs : List UInt64} (hx : xs.length ≤ 100000) (v : UInt64) : zB4 xs v = some (zs (xB xs.length (zK7 xs) v (zR8 xs)).1):=by
  unfold zB4;rw [zCc];obtain ⟨f,hf⟩:=zLk 100001 (by omega)
  have key : ∀ (q p : List UInt64) (f : Nat),p ++ q = xs → q.length < f → zC xs (fun y6=>(zDq y6 v).bind fun p10=>some p10.1) f ((p.length : Nat) : Int) (XR p (zR8 p)) = some (zs (xB xs.length (zK7 xs) v (zR8 xs)).1):=by
    intro q
    induction q with
    | nil=>
      intro p f hp hf;obtain ⟨f,rfl⟩ : ∃ k,f = k + 1:=⟨f - 1,by omega⟩;rw [List.append_nil] at hp;subst hp;rw [zC,if_neg (by omega),zWp (zL3 p) (by omega),zAn]
    | cons x q ih=>
      intro p f hp hf;obtain ⟨f,rfl⟩ : ∃ k,f = k + 1:=⟨f - 1,by omega⟩;have hl:=congrArg List.length hp;simp only [List.length_append,List.length_cons] at hl hf
      have hi : idx xs ((p.length : Nat) : Int) = some x:=by rw [← hp];exact zKt _ _ _
      rw [zC,if_pos (by omega),hi,zAn,zWp (zL3 p) (by omega),zAn,zDj (by omega)];have:=ih (p ++ [x]) f (by simpa using hp) (by omega);rw [zQx,List.length_append] at this;exact this
  exact key xs [] fuel (by simp) (by rw [hf];omega)
end Go.Proofs.YthjhejgjcdajdaaGreatDoor
set_option maxRecDepth 20000
set_option linter.unusedVariables false
set_option linter.unusedSimpArgs false
namespace Go.Proofs.YthjhejgjcdajdaaGreatDoor
open Go Go.RowKit Go.Wk
structure GotX where
  V : UInt64
  N : Nat
  E : Nat
  w : zP3
end Go.Proofs.YthjhejgjcdajdaaGreatDoor
set_option maxRecDepth 20000
set_option linter.unusedVariables false
set_option linter.unusedSimpArgs false
namespace Go.Proofs.YthjhejgjcdajdaaGreatDoor
open Go Go.RowKit Go.Wk
end Go.Proofs.YthjhejgjcdajdaaGreatDoor
set_option maxRecDepth 20000
set_option linter.unusedVariables false
set_option linter.unusedSimpArgs false
namespace Go.Proofs.YthjhejgjcdajdaaGreatDoor
open Go Go.RowKit Go.Wk
end Go.Proofs.YthjhejgjcdajdaaGreatDoor
set_option maxRecDepth 20000
set_option linter.unusedVariables false
set_option linter.unusedSimpArgs false
namespace Go.Proofs.YthjhejgjcdajdaaGreatDoor
open Go Go.RowKit Go.Wk
def zS2 (l : List UInt64) : Nat:=(l.map UInt64.toNat).sum
theorem zS1 (x : UInt64) (l : List UInt64) : zS2 (x :: l) = x.toNat + zS2 l:=by simp [zS2]
theorem zZg (a b : UInt64) : a ||| b = 0 ↔ a = 0 ∧ b = 0:=by
  constructor
  · intro h
    have h1 : (a ||| b).toNat = 0:=by rw [h];rfl
    rw [UInt64.toNat_or] at h1;have:=Nat.or_eq_zero_iff.1 h1;exact ⟨UInt64.toNat_inj.1 this.1,UInt64.toNat_inj.1 this.2⟩
  · rintro ⟨rfl,rfl⟩;rfl
theorem zTi (l : List UInt64) : ∀ (a b : UInt64),((l.foldl (fun (s : UInt64 × UInt64) x=>(s.1 + x,s.2 ||| cry s.1 x)) (a,b)).1.toNat = (a.toNat + zS2 l) % 2 ^ 64) ∧
    ((l.foldl (fun (s : UInt64 × UInt64) x=>(s.1 + x,s.2 ||| cry s.1 x)) (a,b)).2 = 0 ↔ b = 0 ∧ a.toNat + zS2 l < 2 ^ 64):=by
  induction l with
  | nil=>intro a b;have:=a.toNat_lt;simp [zS2];omega
  | cons x l ih=>
    intro a b;have ha:=a.toNat_lt;have hx:=x.toNat_lt;obtain ⟨h1,h2⟩:=ih (a + x) (b ||| cry a x);rw [List.foldl_cons];dsimp only;rw [h1,h2,zZg,zS1];have e : (a + x).toNat = (a.toNat + x.toNat) % 2 ^ 64:=UInt64.toNat_add a x
    constructor
    · rw [e];omega
    · unfold cry
      by_cases hc : 18446744073709551616 ≤ a.toNat + x.toNat
      · rw [if_pos hc]
        constructor
        · rintro ⟨⟨_,h⟩,_⟩;exact absurd h (by decide)
        · rintro ⟨_,h⟩;omega
      · rw [if_neg hc,e]
        constructor
        · rintro ⟨⟨h,_⟩,k⟩;exact ⟨h,by omega⟩
        · rintro ⟨h,k⟩;exact ⟨⟨h,rfl⟩,by omega⟩
def zZ4 (h : zA2) : Nat:=h.Zero.toNat + zS2 h.Pos.Counts + zS2 h.Neg.Counts
def zaj (h : zA2) : UInt64 × Bool:=if zZ4 h < 2 ^ 64 then (UInt64.ofNat (zZ4 h),true) else (0,false)
theorem zYc (h : zA2) (h1 : h.Pos.Counts.length ≤ 1000000) (h2 : h.Neg.Counts.length ≤ 1000000) : zLd h = some (zaj h):=by
  have hL2 : ∀ (z : zAd) (j : UInt64 → UInt64 → Option (UInt64 × Bool)) (a b : UInt64),z.Counts.length ≤ 1000000 → zCx z j fuel a b 0 = j (z.Counts.foldl (fun (s : UInt64 × UInt64) x=>(s.1 + x,s.2 ||| cry s.1 x)) (a,b)).1 (z.Counts.foldl (fun (s : UInt64 × UInt64) x=>(s.1 + x,s.2 ||| cry s.1 x)) (a,b)).2:=by
    intro z j a b h;rw [zNw _ _ _ _ (by omega),zU9 (fun (s : UInt64 × UInt64) x=>(s.1 + x,s.2 ||| cry s.1 x)) (fun i x s k _=>by rw [zAn])]
  unfold zLd zJl;rw [zAn,zCc];obtain ⟨m,hm⟩:=zLk 3 (by omega)
  rw [show zDi { a0:=h.Pos,a1:=h.Neg } _ fuel _ _ _ = zDi { a0:=h.Pos,a1:=h.Neg } _ (m + 3) _ _ _ by rw [← hm],zDi,if_pos (by omega),show idx [h.Pos,h.Neg] 0 = some h.Pos from rfl,zAn,zCc,hL2 _ _ _ _ h1,zBc (by omega) (by omega),show (0 : Int) + 1 = 1 from rfl,
    zDi,if_pos (by omega),show idx [h.Pos,h.Neg] 1 = some h.Neg from rfl,zAn,zCc,hL2 _ _ _ _ h2,zBc (by omega) (by omega),show (1 : Int) + 1 = 2 from rfl,zDi,if_neg (by omega)]
  obtain ⟨p1,p2⟩:=zTi h.Pos.Counts h.Zero 0;generalize h.Pos.Counts.foldl (fun (s : UInt64 × UInt64) x=>(s.1 + x,s.2 ||| cry s.1 x)) (h.Zero,0) = P at *;obtain ⟨q1,q2⟩:=zTi h.Neg.Counts P.1 P.2;generalize h.Neg.Counts.foldl (fun (s : UInt64 × UInt64) x=>(s.1 + x,s.2 ||| cry s.1 x)) (P.1,P.2) = Q at *;unfold zaj zZ4
  by_cases hq : Q.2 = 0
  · obtain ⟨a1,a2⟩:=q2.1 hq
    obtain ⟨_,a3⟩:=p2.1 a1;rw [if_neg (by rw [hq];decide),if_pos (by omega)]
    have : Q.1 = UInt64.ofNat (h.Zero.toNat + zS2 h.Pos.Counts + zS2 h.Neg.Counts):=by
      apply UInt64.toNat_inj.1
      rw [q1,zF8 (by omega)];omega
    rw [this]
  · have hq' : Q.2.toNat ≠ 0:=fun h=>hq (UInt64.toNat_inj.1 h)
    rw [if_pos (by omega),if_neg];intro h
    apply hq
    rw [q2];exact ⟨p2.2 ⟨rfl,by omega⟩,by omega⟩
theorem zVa (y : UInt64) (l : List UInt64) (hl : l.length ≤ 1000000) : zEh y l = some (if y.toNat + zS2 l < 2 ^ 64 then (UInt64.ofNat (y.toNat + zS2 l),true) else (0,false)):=by
  unfold zEh;rw [zCc,zJu _ _ _ (by omega),zMz (fun _ (q : List UInt64) (y : UInt64)=>some (if y.toNat + zS2 q < 2 ^ 64 then (UInt64.ofNat (y.toNat + zS2 q),true) else (0,false)))]
  · intro s
    have:=s.toNat_lt;rw [if_pos (by simp [zS2];omega)];simp [zS2]
  · intro p x q s k _ hk
    have hs:=s.toNat_lt;have hx:=x.toNat_lt
    have e : ((18446744073709551615 : UInt64) - s).toNat = 18446744073709551615 - s.toNat:=by
      rw [UInt64.toNat_sub_of_le _ _ (by rw [UInt64.le_iff_toNat_le];show s.toNat ≤ 18446744073709551615;omega)];rfl
    rw [zAn,zAn,e,zS1]
    by_cases hc : (x.toNat : Int) > ((18446744073709551615 - s.toNat : Nat) : Int)
    · rw [if_pos hc,if_neg (by omega)]
    · rw [if_neg hc,hk,show (s + x).toNat = s.toNat + x.toNat by rw [UInt64.toNat_add];omega,Nat.add_assoc]
theorem zVi (h : zA2) (h1 : h.Pos.Counts.length ≤ 1000000) (h2 : h.Neg.Counts.length ≤ 1000000) : zEy h = some (zaj h):=by
  unfold zEy zaj zZ4;rw [zVa _ _ h1,zAn]
  by_cases hp : h.Zero.toNat + zS2 h.Pos.Counts < 2 ^ 64
  · rw [if_pos hp,if_neg (by simp),zVa _ _ h2,zAn,zF8 hp]
  · rw [if_neg hp,if_pos (by simp),if_neg (by omega)]
def sdE (s : zAd) : Int:=
  if s.Counts.length > 160 then 4
  else if s.Counts = [] then (if s.Offset ≠ 0 then 3 else 0)
  else if s.Counts.headD 0 = 0 ∨ s.Counts.getLastD 0 = 0 then 3
  else if s.Offset < -1073741824 ∨ s.Offset + s.Counts.length - 1 > 1073741824 then 1 else 0
theorem zRz (x : UInt64) : ((x.toNat : Nat) : Int) = 0 ↔ x = 0:=by
  constructor
  · intro h;apply UInt64.toNat_inj.1;show x.toNat = 0;omega
  · rintro rfl;rfl
theorem ends {l : List UInt64} (h : l ≠ []) (hl : l.length ≤ 1000000) : idx l 0 = some (l.headD 0) ∧ idx l (W64 ((l.length : Int) - 1)) = some (l.getLastD 0):=by
  have h0 : 0 < l.length:=List.length_pos_iff.2 h
  constructor
  · cases l with
    | nil=>exact absurd rfl h
    | cons a t=>rfl
  · rw [zBc (by omega) (by omega),show (l.length : Int) - 1 = ((l.length - 1 : Nat) : Int) by omega,zO9,← List.getLast?_eq_getElem?,List.getLast?_eq_some_getLast h]
    cases l with
    | nil=>exact absurd rfl h
    | cons a t=>rw [List.getLastD_cons,List.getLast_eq_getLastD]
theorem zS7 (s : zAd) : zLc s = some (sdE s):=by
  unfold zLc sdE
  by_cases h1 : s.Counts.length > 160
  · rw [if_pos (by omega),if_pos h1]
  rw [if_neg (by omega),if_neg h1]
  by_cases h2 : s.Counts = []
  · rw [if_pos h2,h2]
    by_cases h3 : s.Offset ≠ 0
    · rw [if_pos ⟨rfl,h3⟩,if_pos h3]
    · rw [if_neg (fun h=>h3 h.2),if_pos (by rfl),if_neg h3]
  have h0 : 0 < s.Counts.length:=List.length_pos_iff.2 h2;obtain ⟨e1,e2⟩:=ends h2 (by omega);rw [if_neg (by omega),if_neg (by omega),if_neg h2,e1,zAn];simp only [zCc]
  by_cases h3 : s.Counts.headD 0 = 0
  · rw [if_pos ((zRz _).2 h3),if_pos (by trivial),if_pos (Or.inl h3)]
  rw [if_neg (fun h=>h3 ((zRz _).1 h)),e2,zAn]
  by_cases h4 : s.Counts.getLastD 0 = 0
  · rw [if_pos (decide_eq_true ((zRz _).2 h4)),if_pos (Or.inr h4)]
  rw [if_neg (by rw [decide_eq_false (fun h=>h4 ((zRz _).1 h))];decide),if_neg (show ¬ (s.Counts.headD 0 = 0 ∨ s.Counts.getLastD 0 = 0) from fun h=>h.elim h3 h4),zBc (z:=(s.Counts.length : Int) - 1) (by omega) (by omega),zBc (by omega) (by omega)]
  by_cases h5 : s.Offset < -1073741824
  · rw [if_pos h5,if_pos (by trivial),if_pos (Or.inl h5)]
  rw [if_neg h5]
  by_cases h6 : s.Offset > 1073741824 - ((s.Counts.length : Int) - 1)
  · rw [if_pos (decide_eq_true h6),if_pos (by omega)]
  · rw [if_neg (by rw [decide_eq_false h6];decide),if_neg (by omega)]
theorem zS8 (s : zAd) : zE3 s = some (sdE s):=by
  unfold zE3 sdE
  by_cases h1 : s.Counts.length > 160
  · rw [if_pos (by omega),if_pos h1]
  rw [if_neg (by omega),if_neg h1]
  by_cases h2 : s.Counts = []
  · rw [if_pos h2,h2,if_pos (by rfl)]
    by_cases h3 : s.Offset ≠ 0
    · rw [if_pos h3,if_pos h3]
    · rw [if_neg h3,if_neg h3]
  have h0 : 0 < s.Counts.length:=List.length_pos_iff.2 h2;obtain ⟨e1,e2⟩:=ends h2 (by omega);rw [if_neg (by omega),if_neg h2,e1,zAn];simp only [zCc]
  by_cases h3 : s.Counts.headD 0 = 0
  · rw [if_pos ((zRz _).2 h3),if_pos (by trivial),if_pos (Or.inl h3)]
  rw [if_neg (fun h=>h3 ((zRz _).1 h)),e2,zAn]
  by_cases h4 : s.Counts.getLastD 0 = 0
  · rw [if_pos (decide_eq_true ((zRz _).2 h4)),if_pos (Or.inr h4)]
  rw [if_neg (by rw [decide_eq_false (fun h=>h4 ((zRz _).1 h))];decide),if_neg (show ¬ (s.Counts.headD 0 = 0 ∨ s.Counts.getLastD 0 = 0) from fun h=>h.elim h3 h4)]
  by_cases h5 : s.Offset < -1073741824 ∨ s.Offset > 1073741824
  · rw [if_pos h5,if_pos (by trivial),if_pos (by omega)]
  rw [if_neg h5,zBc (z:=s.Offset + (s.Counts.length : Int)) (by omega) (by omega),zBc (by omega) (by omega)]
  by_cases h6 : s.Offset + (s.Counts.length : Int) - 1 > 1073741824
  · rw [if_pos (decide_eq_true h6),if_pos (Or.inr h6)]
  · rw [if_neg (by rw [decide_eq_false h6];decide),if_neg (by omega)]
def hcE (h : zA2) : Int:=
  if h.Scale < -10 ∨ h.Scale > 20 then 1 else if sdE h.Pos ≠ 0 then sdE h.Pos else if sdE h.Neg ≠ 0 then sdE h.Neg else if zZ4 h < 2 ^ 64 then 0 else 4
theorem zWu (h : zA2) (h1 : h.Pos.Counts.length ≤ 1000000) (h2 : h.Neg.Counts.length ≤ 1000000) : zEz h = some (hcE h):=by
  unfold zEz hcE
  by_cases hs : h.Scale < -10 ∨ h.Scale > 20
  · rw [if_pos hs,if_pos hs]
  rw [if_neg hs,if_neg hs,zS8,zAn]
  by_cases c1 : sdE h.Pos ≠ 0
  · rw [if_pos c1,if_pos c1]
  rw [if_neg c1,if_neg c1,zS8,zAn]
  by_cases c2 : sdE h.Neg ≠ 0
  · rw [if_pos c2,if_pos c2]
  rw [if_neg c2,if_neg c2,zVi h h1 h2,zAn];unfold zaj
  by_cases ht : zZ4 h < 2 ^ 64
  · rw [if_pos ht,if_pos ht,if_neg (by simp)]
  · rw [if_neg ht,if_neg ht,if_pos (by simp)]
theorem zSv (h : zA2) (h1 : h.Pos.Counts.length ≤ 1000000) (h2 : h.Neg.Counts.length ≤ 1000000) : zJm h = some (hcE h):=by
  unfold zJm zJl hcE
  by_cases hs : h.Scale < -10 ∨ h.Scale > 20
  · rw [if_pos hs,if_pos hs]
  rw [if_neg hs,if_neg hs,zAn,zCc];obtain ⟨m,hm⟩:=zLk 3 (by omega);rw [hm,zEk,if_pos (by omega),show idx [h.Pos,h.Neg] 0 = some h.Pos from rfl,zAn,zS7,zAn]
  by_cases c1 : sdE h.Pos ≠ 0
  · rw [if_pos c1,if_pos c1]
  rw [if_neg c1,if_neg c1,zBc (by omega) (by omega),show (0 : Int) + 1 = 1 from rfl,zEk,if_pos (by omega),show idx [h.Pos,h.Neg] 1 = some h.Neg from rfl,zAn,zS7,zAn]
  by_cases c2 : sdE h.Neg ≠ 0
  · rw [if_pos c2,if_pos c2]
  rw [if_neg c2,if_neg c2,zBc (by omega) (by omega),show (1 : Int) + 1 = 2 from rfl,zEk,if_neg (by omega),zYc h h1 h2,zAn];unfold zaj
  by_cases ht : zZ4 h < 2 ^ 64
  · rw [if_pos ht,if_pos ht,if_neg (by simp)]
  · rw [if_neg ht,if_neg ht,if_pos (by simp)]
end Go.Proofs.YthjhejgjcdajdaaGreatDoor
set_option maxRecDepth 20000
set_option linter.unusedVariables false
set_option linter.unusedSimpArgs false
namespace Go.Proofs.YthjhejgjcdajdaaGreatDoor
open Go Go.RowKit Go.Wk
def zQu (a b : zA2) : Prop:=a.Scale = b.Scale ∧ a.Pos.Offset = b.Pos.Offset ∧ a.Neg.Offset = b.Neg.Offset ∧ a.Pos.Counts.length = b.Pos.Counts.length ∧ a.Neg.Counts.length = b.Neg.Counts.length
instance (a b : zA2) : Decidable (zQu a b):=by unfold zQu;exact inferInstance
def zSx (h : zA2) : List UInt64:=h.Zero :: (h.Pos.Counts ++ h.Neg.Counts)
theorem zMi (h : zA2) : (zSx h).length = 1 + h.Pos.Counts.length + h.Neg.Counts.length:=by simp [zSx];omega
def smS (l : List UInt64) : List Bool:=l.flatMap fun c=>smB c.toNat
theorem zX4 (c : UInt64) (l : List UInt64) : smS (c :: l) = smB c.toNat ++ smS l:=rfl
theorem zV5 (l : List UInt64) : (smS l).length ≤ 66 * l.length:=by
  induction l with
  | nil=>simp [smS]
  | cons c l ih=>have:=zLn c.toNat;rw [zX4,List.length_append,List.length_cons];omega
theorem zTn (l : List UInt64) (c : UInt64) : smS (l ++ [c]) = smS l ++ smB c.toNat:=by simp [smS]
def dfS (l m : List UInt64) : List Bool:=(l.zip m).flatMap fun c=>smB (zig (sI (c.1 - c.2))).toNat
theorem zW4 (l m : List UInt64) : (dfS l m).length ≤ 66 * l.length:=by
  induction l generalizing m with
  | nil=>simp [dfS]
  | cons a l ih=>
    cases m with
    | nil=>simp [dfS]
    | cons b m=>
      have h1:=zLn (zig (sI (a - b))).toNat;have h2:=ih m;have e : dfS (a :: l) (b :: m) = smB (zig (sI (a - b))).toNat ++ dfS l m:=rfl;rw [e,List.length_append,List.length_cons];omega
theorem zU2 {l m : List UInt64} (a b : UInt64) (h : l.length = m.length) : dfS (l ++ [a]) (m ++ [b]) = dfS l m ++ smB (zig (sI (a - b))).toNat:=by
  unfold dfS;rw [List.zip_append h,List.flatMap_append];simp
theorem zLp {α S R : Type} {l : List α} {B : Nat → α → S → (S → Option R) → Option R} {J : S → Option R} (st : List α → S)
    (h : ∀ p x q k,p ++ x :: q = l → B p.length x (st p) k = k (st (p ++ [x]))) : zEm l (st []) B J = J (st l):=
  zLq (fun p s=>s = st p) (fun _ _ _=>J (st l)) rfl (fun s e=>by rw [e]) fun p x q s k hp e hk=>by rw [e,h p x q k hp];exact hk _ rfl
def shB (s : zAd) : List Bool:=zGx s.Counts.length 8 ++ if s.Counts.length > 0 then smB (zig s.Offset).toNat else []
theorem zR (s : zAd) : (shB s).length ≤ 74:=by
  have:=zLn (zig s.Offset).toNat;unfold shB;rw [List.length_append,zBo];split
  · omega
  · simp
def zUo (h : zA2) : List Bool:=false :: (zGx (h.Scale + 10).toNat 5 ++ (shB h.Pos ++ (shB h.Neg ++ smS (zSx h))))
def hB (n : Nat) (last h : zA2) : List Bool:=if 0 < n ∧ zQu last h then true :: dfS (zSx h) (zSx last) else zUo h
structure HOk (h : zA2) : Prop where
  p : h.Pos.Counts.length ≤ 160
  n : h.Neg.Counts.length ≤ 160
  s0 : -10 ≤ h.Scale
  s1 : h.Scale ≤ 20
  op : okI h.Pos.Offset
  on : okI h.Neg.Offset
theorem zYi {s : zAd} (h : sdE s = 0) : s.Counts.length ≤ 160 ∧ okI s.Offset:=by
  unfold sdE at h
  by_cases h1 : s.Counts.length > 160
  · rw [if_pos h1] at h;exact absurd h (by decide)
  rw [if_neg h1] at h;refine ⟨by omega,?_⟩;unfold okI
  by_cases h2 : s.Counts = []
  · rw [if_pos h2] at h
    by_cases h3 : s.Offset ≠ 0
    · rw [if_pos h3] at h;exact absurd h (by decide)
    · omega
  rw [if_neg h2] at h
  by_cases h3 : s.Counts.headD 0 = 0 ∨ s.Counts.getLastD 0 = 0
  · rw [if_pos h3] at h;exact absurd h (by decide)
  rw [if_neg h3] at h
  by_cases h4 : s.Offset < -1073741824 ∨ s.Offset + s.Counts.length - 1 > 1073741824
  · rw [if_pos h4] at h;exact absurd h (by decide)
  omega
theorem zR4 {h : zA2} (e : hcE h = 0) : HOk h:=by
  unfold hcE at e
  by_cases hs : h.Scale < -10 ∨ h.Scale > 20
  · rw [if_pos hs] at e;exact absurd e (by decide)
  rw [if_neg hs] at e
  by_cases c1 : sdE h.Pos ≠ 0
  · rw [if_pos c1] at e;exact absurd e c1
  rw [if_neg c1] at e
  by_cases c2 : sdE h.Neg ≠ 0
  · rw [if_pos c2] at e;exact absurd e c2
  have a:=zYi (Classical.not_not.1 c1);have b:=zYi (Classical.not_not.1 c2);exact ⟨a.1,b.1,by omega,by omega,a.2,b.2⟩
theorem zbf {n : Nat} {last h : zA2} (ok : HOk h) : (hB n last h).length ≤ 30000 ∧ 0 < (hB n last h).length:=by
  have h1:=zMi h;have:=ok.p;have:=ok.n;unfold hB zUo
  split
  · have:=zW4 (zSx h) (zSx last)
    simp only [List.length_cons];omega
  · have:=zV5 (zSx h)
    have:=zR h.Pos;have:=zR h.Neg;simp only [List.length_cons,List.length_append,zBo];omega
theorem zSo (h : zA2) (h1 : h.Pos.Counts.length ≤ 1000000) (h2 : h.Neg.Counts.length ≤ 1000000) : zG h = some h:=by
  unfold zG zDt;simp only [zBp (show ([] : List UInt64).length + h.Pos.Counts.length ≤ 1073741824 by simp;omega),zBp (show ([] : List UInt64).length + h.Neg.Counts.length ≤ 1073741824 by simp;omega),zAn,List.nil_append]
theorem zQh (h : zA2) (h1 : h.Pos.Counts.length ≤ 1000000) (h2 : h.Neg.Counts.length ≤ 1000000) : zDc h = some (zSx h):=by
  unfold zDc;rw [zBp (by simp;omega),zAn,zBp (by simp;omega),zAn];rfl
theorem zWk (h : zA2) (h1 : h.Pos.Counts.length ≤ 1000000) (h2 : h.Neg.Counts.length ≤ 1000000) : zD5 h = some (zSx h):=by
  unfold zD5;rw [zBp (by simp;omega),zAn,zBp (by simp;omega),zAn];rfl
theorem zYg (a b : zA2) : zEx a b = some (decide (zQu a b)):=by
  unfold zEx zQu
  congr 1
  apply decide_eq_decide.2
  constructor
  · rintro ⟨⟨⟨⟨h1,h2⟩,h3⟩,h4⟩,h5⟩;exact ⟨h1,h2,h3,by omega,by omega⟩
  · rintro ⟨h1,h2,h3,h4,h5⟩;exact ⟨⟨⟨⟨h1,h2⟩,h3⟩,by omega⟩,by omega⟩
theorem zb7 (a b : zA2) : ((⟨a.Scale,a.Pos.Offset,(a.Pos.Counts.length : Int),a.Neg.Offset,(a.Neg.Counts.length : Int)⟩ : zCy) = ⟨b.Scale,b.Pos.Offset,(b.Pos.Counts.length : Int),b.Neg.Offset,(b.Neg.Counts.length : Int)⟩) ↔ zQu b a:=by
  unfold zQu;simp only [zCy.mk.injEq]
  constructor
  · rintro ⟨h1,h2,h3,h4,h5⟩;exact ⟨h1.symm,h2.symm,h4.symm,by omega,by omega⟩
  · rintro ⟨h1,h2,h3,h4,h5⟩;exact ⟨h1.symm,h2.symm,by omega,h3.symm,by omega⟩
theorem zXg (l : List UInt64) (hl : l.length ≤ 1000) (j : zA0 → Option (Int × zA6 × zA0)) {M : List Bool} (hM : M.length ≤ 6500000000) :
    zBl l j fuel 0 (WrO M) = j (WrO (M ++ smS l)):=by
  have:=zLp (l:=l) (B:=fun ii xx ss kk=>(some xx).bind fun z90=>(zHh ss z90).bind fun p91=>kk p91) (J:=j) (fun p=>WrO (M ++ smS p)) (by
    intro p x q k hp;have hp':=congrArg List.length hp;simp at hp';have:=zV5 p
    rw [zAn,zT _ (by simp;omega),zAn,zTn,List.append_assoc])
  rw [zL1 _ _ _ (by omega)];simpa [smS] using this
theorem zVj (l m : List UInt64) (hlm : l.length = m.length) (hl : l.length ≤ 1000) (j : zA0 → Option (Int × zA6 × zA0)) {M : List Bool} (hM : M.length ≤ 6500000000) :
    zBm m l j fuel 0 (WrO M) = j (WrO (M ++ dfS l m)):=by
  have:=zLp (l:=l) (B:=fun ii xx ss kk=>(some xx).bind fun z59=>(idx m (ii : Int)).bind fun z60=>(zEc ss (W64 ((z59 - z60).toNat : Int))).bind fun p61=>kk p61) (J:=j) (fun p=>WrO (M ++ dfS p (m.take p.length))) (by
    intro p x q k hp;have hp':=congrArg List.length hp;simp at hp';have:=zW4 p (m.take p.length)
    have hi : p.length < m.length:=by omega
    rw [zAn,zGm hi,zAn,zUa,zNf (zX6 _) (by simp;omega),zAn,List.length_append,List.length_singleton,← List.take_append_getElem hi,zU2 _ _ (by simp;omega),List.append_assoc])
  rw [zL2 _ _ _ _ (by omega)];have e : m.take l.length = m:=List.take_of_length_le (by omega);simpa [dfS,e] using this
theorem zTs {M : List Bool} {s : zAd} (h : s.Counts.length ≤ 160) (ho : okI s.Offset) (hM : M.length ≤ 6500000000) (j : zA0 → Option (Int × zA6 × zA0)) :
    ((zAh (WrO M) (zAe (s.Counts.length : Int)) 8).bind fun p110=>if (s.Counts.length : Int) > 0 then (zEc p110.2 s.Offset).bind fun p115=>j p115 else j p110.2) = j (WrO (M ++ shB s)):=by
  have hp:=zJc (M:=M) (v:=zAe (s.Counts.length : Int)) (n:=8) (by omega) (by omega) (by rw [zDu (by omega)];omega);rw [show zAh (WrO M) (zAe (s.Counts.length : Int)) 8 = _ from hp,zAn,zDu (by omega)];unfold shB
  by_cases h0 : s.Counts.length > 0
  · rw [if_pos (by omega),zNf ho (by simp [zBo];omega),zAn,if_pos h0,List.append_assoc]
  · rw [if_neg (by omega),if_neg h0,List.append_nil]
theorem zZr {n : Nat} {last h : zA2} {M : List Bool} (hn : n ≤ 1000000000) (hM : M.length ≤ 6000000000)
    (a1 : h.Pos.Counts.length ≤ 1000000) (a2 : h.Neg.Counts.length ≤ 1000000) (b1 : last.Pos.Counts.length ≤ 1000000) (b2 : last.Neg.Counts.length ≤ 1000000) :
    zEr ⟨(n : Int),last⟩ (WrO M) h = some (if hcE h = 0 then (0,⟨((n + 1 : Nat) : Int),h⟩,WrO (M ++ hB n last h)) else (hcE h,⟨(n : Int),last⟩,WrO M)):=by
  have hW : W64 ((n : Int) + 1) = ((n + 1 : Nat) : Int):=by rw [zBc (by omega) (by omega)];omega
  unfold zEr hB;rw [zSv h a1 a2,zAn]
  by_cases he : hcE h = 0
  · have ok:=zR4 he
    have:=ok.p;have:=ok.n;have:=ok.s0;have:=ok.s1;have hl:=zMi h;rw [if_neg (fun k=>k he),if_pos he];simp only [zCc]
    have fin : ∀ (w : zA0),((zG h).bind fun p27=>some ((0 : Int),({ n:=W64 ((n : Int) + 1),last:=p27 } : zA6),w)) = some (0,⟨((n + 1 : Nat) : Int),h⟩,w):=by
      intro w;rw [zSo h a1 a2,zAn,hW]
    have dif : zQu last h → ((zAh (WrO M) (1 : UInt64) 1).bind fun p36=>(zDc last).bind fun p43=>(zDc h).bind fun p46=>zBm p43 p46 (fun y52=>(zG h).bind fun p27=>some ((0 : Int),({ n:=W64 ((n : Int) + 1),last:=p27 } : zA6),y52)) fuel 0 p36.2) = some (0,⟨((n + 1 : Nat) : Int),h⟩,WrO (M ++ true :: dfS (zSx h) (zSx last))):=by
      intro hal
      have hlen : (zSx h).length = (zSx last).length:=by rw [zMi,zMi,hal.2.2.2.1,hal.2.2.2.2]
      have hp:=zJc (M:=M) (v:=1) (n:=1) (by omega) (by omega) (by decide);rw [show zAh (WrO M) 1 1 = _ from hp,zAn,zQh _ b1 b2,zAn,zQh _ a1 a2,zAn,zVj _ _ hlen (by omega) _ (by simp [zBo];omega),fin,List.append_assoc];rfl
    have ful : ((zAh (WrO M) (0 : UInt64) 1).bind fun p65=>(zAh p65.2 (zAe (W64 (h.Scale - (-10)))) 5).bind fun p69=>zC4 h (fun y77=>(zDc h).bind fun p79=>zBl p79 (fun y83=>(zG h).bind fun p27=>some ((0 : Int),({ n:=W64 ((n : Int) + 1),last:=p27 } : zA6),y83)) fuel 0 y77) fuel 0 p69.2) = some (0,⟨((n + 1 : Nat) : Int),h⟩,WrO (M ++ zUo h)):=by
      have e1 : W64 (h.Scale - (-10)) = (((h.Scale + 10).toNat : Nat) : Int):=by rw [zBc (by omega) (by omega)];omega
      have e2 : (zAe (((h.Scale + 10).toNat : Nat) : Int)).toNat = (h.Scale + 10).toNat:=zDu (by omega);have hp:=zJc (M:=M) (v:=0) (n:=1) (by omega) (by omega) (by decide);have hq:=zJc (M:=M ++ zGx (0 : UInt64).toNat 1) (v:=zAe (((h.Scale + 10).toNat : Nat) : Int)) (n:=5) (by simp [zBo];omega) (by omega) (by rw [e2];omega);have q1:=zR h.Pos;have q2:=zR h.Neg;obtain ⟨m,hm⟩:=zLk 3 (by omega)
      rw [show zAh (WrO M) 0 1 = _ from hp,zAn,e1,show zAh (WrO (M ++ zGx (0 : UInt64).toNat 1)) _ 5 = _ from hq,zAn,e2,
        show zC4 h _ fuel _ _ = zC4 h _ (m + 3) _ _ by rw [← hm],zC4,if_pos (by simp),zCc,show idx [h.Pos,h.Neg] 0 = some h.Pos from rfl,zAn]
      rw [zTs ok.p ok.op (by simp [zBo];omega),show W64 ((0 : Int) + 1) = 1 by decide,zC4,if_pos (by simp),zCc,show idx [h.Pos,h.Neg] 1 = some h.Neg from rfl,zAn,
        zTs ok.n ok.on (by simp [zBo];omega),show W64 ((1 : Int) + 1) = 2 by decide,zC4,if_neg (by simp),zQh _ a1 a2,zAn,zXg _ (by omega) _ (by simp [zBo];omega),fin]
      unfold zUo;simp only [List.append_assoc];rfl
    by_cases h0 : 0 < n
    · rw [if_pos (show (n : Int) > 0 by omega)]
      unfold zK6;simp only [zAn]
      by_cases hal : zQu last h
      · rw [if_pos (decide_eq_true ((zb7 h last).2 hal)),if_pos ⟨h0,hal⟩];exact dif hal
      · rw [if_neg (by rw [decide_eq_false (fun k=>hal ((zb7 h last).1 k))];decide),if_neg (fun k=>hal k.2)];exact ful
    · rw [if_neg (show ¬ (n : Int) > 0 by omega),if_neg (by decide),if_neg (fun k=>h0 k.1)];exact ful
  · rw [if_pos he,if_neg he]
end Go.Proofs.YthjhejgjcdajdaaGreatDoor
set_option maxRecDepth 20000
set_option linter.unusedVariables false
set_option linter.unusedSimpArgs false
namespace Go.Proofs.YthjhejgjcdajdaaGreatDoor
open Go Go.RowKit Go.Wk
abbrev h00 : zA2:=⟨0,0,⟨0,[]⟩,⟨0,[]⟩⟩
def zO8 (L : List zA2) : zA2:=L.getLastD h00
theorem zVt {L : List zA2} (h : L ≠ []) (hl : L.length ≤ 1000000) : idx L (W64 ((L.length : Int) - 1)) = some (zO8 L):=by
  have h0 : 0 < L.length:=List.length_pos_iff.2 h;rw [zBc (by omega) (by omega),show (L.length : Int) - 1 = ((L.length - 1 : Nat) : Int) by omega,zO9,← List.getLast?_eq_getElem?,List.getLast?_eq_some_getLast h,zO8]
  cases L with
  | nil=>exact absurd rfl h
  | cons a t=>rw [List.getLastD_cons,List.getLast_eq_getLastD]
theorem zYl {v : Nat} {n : Nat} (hv : v < 1000000) (hn : n ≤ 64) : zCe (v : Int) (n : Int) = some (zs (zGx v n)):=by
  unfold zCe;rw [zPz hn,zAn,zDu (by omega)]
theorem zYk {s : zAd} (h : s.Counts.length ≤ 160) (ho : okI s.Offset) : zCt s = some (zs (shB s)):=by
  unfold zCt shB;rw [show zCe (s.Counts.length : Int) 8 = _ from zYl (n:=8) (by omega) (by omega),zAn];simp only [zCc]
  by_cases h0 : s.Counts.length > 0
  · have:=zLn (zig s.Offset).toNat
    rw [if_pos (by omega),if_pos h0,zU7 ho,zAn,zNq,zAn,zBp (by rw [zDm,zDm,zBo];omega),zAn,zI7]
  · rw [if_neg (by omega),if_neg h0,List.append_nil]
theorem zVc (l : List UInt64) (hl : l.length ≤ 1000) (j : List Int → Option (List Int)) {M : List Bool} (hM : M.length ≤ 1000000) :
    zAw l j fuel (zs M) 0 = j (zs (M ++ smS l)):=by
  have:=zLp (l:=l) (B:=fun ii xx ss kk=>(some xx).bind fun z83=>(zAs z83).bind fun p84=>(zDn ss p84).bind fun z87=>kk z87) (J:=j) (fun p=>zs (M ++ smS p)) (by
    intro p x q k hp;have hp':=congrArg List.length hp;simp at hp';have h1:=zV5 p;have h2:=zLn x.toNat
    rw [zAn,zNq,zAn,zBp (by rw [zDm,zDm,List.length_append];omega),zAn,← zI7,zTn,List.append_assoc])
  rw [zJs _ _ _ (by omega)];simpa [smS] using this
theorem zUc (l m : List UInt64) (hlm : l.length = m.length) (hl : l.length ≤ 1000) (j : List Int → Option (List Int)) {M : List Bool} (hM : M.length ≤ 1000000) :
    zB5 l m j fuel (zs M) 0 = j (zs (M ++ dfS l m)):=by
  have:=zLp (l:=l) (B:=fun ii xx ss kk=>(some xx).bind fun z43=>(idx m (ii : Int)).bind fun z44=>(zC2 (W64 ((z43 - z44).toNat : Int))).bind fun p45=>(zAs p45).bind fun p47=>(zDn ss p47).bind fun z50=>kk z50) (J:=j) (fun p=>zs (M ++ dfS p (m.take p.length))) (by
    intro p x q k hp;have hp':=congrArg List.length hp;simp at hp';have h1:=zW4 p (m.take p.length)
    have hi : p.length < m.length:=by omega
    have h2:=zLn (zig (sI (x - m[p.length]))).toNat
    rw [zAn,zGm hi,zAn,zUa,zU7 (zX6 _),zAn,zNq,zAn,zBp (by rw [zDm,zDm,List.length_append];omega),zAn,← zI7,List.length_append,List.length_singleton,← List.take_append_getElem hi,zU2 _ _ (by simp;omega),List.append_assoc])
  rw [zJt _ _ _ _ (by omega)];have e : m.take l.length = m:=List.take_of_length_le (by omega);simpa [dfS,e] using this
theorem zVd {L : List zA2} {h : zA2} (hL : L.length ≤ 1000000) (ok : HOk h) :
    zDp L h = some (zs (hB L.length (zO8 L) h)):=by
  have:=ok.p;have:=ok.n;have:=ok.s0;have:=ok.s1;have hl:=zMi h;unfold zDp hB
  have ful : ((zCe (W64 (h.Scale + 10)) 5).bind fun p55 =>
        (zDn ([0] : List Int) p55).bind fun z58=>
        (zCt h.Pos).bind fun p60=>
        (zDn z58 p60).bind fun z63=>
        (zCt h.Neg).bind fun p65=>
        (zDn z63 p65).bind fun z68=>
        (zD5 h).bind fun p70=>
        zAw p70 (fun y73=>some y73) fuel z68 0) = some (zs (zUo h)):=by
    have e1 : W64 (h.Scale + 10) = (((h.Scale + 10).toNat : Nat) : Int):=by rw [zBc (by omega) (by omega)];omega
    have q1:=zR h.Pos;have q2:=zR h.Neg
    rw [e1,show zCe (((h.Scale + 10).toNat : Nat) : Int) 5 = _ from zYl (n:=5) (by omega) (by omega),zAn,show ([0] : List Int) = zs [false] by rfl,
      zBp (by simp [zDm,zBo]),zAn,← zI7,zYk ok.p ok.op,zAn,zBp (by rw [zDm,zDm];simp [zBo];omega),zAn,← zI7,zYk ok.n ok.on,zAn,
      zBp (by rw [zDm,zDm];simp [zBo];omega),zAn,← zI7,zWk h (by omega) (by omega),zAn,zVc _ (by omega) _ (by simp [zBo];omega)]
    unfold zUo;simp only [List.append_assoc];rfl
  simp only [zCc]
  by_cases h0 : L = []
  · subst h0
    rw [if_neg (by simp),if_neg (by decide),if_neg (by simp)];exact ful
  · have hp : 0 < L.length:=List.length_pos_iff.2 h0
    rw [if_pos (by omega),zVt h0 hL,zAn,zYg,zAn]
    by_cases hal : zQu (zO8 L) h
    · have hlen : (zSx h).length = (zSx (zO8 L)).length:=by rw [zMi,zMi,hal.2.2.2.1,hal.2.2.2.2]
      have l1:=hal.2.2.2.1;have l2:=hal.2.2.2.2;rw [if_pos (decide_eq_true hal),zAn,zWk h (by omega) (by omega),zAn,zWk _ (by omega) (by omega),zAn,if_pos ⟨hp,hal⟩,show ([1] : List Int) = zs [true] by rfl,zUc _ _ hlen (by omega) _ (by simp)]
      rfl
    · rw [if_neg (by rw [decide_eq_false hal];decide),if_neg (fun k=>hal k.2)];exact ful
end Go.Proofs.YthjhejgjcdajdaaGreatDoor
set_option maxRecDepth 20000
set_option linter.unusedVariables false
set_option linter.unusedSimpArgs false
namespace Go.Proofs.YthjhejgjcdajdaaGreatDoor
open Go Go.RowKit Go.Wk
structure StH where
  a : Nat
  e : Nat
end Go.Proofs.YthjhejgjcdajdaaGreatDoor
set_option maxRecDepth 20000
set_option linter.unusedVariables false
set_option linter.unusedSimpArgs false
namespace Go.Proofs.YthjhejgjcdajdaaGreatDoor
open Go Go.RowKit Go.Wk
end Go.Proofs.YthjhejgjcdajdaaGreatDoor
set_option maxRecDepth 20000
set_option linter.unusedVariables false
set_option linter.unusedSimpArgs false
namespace Go.Proofs.YthjhejgjcdajdaaGreatDoor
open Go Go.RowKit Go.Wk
structure GotH where
  H : zA2
  a : Nat
  E : Int
section
variable {n a : Nat} {last H : zA2} {L : List Bool} {s : StH}
end
end Go.Proofs.YthjhejgjcdajdaaGreatDoor
set_option maxRecDepth 20000
set_option linter.unusedVariables false
set_option linter.unusedSimpArgs false
namespace Go.Proofs.YthjhejgjcdajdaaGreatDoor
open Go Go.RowKit Go.Wk
section
variable {L : List Bool} {s : StH}
end
end Go.Proofs.YthjhejgjcdajdaaGreatDoor
set_option maxRecDepth 20000
set_option linter.unusedVariables false
set_option linter.unusedSimpArgs false
namespace Go.Proofs.YthjhejgjcdajdaaGreatDoor
open Go Go.RowKit Go.Wk
end Go.Proofs.YthjhejgjcdajdaaGreatDoor
set_option maxRecDepth 20000
set_option linter.unusedVariables false
set_option linter.unusedSimpArgs false
namespace Go.Proofs.YthjhejgjcdajdaaGreatDoor
open Go Go.RowKit Go.Wk
section shift
variable {L : List Bool} {a : Nat}
end shift
section back
variable {L : List Bool}
end back
end Go.Proofs.YthjhejgjcdajdaaGreatDoor
set_option linter.unusedVariables false
set_option linter.unusedSimpArgs false
namespace Go.Proofs.YthjhejgjcdajdaaGreatDoor
open Go Go.RowKit Go.Wk
abbrev Txt:=List UInt8
abbrev Pr:=zA
def zS3 (c : UInt8) : Bool:=decide (97 ≤ c.toNat) && decide (c.toNat ≤ 122)
def nmC (c : UInt8) : Bool:=zS3 c || (decide (48 ≤ c.toNat) && decide (c.toNat ≤ 57)) || decide (c.toNat = 95) || decide (c.toNat = 46)
def zMt (s : Txt) : Bool:=decide (s.length ≤ 32) && match s with | []=>false | c :: t=>zS3 c && t.all nmC
def zat (c : UInt8) : Bool:=decide (33 ≤ c.toNat) && decide (c.toNat ≤ 126) && decide (c.toNat ≠ 61) && decide (c.toNat ≠ 59) && decide (c.toNat ≠ 44)
def zTg (s : Txt) : Bool:=decide (s.length ≤ 32) && decide (1 ≤ s.length) && s.all zat
theorem zTm (c : UInt8) : zHl c = some (zS3 c):=by unfold zHl zS3;rw [← Bool.decide_and];congr 1;apply decide_eq_decide.2;omega
theorem zSl (s : Txt) : zG5 s = some (zMt s):=by
  unfold zG5;simp only [zCc]
  split
  · rename_i h;rcases h with rfl | h<;>simp [zMt];omega
  · rename_i h
    match s,h with
    | c :: t,h=>
      simp only [not_or] at h;have hb:=h.2;rw [idx0,zAn,zTm,zAn,zRm (by omega),zAn,zMv _ _ (by omega),zN nmC (some false)]
      · have : (c :: t).length ≤ 32:=by omega
        have hn : zS3 c = true → nmC c = true:=fun h=>by simp [nmC,h]
        unfold zMt
        cases hc : zS3 c<;>simp_all
        split<;>simp_all
      · intro i x k _
        rw [zAn,zTm,zAn]
        refine zVu ?_ (fun _=>rfl) fun _=>rfl
        simp [nmC];grind
theorem zUk (s : Txt) : zHa s = some (zTg s):=by
  unfold zHa;simp only [zCc]
  split
  · rename_i h;rcases h with rfl | h<;>simp [zTg];omega
  · rename_i h
    simp only [not_or] at h;have hb:=h.2;have:=List.length_pos_iff.2 h.1;rw [zRm (by omega),zAn,zMe _ _ (by omega),zN zat (some false)]
    · unfold zTg;split<;>simp_all<;>omega
    · intro i x k _
      simp only [zAn,zCc,zat]
      grind
theorem zR0 (s : Txt) : zDg s = some (zMt s):=by
  unfold zDg;simp only [zCc]
  split
  · rename_i h
    match s with
    | []=>rfl
    | c :: t=>unfold zMt;simp at h ⊢;grind
  · rename_i h
    rw [zJi _ _ (by omega)]
    match s with
    | []=>simp at h
    | c :: t=>
      unfold zEm;simp only [zPy,zAn];rw [zTp nmC (some false)]
      · unfold zMt zS3;simp at h ⊢;grind
      · intro i x k hi _
        refine zVu ?_ (fun _=>rfl) fun _=>rfl
        simp [nmC,zS3];omega
theorem zT3 (s : Txt) : zDw s = some (zTg s):=by
  unfold zDw;simp only [zCc]
  split
  · rename_i h;unfold zTg;simp;omega
  · rename_i h
    rw [zJ0 _ _ (by omega),zN zat (some false)]
    · unfold zTg;split<;>simp_all<;>omega
    · intro i x k _
      simp only [zAn,zat]
      grind
def chk : List Pr → List Pr → Int
  | _,[]=>0
  | p,a :: l=>if (zMt a.Key && zTg a.Val) = true then (if p.any (fun b=>decide (b.Key = a.Key)) = true then 8 else chk (p ++ [a]) l) else 3
def zNc (name : Txt) (l : List Pr) : Int:=if zMt name = true then (if l.length > 4 then 4 else chk [] l) else 3
theorem zTc (l : List Pr) (a : Pr) (h : l.length < 4611686018427387904) : zBt l a = some (l.any fun b=>decide (b.Key = a.Key)):=by
  unfold zBt zD3;rw [zCc,zG2 _ _ _ h];rw [zMz (fun p q _=>some (if q.any (fun b=>decide (b.Key = a.Key)) = true then ((p.length + q.findIdx fun b=>decide (b.Key = a.Key) : Nat) : Int) else -1)) ?_ ?_]
  · cases h : l.any (fun b=>decide (b.Key = a.Key))<;>simp [zAn]
  · intro s;rfl
  · intro p x q _ k _ hk
    simp only [zAn,zIi,hk]
    by_cases hx : x.Key = a.Key
    · simp [hx,List.findIdx_cons]
    · simp [hx,List.findIdx_cons];congr 1;omega
theorem zU4 (name : Txt) (l : List Pr) : zIj name l = some (zNc name l):=by
  unfold zIj zNc;rw [zSl,zAn]
  by_cases hn : zMt name = true
  · rw [hn,if_neg (by simp),if_pos rfl]
    by_cases hl : l.length > 4
    · rw [if_pos (by omega),if_pos hl]
    rw [if_neg (by omega),if_neg hl,zCc,zN4 _ _ (by omega)];refine zMz (fun p q _=>some (chk p q)) (fun _=>rfl) ?_;intro p x q _ k hp hk;subst hp;simp only [zAn,zSl,zUk,zCc,zW6,zTc p x (by simp at hl;omega),hk,chk]
    cases zMt x.Key<;>cases zTg x.Val<;>simp
    split<;>rfl
  · simp at hn
    rw [hn];rfl
end Go.Proofs.YthjhejgjcdajdaaGreatDoor
set_option linter.unusedVariables false
set_option linter.unusedSimpArgs false
namespace Go.Proofs.YthjhejgjcdajdaaGreatDoor
open Go Go.RowKit Go.Wk
def zPb (a : Pr) : List Pr → List Pr
  | []=>[a]
  | b :: l=>if Op.bytesLess a.Key b.Key = true then b :: zPb a l else a :: b :: l
def srt (l : List Pr) : List Pr:=(l.foldl (fun acc a=>zPb a acc) []).reverse
theorem zTo {α : Type} {p : List α} {x y : α} {q : List α} {i : Int} (h : i = p.length) : zK9 (p ++ x :: q) i y = p ++ y :: q:=by subst h;simp [zK9]
theorem zU8 (a b : Pr) : zEs a b = some (if Op.bytesLess a.Key b.Key = true then -1 else if Op.bytesLess b.Key a.Key = true then 1 else 0):=by
  simp [zEs,zHu,zH0];grind
theorem zbc (j : List Pr → Option (List Pr)) (x : Pr) : ∀ (pre rest : List Pr) (n : Nat),pre.length < n → pre.length < 4611686018427387904 →
    zAq 0 j n (pre.reverse ++ x :: rest) (pre.length : Int) = j ((zPb x pre).reverse ++ rest)
  | [],rest,n,h,_=>by
    obtain ⟨n,rfl⟩ : ∃ m,n = m + 1:=⟨n - 1,by omega⟩;rw [zAq,zCc,if_neg (by simp)];rfl
  | b :: pre,rest,n,h,hb=>by
    obtain ⟨n,rfl⟩ : ∃ m,n = m + 1:=⟨n - 1,by omega⟩;simp only [List.length_cons] at h hb
    have e1 : (b :: pre).reverse ++ x :: rest = (pre.reverse ++ [b]) ++ x :: rest:=by simp
    have e2 : (b :: pre).reverse ++ x :: rest = pre.reverse ++ b :: (x :: rest):=by simp
    have e3 : pre.reverse ++ b :: b :: rest = (pre.reverse ++ [b]) ++ b :: rest:=by simp
    have i1 : idx ((b :: pre).reverse ++ x :: rest) ((b :: pre).length : Int) = some x:=by rw [e1];exact zPt (by simp)
    have w1 : W64 (((b :: pre).length : Int) - 1) = (pre.length : Int):=by rw [List.length_cons,zBc (by omega) (by omega)];omega
    have i2 : idx ((b :: pre).reverse ++ x :: rest) (pre.length : Int) = some b:=by rw [e2];exact zPt (by simp)
    rw [zAq,zCc,if_pos (by simp only [List.length_cons];omega),i1,zAn,w1,i2,zAn,zU8,zAn,zAn,zAn]
    have s1 : zK9 ((b :: pre).reverse ++ x :: rest) ((b :: pre).length : Int) b = pre.reverse ++ b :: b :: rest:=by rw [e1,zTo (by simp)];simp
    rw [s1,zPt (by simp),zAn,zTo (by simp),show pre.reverse ++ x :: b :: rest = pre.reverse ++ x :: (b :: rest) from rfl,zbc j x pre (b :: rest) n (by omega) (by omega)];rw [zPb]
    by_cases hx : Op.bytesLess x.Key b.Key = true
    · simp [hx]
    · simp [hx];grind
theorem zbd (j : List Pr → Option (List Pr)) (N : Nat) (hN : N < 4611686018427387904) : ∀ (q p : List Pr) (n : Nat),q.length < n → p.length + q.length = N →
    zAm 0 N j n (p.reverse ++ q) (p.length : Int) = j (q.foldl (fun acc a=>zPb a acc) p).reverse
  | [],p,n,h,hl=>by
    obtain ⟨n,rfl⟩ : ∃ m,n = m + 1:=⟨n - 1,by omega⟩;rw [zAm,if_neg (by simp at hl;omega)];simp
  | x :: q,p,n,h,hl=>by
    obtain ⟨n,rfl⟩ : ∃ m,n = m + 1:=⟨n - 1,by omega⟩;simp only [List.length_cons] at h hl
    have hlen : ∀ p : List Pr,(zPb x p).length = p.length + 1:=by
      intro p
      induction p with
      | nil=>rfl
      | cons b p ih=>unfold zPb;split<;>simp [ih]
    rw [zAm,if_pos (by omega),zCc,zbc _ x p q _ (by unfold fuel;omega) (by omega)];have:=zbd j N hN q (zPb x p) n (by omega) (by rw [hlen];omega);rw [hlen] at this;rw [zDj (by omega),this,List.foldl_cons]
theorem zR3 (l : List Pr) (h : l.length < 4611686018427387904) : zB8 l 0 l.length = some (srt l):=by
  unfold zB8;rw [zCc,show W64 (0 + 1) = 1 by decide]
  match l with
  | []=>rfl
  | x :: l=>exact zbd some (x :: l).length h l [x] fuel (by unfold fuel;simp at h;omega) (by simp;omega)
theorem zTz (x : Pr) : ∀ p : List Pr,(zPb x p).length = p.length + 1
  | []=>rfl
  | b :: p=>by unfold zPb;split<;>simp [zTz x p]
theorem zT2 (l : List Pr) : (srt l).length = l.length:=by
  have : ∀ (l p : List Pr),(l.foldl (fun acc a=>zPb a acc) p).length = p.length + l.length:=by
    intro l
    induction l with
    | nil=>intro p;rfl
    | cons x l ih=>intro p;rw [List.foldl_cons,ih,zTz,List.length_cons];omega
  unfold srt;rw [List.length_reverse,this];simp
theorem zV2 (l : List Pr) (h : l.length ≤ 20) : zCz l l.length = some (srt l):=by
  obtain ⟨F,hF⟩ : ∃ m,fuel = m + 2:=zLk 2 (by omega);unfold zCz;simp only [zCc];rw [hF,zB6]
  by_cases h20 : l.length = 20
  · rw [if_pos (by omega),show (20 : Int) = (l.length : Int) by omega,zR3 l (by omega),zAn,zB6,if_neg (by rw [zBc (by omega) (by omega)];omega)]
    rw [zB8,zCc];rw [hF,zAm,if_neg (by rw [zBc (by omega) (by omega)];omega),zAn,zB7,if_neg (by omega)]
  · rw [if_neg (by omega),zR3 l (by omega),zAn,zB7,if_neg (by omega)]
theorem zV4 (l : List Pr) (h : l.length ≤ 20) : zJ9 l = some (srt l):=by
  unfold zJ9 zD2 zCp;rw [zBp (by simp;omega),zAn,List.nil_append,zV2 l h];rfl
theorem zb1 (x0 : List Pr) (y : Int) (a : Pr) (ha : idx x0 y = some a) (j : Int → Option (List Pr)) (post : List Pr) : ∀ (pre : List Pr) (n : Nat),pre.length < n → pre.length < 4611686018427387904 →
    zBq x0 (pre.reverse ++ post) y j n (pre.length : Int) = j ((pre.dropWhile fun b=>Op.bytesLess a.Key b.Key).length : Nat)
  | [],n,h,_=>by
    obtain ⟨n,rfl⟩ : ∃ m,n = m + 1:=⟨n - 1,by omega⟩;rw [zBq,zCc,if_neg (by simp)];rfl
  | b :: pre,n,h,hb=>by
    obtain ⟨n,rfl⟩ : ∃ m,n = m + 1:=⟨n - 1,by omega⟩;simp only [List.length_cons] at h hb
    have w1 : W64 (((b :: pre).length : Int) - 1) = (pre.length : Int):=by rw [List.length_cons,zBc (by omega) (by omega)];omega
    have e2 : (b :: pre).reverse ++ post = pre.reverse ++ b :: post:=by simp
    rw [zBq,zCc,if_pos (by simp only [List.length_cons];omega),w1,e2,zPt (by simp),zAn,ha,zAn];dsimp only
    by_cases hx : Op.bytesLess a.Key b.Key = true
    · rw [if_pos hx,List.dropWhile_cons,if_pos hx]
      have:=zb1 x0 y a ha j (b :: post) pre n (by omega) (by omega);simpa using this
    · rw [if_neg hx,List.dropWhile_cons,if_neg hx]
theorem zUl (a : Pr) (p : List Pr) : zPb a p = (p.takeWhile fun b=>Op.bytesLess a.Key b.Key) ++ a :: (p.dropWhile fun b=>Op.bytesLess a.Key b.Key):=by
  induction p with
  | nil=>rfl
  | cons b p ih=>unfold zPb;split<;>simp_all
theorem zSc (l : List Pr) (h : l.length ≤ 1048576) : zEn l = some (srt l):=by
  unfold zEn;rw [zCc,zIo _ _ _ (by omega)];rw [zLq (fun p s=>s.length = p.length) (fun _ q s=>some (q.foldl (fun acc a=>zPb a acc) s.reverse).reverse) rfl (fun s _=>by simp)]
  · rfl
  · intro p x q s k hp hs hk
    subst hp;have hx : idx (p ++ x :: q) (p.length : Int) = some x:=zKt p x q;have hr:=zb1 (p ++ x :: q) (p.length : Int) x hx;obtain ⟨pre,rfl⟩ : ∃ pre,s = pre.reverse:=⟨s.reverse,by simp⟩
    have hr:=fun j=>hr j [] pre fuel (by unfold fuel;simp at hs h;omega) (by simp at hs h;omega)
    simp only [List.append_nil] at hr;rw [zCc,List.length_reverse,hr];have hd : pre = (pre.takeWhile fun b=>Op.bytesLess x.Key b.Key) ++ (pre.dropWhile fun b=>Op.bytesLess x.Key b.Key):=(List.takeWhile_append_dropWhile ..).symm;have hsp:=zUl x pre;generalize (pre.takeWhile fun b=>Op.bytesLess x.Key b.Key) = u at hd hsp;generalize (pre.dropWhile fun b=>Op.bytesLess x.Key b.Key) = v at hd hsp
    have hl : u.length + v.length ≤ 1048576:=by
      have:=congrArg List.length hd;simp at this hs h;omega
    have e1 : pre.reverse = v.reverse ++ u.reverse:=by rw [hd];simp
    have c1 : zNx pre.reverse 0 (v.length : Int) = some v.reverse:=by rw [e1];have:=zW6 v.reverse u.reverse;simpa using this
    have c2 : zNx pre.reverse (v.length : Int) (pre.length : Nat) = some u.reverse:=by rw [e1,show pre.length = (v.reverse ++ u.reverse).length by rw [hd];simp;omega];have:=zW7 v.reverse u.reverse;rw [List.length_reverse] at this;exact this
    rw [c1,zAn,zBp (by simp;omega),zAn,zAn,zBp (by simp;omega),zAn,c2,zAn,zBp (by simp;omega),zAn,hk]
    · rw [List.foldl_cons];simp [hsp]
    · have:=congrArg List.length hd;simp at this hs ⊢;omega
end Go.Proofs.YthjhejgjcdajdaaGreatDoor
set_option linter.unusedVariables false
set_option linter.unusedSimpArgs false
namespace Go.Proofs.YthjhejgjcdajdaaGreatDoor
open Go Go.RowKit Go.Wk
theorem zYm (l : List Pr) (x : Pr) (y : Nat) (hx : idx l (y : Int) = some x) (j : Unit → Option Int) : ∀ (b a q : List Pr) (n : Nat),l = a ++ b ++ q → y = (a ++ b).length → b.length < n → l.length < 4611686018427387904 →
    zBv l y j n (a.length : Int) = if b.any (fun b=>decide (b.Key = x.Key)) = true then some 8 else j ()
  | [],a,q,n,hl,hy,h,_=>by
    obtain ⟨n,rfl⟩ : ∃ m,n = m + 1:=⟨n - 1,by omega⟩;rw [zBv,if_neg (by simp at hy;omega)];rfl
  | z :: b,a,q,n,hl,hy,h,hb=>by
    obtain ⟨n,rfl⟩ : ∃ m,n = m + 1:=⟨n - 1,by omega⟩;simp only [List.length_cons] at h
    have hz : idx l (a.length : Int) = some z:=by rw [hl,List.append_assoc];exact zKt _ _ _
    have ih:=zYm l x y hx j b (a ++ [z]) q n (by rw [hl];simp) (by rw [hy];simp) (by omega) hb;rw [zBv,if_pos (by rw [hy];simp;omega),hz,zAn,hx,zAn,zDj (by simp [hl] at hb;omega)];rw [List.length_append,List.length_singleton] at ih;rw [ih,List.any_cons]
    by_cases hk : z.Key = x.Key<;>simp [hk]
theorem zQ0 (name : Txt) (l : List Pr) : zDx name l = some (zNc name l):=by
  unfold zDx zNc;rw [zR0,zAn]
  by_cases hn : zMt name = true
  · rw [hn,if_neg (by simp),if_pos rfl]
    by_cases hl : l.length > 4
    · rw [if_pos (by omega),if_pos hl]
    rw [if_neg (by omega),if_neg hl,zCc,zJ2 _ _ (by omega)];refine zMz (fun p q _=>some (chk p q)) (fun _=>rfl) ?_;intro p x q _ k hp hk
    have h2:=fun j=>zYm l x p.length (by rw [← hp];exact zKt _ _ _) j p [] (x :: q) fuel (by simpa using hp.symm) (by simp) (by unfold fuel;simp [← hp] at hl;omega) (by omega)
    simp only [List.length_nil,Int.natCast_zero,Int.cast_ofNat_Int] at h2;simp only [zAn,zR0,zT3,zCc,h2,hk,chk]
    cases zMt x.Key<;>cases zTg x.Val<;>simp
    split<;>rfl
  · simp at hn
    rw [hn];rfl
def zSj (l : List Pr) : Bool:=decide (l.length ≤ 20) && l.all fun a=>decide (a.Key.length ≤ 100) && decide (a.Val.length ≤ 100)
theorem zXm (l : List Pr) : zEw l = some (zSj l):=by
  unfold zEw zSj
  by_cases h : l.length ≤ 20
  · rw [if_neg (by omega),zCc,zJ1 _ _ (by omega),zN (fun a=>decide (a.Key.length ≤ 100) && decide (a.Val.length ≤ 100)) (some false)]
    · simp [h];grind
    · intro i x k _
      simp only [zCc,zAn]
      grind
  · rw [if_pos (by omega)];simp [h]
def at1 (a : Pr) : Txt:=[59] ++ a.Key ++ [61] ++ a.Val
def zNr (l : List Pr) : Txt:=l.flatMap at1
theorem zOq (a : Pr) (l : List Pr) : zNr (a :: l) = at1 a ++ zNr l:=by simp [zNr]
theorem za5 (a : Pr) : (at1 a).length = a.Key.length + a.Val.length + 2:=by simp [at1];omega
theorem textL (l : List Pr) (h : l.length ≤ 4) (hs : ∀ a ∈ l,a.Key.length ≤ 32 ∧ a.Val.length ≤ 32) (s : Txt) (hs0 : s.length ≤ 1000) (j : Txt → Option (Txt × Int)) (hj : ∀ s,j s = some (s,0)) :
    zCv l j fuel 0 s = some (s ++ zNr l,0):=by
  rw [zNv _ _ _ (by omega)];refine zLq (fun p t=>t.length ≤ 1000 + 66 * p.length) (fun _ q t=>some (t ++ zNr q,0)) (by simp;omega) (fun s _=>by simp [hj,zNr]) ?_;intro p x q t k hp ht hk;have hx:=hs x (by simp [← hp])
  have hpl : p.length ≤ 4:=by rw [← hp] at h;simp at h;omega
  rw [zAn,zGe (by simp;omega),zAn,zGe (by simp;omega),zAn,zGe (by simp;omega),zAn,zBp (by simp;omega),zAn,hk]
  · rw [zOq];simp [at1]
  · simp;omega
theorem zXd (l : List Pr) (h : l.length ≤ 4) (hs : ∀ a ∈ l,a.Key.length ≤ 32 ∧ a.Val.length ≤ 32) (s : Txt) (hs0 : s.length ≤ 1000) (j : Txt → Option (Txt × Int)) (hj : ∀ s,j s = some (s,0)) :
    zAz l j fuel s 0 = some (s ++ zNr l,0):=by
  rw [zJh _ _ _ (by omega)];refine zLq (fun p t=>t.length ≤ 1000 + 66 * p.length) (fun _ q t=>some (t ++ zNr q,0)) (by simp;omega) (fun s _=>by simp [hj,zNr]) ?_;intro p x q t k hp ht hk;have hx:=hs x (by simp [← hp])
  have hpl : p.length ≤ 4:=by rw [← hp] at h;simp at h;omega
  simp only [zAn];rw [zGe (by simp;omega),zAn,zGe (by simp;omega),zAn,zGe (by simp;omega),zAn,zGe (by simp;omega),zAn,hk]
  · rw [zOq];simp [at1]
  · simp;omega
theorem zLt {s : Txt} (h : zMt s = true) : s.length ≤ 32:=by unfold zMt at h;simp at h;exact h.1
theorem zRa {s : Txt} (h : zTg s = true) : s.length ≤ 32:=by unfold zTg at h;simp at h;exact h.1.1
theorem zWa : ∀ (l p : List Pr),chk p l = 0 → ∀ a ∈ l,zMt a.Key = true ∧ zTg a.Val = true ∧ ∀ b ∈ p,b.Key ≠ a.Key
  | [],p,_,a,ha=>by cases ha
  | x :: l,p,h,a,ha=>by
    rw [chk] at h
    split at h
    · rename_i hx
      split at h
      · cases h
      · rename_i hp
        rcases List.mem_cons.1 ha with rfl|ha
        · simp at hx hp;exact ⟨hx.1,hx.2,hp⟩
        · have:=zWa l (p ++ [x]) h a ha
          exact ⟨this.1,this.2.1,fun b hb=>this.2.2 b (by simp [hb])⟩
    · cases h
theorem zRr {name : Txt} {l : List Pr} (h : zNc name l = 0) : zMt name = true ∧ l.length ≤ 4 ∧ chk [] l = 0:=by
  unfold zNc at h
  split at h
  · split at h
    · cases h
    · exact ⟨by assumption,by omega,h⟩
  · cases h
theorem zRp (x a : Pr) : ∀ p : List Pr,a ∈ zPb x p ↔ a = x ∨ a ∈ p
  | []=>by simp [zPb]
  | b :: p=>by unfold zPb;split<;>simp [zRp x a p];grind
theorem zT1 (a : Pr) (l : List Pr) : a ∈ srt l ↔ a ∈ l:=by
  have : ∀ (l p : List Pr),a ∈ (l.foldl (fun acc a=>zPb a acc) p) ↔ a ∈ p ∨ a ∈ l:=by
    intro l
    induction l with
    | nil=>intro p;simp
    | cons x l ih=>intro p;rw [List.foldl_cons,ih,zRp];simp;grind
  unfold srt;rw [List.mem_reverse,this];simp
def zak (name : Txt) (l : List Pr) : Txt × Int:=if zNc name l = 0 then (name ++ zNr (srt l),0) else ([],zNc name l)
theorem zZ5 (name : Txt) (l : List Pr) : zJj name l = some (zak name l):=by
  unfold zJj zak;rw [zU4,zAn]
  by_cases h : zNc name l = 0
  · rw [if_neg (by omega),if_pos h]
    obtain ⟨h1,h2,h3⟩:=zRr h;have h4:=zLt h1;rw [zBp (by simp;omega),zAn,zV4 l (by omega),zAn,zCc,List.nil_append]
    refine textL _ (by rw [zT2];exact h2) (fun a ha=>?_) name (by omega) _ fun _=>rfl
    have:=zWa l [] h3 a ((zT1 a l).1 ha);exact ⟨zLt this.1,zRa this.2.1⟩
  · rw [if_pos h,if_neg h]
theorem zUe (name : Txt) (l : List Pr) : zE2 name l = some (zak name l):=by
  unfold zE2 zak;rw [zQ0,zAn]
  by_cases h : zNc name l = 0
  · rw [if_neg (by omega),if_pos h]
    obtain ⟨h1,h2,h3⟩:=zRr h;have h4:=zLt h1;rw [zSc l (by omega),zAn,zCc]
    refine zXd _ (by rw [zT2];exact h2) (fun a ha=>?_) name (by omega) _ fun _=>rfl
    have:=zWa l [] h3 a ((zT1 a l).1 ha);exact ⟨zLt this.1,zRa this.2.1⟩
  · rw [if_pos h,if_neg h]
end Go.Proofs.YthjhejgjcdajdaaGreatDoor
set_option linter.unusedVariables false
set_option linter.unusedSimpArgs false
namespace Go.Proofs.YthjhejgjcdajdaaGreatDoor
open Go Go.RowKit Go.Wk
end Go.Proofs.YthjhejgjcdajdaaGreatDoor
set_option linter.unusedVariables false
set_option linter.unusedSimpArgs false
namespace Go.Proofs.YthjhejgjcdajdaaGreatDoor
open Go Go.RowKit Go.Wk
end Go.Proofs.YthjhejgjcdajdaaGreatDoor
set_option linter.unusedVariables false
set_option linter.unusedSimpArgs false
namespace Go.Proofs.YthjhejgjcdajdaaGreatDoor
open Go Go.RowKit Go.Wk
end Go.Proofs.YthjhejgjcdajdaaGreatDoor
set_option linter.unusedVariables false
set_option linter.unusedSimpArgs false
namespace Go.Proofs.YthjhejgjcdajdaaGreatDoor
open Go Go.RowKit Go.Wk
theorem zXl {x y : Txt} (h : Op.bytesLess x y = true) : Op.bytesLess y x = false:=by
  rw [bytesLess_eq] at h ⊢;simp at h ⊢;exact List.le_of_lt h
theorem le_trans {x y z : Txt} (h : Op.bytesLess y x = false) (h' : Op.bytesLess z y = false) : Op.bytesLess z x = false:=by
  rw [bytesLess_eq] at h h' ⊢;simp at h h' ⊢;exact List.le_trans h h'
def ge (a b : Pr) : Prop:=Op.bytesLess a.Key b.Key = false
theorem zSm (x : Pr) : ∀ p : List Pr,(zPb x p).Perm (x :: p)
  | []=>.refl _
  | b :: p=>by
    unfold zPb;split
    · exact ((zSm x p).cons b).trans (.swap x b p)
    · exact .refl _
theorem zVw (x : Pr) : ∀ p : List Pr,p.Pairwise ge → (zPb x p).Pairwise ge
  | [],_=>by simp [zPb]
  | b :: p,h=>by
    obtain ⟨h1,h2⟩:=List.pairwise_cons.1 h;unfold zPb;split
    · rename_i hx
      refine List.pairwise_cons.2 ⟨fun a ha=>?_,zVw x p h2⟩
      rcases (zRp x a p).1 ha with rfl|ha
      · exact zXl hx
      · exact h1 a ha
    · rename_i hx
      simp only [Bool.not_eq_true] at hx;refine List.pairwise_cons.2 ⟨fun a ha=>?_,h⟩
      rcases List.mem_cons.1 ha with rfl|ha
      · exact hx
      · exact le_trans (h1 a ha) hx
theorem zW : ∀ (l p : List Pr),p.Pairwise ge → (l.foldl (fun acc a=>zPb a acc) p).Pairwise ge ∧ (l.foldl (fun acc a=>zPb a acc) p).Perm (l.reverse ++ p)
  | [],p,h=>⟨h,.refl _⟩
  | x :: l,p,h=>by
    obtain ⟨h1,h2⟩:=zW l (zPb x p) (zVw x p h);refine ⟨h1,h2.trans ?_⟩;rw [List.reverse_cons,List.append_assoc];exact (zSm x p).append_left _
theorem zX3 (l : List Pr) : (srt l).Perm l:=by
  have:=(zW l [] .nil).2;rw [List.append_nil] at this;exact (List.reverse_perm _).trans (this.trans (List.reverse_perm l))
theorem zTd : ∀ (l p : List Pr),chk p l = 0 ↔ (∀ a ∈ l,zMt a.Key = true ∧ zTg a.Val = true) ∧ (∀ a ∈ l,∀ b ∈ p,b.Key ≠ a.Key) ∧ l.Pairwise (fun a b=>a.Key ≠ b.Key)
  | [],p=>by simp [chk]
  | x :: l,p=>by
    rw [chk]
    by_cases hx : (zMt x.Key && zTg x.Val) = true
    · rw [if_pos hx]
      by_cases hp : p.any (fun b=>decide (b.Key = x.Key)) = true
      · rw [if_pos hp]
        simp at hp;obtain ⟨b,hb,hk⟩:=hp
        constructor
        · intro h;cases h
        · intro h;exact absurd hk (h.2.1 x (by simp) b hb)
      · rw [if_neg hp,zTd l (p ++ [x])]
        simp at hx hp ⊢
        grind
    · rw [if_neg hx]
      simp at hx ⊢
      grind
theorem zZx {l : List Pr} (h : chk [] l = 0) : chk [] (srt l) = 0:=by
  rw [zTd] at h ⊢;refine ⟨fun a ha=>h.1 a ((zT1 a l).1 ha),fun _ _ _ hb=>(by cases hb),?_⟩;exact ((zX3 l).pairwise_iff (fun {x y} h=>h.symm)).2 h.2.2
def body (a : Pr) : Txt:=a.Key ++ 61 :: a.Val
end Go.Proofs.YthjhejgjcdajdaaGreatDoor
set_option linter.unusedVariables false
set_option linter.unusedSimpArgs false
namespace Go.Proofs.YthjhejgjcdajdaaGreatDoor
open Go Go.RowKit Go.Wk
theorem zVq {l : List Pr} (h : zSj l = true) : l.length ≤ 20:=by unfold zSj at h;simp at h;exact h.1
theorem zRb {name : Txt} {l : List Pr} (h : zNc name l = 0) : (name ++ zNr (srt l)).length ≤ 32 + 66 * 4:=by
  obtain ⟨h1,h2,h3⟩:=zRr h;have:=zLt h1
  have ht : ∀ m : List Pr,(∀ a ∈ m,a.Key.length ≤ 32 ∧ a.Val.length ≤ 32) → (zNr m).length ≤ 66 * m.length:=by
    intro m
    induction m with
    | nil=>intro _;simp [zNr]
    | cons a m ih=>intro hm;have:=ih fun b hb=>hm b (by simp [hb]);have:=hm a (by simp);rw [zOq,List.length_append,za5,List.length_cons];omega
  have hs:=(zTd _ _).1 (zZx h3)
  have:=ht (srt l) fun a ha=>⟨zLt (hs.1 a ha).1,zRa (hs.1 a ha).2⟩
  rw [zT2] at this;rw [List.length_append];omega
end Go.Proofs.YthjhejgjcdajdaaGreatDoor
set_option maxRecDepth 20000
set_option linter.unusedVariables false
set_option linter.unusedSimpArgs false
namespace Go.Proofs.YthjhejgjcdajdaaGreatDoor
open Go Go.RowKit Go.Wk
def zXu (x : UInt64) : Bool:=decide (x.toNat / 4503599627370496 % 2048 ≠ 2047)
theorem zab (x : Nat) : x &&& 9218868437227405312 = (x / 4503599627370496 % 2048) * 4503599627370496:=by
  have e1 : x / 4503599627370496 % 2048 = (x >>> 52) &&& (2 ^ 11 - 1):=by rw [Nat.and_two_pow_sub_one_eq_mod,Nat.shiftRight_eq_div_pow]
  have e2 : ((x >>> 52) &&& (2 ^ 11 - 1)) * 4503599627370496 = ((x >>> 52) &&& (2 ^ 11 - 1)) <<< 52:=by rw [Nat.shiftLeft_eq]
  rw [e1,e2]
  apply Nat.eq_of_testBit_eq
  intro i;rw [Nat.testBit_and,Nat.testBit_shiftLeft,Nat.testBit_and,Nat.testBit_shiftRight,Nat.testBit_two_pow_sub_one,show (9218868437227405312 : Nat) = (2 ^ 11 - 1) <<< 52 by decide,Nat.testBit_shiftLeft,Nat.testBit_two_pow_sub_one]
  by_cases h : i ≥ 52
  · rw [show 52 + (i - 52) = i by omega]
    simp [h]
  · simp [h]
theorem zbh (x : UInt64) : zLb x = some (zXu x):=by
  unfold zLb zXu
  congr 1
  apply decide_eq_decide.2
  rw [UInt64.toNat_and,show (9218868437227405312 : UInt64).toNat = 9218868437227405312 by rfl,zab]
  omega
theorem zZd (x : UInt64) (k : UInt64) (hk : k ≠ 0) : quo64 x k = some (UInt64.ofNat (x.toNat / k.toNat)):=by
  unfold quo64;rw [if_neg hk]
  congr 1
  apply UInt64.toNat_inj.1
  have:=x.toNat_lt;rw [UInt64.toNat_div,zF8 (Nat.lt_of_le_of_lt (Nat.div_le_self _ _) (by omega))]
theorem zUd (x : UInt64) (k : UInt64) (hk : k ≠ 0) : rem64 x k = some (UInt64.ofNat (x.toNat % k.toNat)):=by
  unfold rem64;rw [if_neg hk]
  congr 1
  apply UInt64.toNat_inj.1
  have:=x.toNat_lt;rw [UInt64.toNat_mod,zF8 (Nat.lt_of_le_of_lt (Nat.mod_le _ _) (by omega))]
theorem zZb (x : UInt64) : zEp x = some (zXu x):=by
  have hx:=x.toNat_lt;unfold zEp zXu;rw [zZd _ _ (by decide),zAn,zUd _ _ (by decide),zAn,show (4503599627370496 : UInt64).toNat = 4503599627370496 by rfl,show (2048 : UInt64).toNat = 2048 by rfl,zF8 (n:=x.toNat / 4503599627370496) (by omega),zF8 (n:=x.toNat / 4503599627370496 % 2048) (by omega)]
  congr 1
  apply decide_eq_decide.2
  omega
def ltZ (x : UInt64) : Bool:=decide (9223372036854775808 ≤ x.toNat ∧ x.toNat % 9223372036854775808 ≠ 0 ∧ x.toNat % 9223372036854775808 ≤ 9218868437227405312)
theorem zXa (x : UInt64) : zFm x 0 = some (ltZ x):=by
  have hx:=x.toNat_lt
  have o0 : zDr 0 = some false:=by decide
  have ox : zDr x = some (decide (x.toNat % 9223372036854775808 > 9218868437227405312)):=by
    unfold zDr;simp only [zCc];rw [zZd _ _ (by decide),zAn,zUd _ _ (by decide),zAn,zUd _ _ (by decide),zAn,show (4503599627370496 : UInt64).toNat = 4503599627370496 by rfl,show (2048 : UInt64).toNat = 2048 by rfl,zF8 (n:=x.toNat / 4503599627370496) (by omega),zF8 (n:=x.toNat / 4503599627370496 % 2048) (by omega),zF8 (n:=x.toNat % 4503599627370496) (by omega)]
    by_cases h : x.toNat / 4503599627370496 % 2048 = 2047
    · rw [if_pos (by omega)];congr 1;apply decide_eq_decide.2;omega
    · rw [if_neg (by omega)];congr 1;symm;rw [decide_eq_false_iff_not];omega
  unfold zFm ltZ;simp only [zCc];rw [ox,zAn,o0,zAn,zUd _ _ (by decide),zAn,zUd _ _ (by decide),zAn,show (9223372036854775808 : UInt64).toNat = 9223372036854775808 by rfl,zF8 (by omega),show (0 : UInt64).toNat = 0 by rfl]
  by_cases h1 : x.toNat % 9223372036854775808 > 9218868437227405312
  · rw [if_pos (decide_eq_true h1),if_pos (by first | trivial | rfl)];congr 1;symm;rw [decide_eq_false_iff_not];omega
  · rw [if_neg (by rw [decide_eq_false h1];decide),if_neg (by decide)]
    by_cases h2 : x.toNat % 9223372036854775808 = 0
    · rw [if_pos ⟨by omega,by rfl⟩];congr 1;symm;rw [decide_eq_false_iff_not];omega
    · rw [if_neg (fun k=>h2 (by have:=k.1;omega)),if_neg (by omega)]
      by_cases h3 : x.toNat < 9223372036854775808
      · rw [if_pos ⟨by omega,by decide⟩];congr 1;apply decide_eq_decide.2
        rw [show (UInt64.ofNat (0 % 9223372036854775808)).toNat = 0 by rfl];omega
      · rw [if_neg (fun k=>h3 (by have:=k.1;omega))];congr 1;apply decide_eq_decide.2;omega
theorem zZn (x : UInt64) : zNo x 0 = some (ltZ x):=by
  have hx:=x.toNat_lt;unfold zNo zPs zXs ltZ;rw [zAn,zAn]
  congr 1
  have r0 : Ieee.Format.read Ieee.double (0 : UInt64).toNat = .number false 0 (-1074):=by decide
  show (Ieee.Datum.order (Ieee.Format.read Ieee.double x.toNat) (Ieee.Format.read Ieee.double (0 : UInt64).toNat) == some .lt) = _;rw [r0];generalize x.toNat = v at *;unfold Ieee.Format.read
  have sw : Ieee.double.signWeight = 9223372036854775808:=by decide
  have bn : Ieee.double.binade = 4503599627370496:=by decide
  have ir : Ieee.double.infRung = 9218868437227405312:=by decide
  have lp : Ieee.double.leastPlace = -1074:=by decide
  dsimp only;rw [sw,bn,ir,lp]
  have hs : (v / 9223372036854775808 % 2 == 1) = decide (9223372036854775808 ≤ v):=by
    by_cases h : 9223372036854775808 ≤ v
    · rw [decide_eq_true h];have : v / 9223372036854775808 % 2 = 1:=by omega
      rw [this];rfl
    · rw [decide_eq_false h];have : v / 9223372036854775808 % 2 = 0:=by omega
      rw [this];rfl
  rw [hs];generalize hb : decide (9223372036854775808 ≤ v) = s
  have hb' : s = true ↔ 9223372036854775808 ≤ v:=by rw [← hb];exact decide_eq_true_iff
  have cmp : ∀ (m k : Nat),(Ieee.Datum.order (.number s m (-1074 + (k : Int))) (.number false 0 (-1074)) == some .lt) = decide (s = true ∧ m ≠ 0):=by
    intro m k
    have e1 : min (-1074 + (k : Int)) (-1074) = -1074:=by omega
    show (some (compare (Ieee.signed s m ((-1074 + (k : Int)) - min (-1074 + (k : Int)) (-1074)).toNat) (Ieee.signed false 0 ((-1074 : Int) - min (-1074 + (k : Int)) (-1074)).toNat)) == some .lt) = _;rw [e1,show ((-1074 + (k : Int)) - (-1074)).toNat = k by omega,show ((-1074 : Int) - (-1074)).toNat = 0 by rfl];unfold Ieee.signed;rw [if_neg (show ¬ (false = true) by decide),show ((0 <<< 0 : Nat) : Int) = 0 by rfl,Nat.shiftLeft_eq];have hp:=Nat.two_pow_pos k
    cases s with
    | false=>
      have : ¬ (((m * 2 ^ k : Nat) : Int) < 0):=by omega
      simp only [compare,compareOfLessAndEq];rw [if_neg (show ¬ (if false = true then -((m * 2 ^ k : Nat) : Int) else ((m * 2 ^ k : Nat) : Int)) < 0 from this)]
      (repeat' split)<;>first | rfl | (exfalso;simp_all) | simp
    | true=>
      by_cases hm : m = 0
      · subst hm;simp [compare,compareOfLessAndEq]
      · have h0 : 0 < m * 2 ^ k:=Nat.mul_pos (by omega) hp
        have : (-((m * 2 ^ k : Nat) : Int) < 0):=by omega
        simp only [compare,compareOfLessAndEq];rw [if_pos (show (if True then -((m * 2 ^ k : Nat) : Int) else ((m * 2 ^ k : Nat) : Int)) < 0 by rw [if_pos trivial];exact this)];simp [hm]
  by_cases h1 : v % 9223372036854775808 < 4503599627370496
  · rw [if_pos h1]
    refine (cmp (v % 9223372036854775808) 0).trans ?_
    apply decide_eq_decide.2;rw [hb'];omega
  · rw [if_neg h1]
    by_cases h2 : v % 9223372036854775808 < 9218868437227405312
    · rw [if_pos h2]
      refine (cmp (4503599627370496 + v % 9223372036854775808 % 4503599627370496) _).trans ?_
      apply decide_eq_decide.2;rw [hb'];omega
    · rw [if_neg h2]
      by_cases h3 : v % 9223372036854775808 = 9218868437227405312
      · rw [if_pos h3]
        show (some (if s = true then Ordering.lt else .gt) == some .lt) = _
        have : decide (s = true) = decide (9223372036854775808 ≤ v ∧ v % 9223372036854775808 ≠ 0 ∧ v % 9223372036854775808 ≤ 9218868437227405312):=by apply decide_eq_decide.2;rw [hb'];omega
        rw [← this];cases s<;>rfl
      · rw [if_neg h3]
        show false = _
        symm;rw [decide_eq_false_iff_not];omega
end Go.Proofs.YthjhejgjcdajdaaGreatDoor
set_option linter.unusedVariables false
set_option linter.unusedSimpArgs false
namespace Go.Proofs.YthjhejgjcdajdaaGreatDoor
open Go Go.RowKit Go.Wk
abbrev Pt:=zA9
def zO3 (p : Pt) : Bool:=if p.Kind = 3 then decide (p.Temp = 0) else decide (1 ≤ p.Kind ∧ p.Kind ≤ 5) && decide (p.Temp = 1 ∨ p.Temp = 2)
theorem zXn (p : Pt) : zK1 p = some (zO3 p):=by
  unfold zK1 zO3;rw [zCc]
  by_cases h3 : p.Kind = 3
  · rw [if_pos h3,if_pos h3]
  · rw [if_neg h3,if_neg h3]
    by_cases h1 : p.Kind = 1
    · simp [h1]
    · by_cases h2 : p.Kind = 2
      · simp [h2]
      · by_cases h4 : p.Kind = 4
        · simp [h4]
        · by_cases h5 : p.Kind = 5
          · simp [h5]
          · have : ¬ (1 ≤ p.Kind ∧ p.Kind ≤ 5):=by omega
            simp [h1,h2,h4,h5,this]
def zMy (p : Pt) : Bool:=decide (0 ≤ p.Start ∧ p.Time ≤ 4503599627370496 ∧ (if p.Kind = 3 then p.Start = p.Time else p.Start < p.Time))
theorem zX1 (p : Pt) : zK0 p = some (zMy p):=by
  unfold zK0 zMy
  by_cases h : p.Start < 0 ∨ p.Time > 4503599627370496
  · rw [if_pos h];congr 1;symm;rw [decide_eq_false_iff_not];omega
  · rw [if_neg h]
    split<;>(congr 1;apply decide_eq_decide.2;omega)
def zNe (h : zA2) : Bool:=decide (h.Scale = 0 ∧ h.Zero = 0 ∧ h.Pos.Offset = 0 ∧ h.Neg.Offset = 0 ∧ h.Pos.Counts = [] ∧ h.Neg.Counts = [])
theorem zau (x : UInt64) : ((x.toNat : Nat) : Int) = 0 ↔ x = 0:=by
  constructor
  · intro h;apply UInt64.toNat_inj.1;simp;omega
  · rintro rfl;rfl
theorem za2 (h : zA2) (h1 : h.Pos.Counts.length ≤ 1000000) (h2 : h.Neg.Counts.length ≤ 1000000) : zL7 h = some (zNe h):=by
  unfold zL7 zNe;rw [zCc,zBc (by omega) (by omega)];simp only [zau]
  have e : ((h.Pos.Counts.length : Int) + (h.Neg.Counts.length : Int) = 0) ↔ h.Pos.Counts = [] ∧ h.Neg.Counts = []:=by
    rw [← List.length_eq_zero_iff,← List.length_eq_zero_iff];omega
  simp only [e]
  split
  · rename_i hh;congr 1;apply decide_eq_decide.2;simp [hh]
  · rename_i hh;congr 1;symm;rw [decide_eq_false_iff_not];intro hc;exact hh ⟨⟨⟨hc.1,hc.2.1⟩,hc.2.2.1⟩,hc.2.2.2.1⟩
def zUr (p : Pt) : Bool:=decide ((p.Kind ≠ 1 → p.Int_ = 0) ∧ (¬ (p.Kind = 2 ∨ p.Kind = 3 ∨ p.Kind = 5) → p.Re = 0) ∧ (p.Kind ≠ 5 → p.Im = 0) ∧ (p.Kind ≠ 4 → zNe p.Hist = true) ∧ 0 ≤ p.Flags ∧ p.Flags ≤ 31)
theorem zb4 (p : Pt) (h1 : p.Hist.Pos.Counts.length ≤ 1000000) (h2 : p.Hist.Neg.Counts.length ≤ 1000000) : zMb p = some (zUr p):=by
  unfold zMb zUr;rw [zCc,za2 _ h1 h2,zCc];simp only [zau,ne_eq]
  by_cases a1 : ¬ p.Kind = 1 ∧ ¬ p.Int_ = 0
  · rw [if_pos a1,decide_eq_true a1,if_pos rfl];congr 1;symm;rw [decide_eq_false_iff_not];intro hc;exact a1.2 (hc.1 a1.1)
  · rw [if_neg a1]
    by_cases a2 : (¬ ((p.Kind = 2 ∨ p.Kind = 3) ∨ p.Kind = 5)) ∧ ¬ p.Re = 0
    · rw [if_pos a2,decide_eq_true a2,if_pos rfl];congr 1;symm;rw [decide_eq_false_iff_not];intro hc;exact a2.2 (hc.2.1 (by intro h;exact a2.1 (by omega)))
    · rw [if_neg a2]
      by_cases a3 : ¬ p.Kind = 5 ∧ ¬ p.Im = 0
      · rw [if_pos a3,decide_eq_true a3,if_pos rfl];congr 1;symm;rw [decide_eq_false_iff_not];intro hc;exact a3.2 (hc.2.2.1 a3.1)
      · rw [if_neg a3]
        have b1 : ¬ p.Kind = 1 → p.Int_ = 0:=fun h=>Classical.byContradiction fun h'=>a1 ⟨h,h'⟩
        have b2 : ¬ (p.Kind = 2 ∨ p.Kind = 3 ∨ p.Kind = 5) → p.Re = 0:=fun h=>Classical.byContradiction fun h'=>a2 ⟨by omega,h'⟩
        have b3 : ¬ p.Kind = 5 → p.Im = 0:=fun h=>Classical.byContradiction fun h'=>a3 ⟨h,h'⟩
        by_cases a4 : p.Kind = 4
        · rw [if_neg (by simpa using a4)]
          simp only [Bool.false_eq_true,if_false]
          by_cases a5 : p.Flags < 0 ∨ p.Flags > 31
          · rw [decide_eq_true a5,if_pos rfl];congr 1;symm;rw [decide_eq_false_iff_not];omega
          · rw [decide_eq_false a5];simp only [Bool.false_eq_true,if_false];congr 1;symm;rw [decide_eq_true_iff];exact ⟨b1,b2,b3,fun h=>(h a4).elim,by omega,by omega⟩
        · rw [if_pos a4,zAn]
          cases hb : zNe p.Hist with
          | false=>simp only [Bool.not_false,if_true];congr 1;symm;rw [decide_eq_false_iff_not];intro hc;have:=hc.2.2.2.1 a4;cases this
          | true=>
            simp only [Bool.not_true,Bool.false_eq_true,if_false]
            by_cases a5 : p.Flags < 0 ∨ p.Flags > 31
            · rw [decide_eq_true a5,if_pos rfl];congr 1;symm;rw [decide_eq_false_iff_not];omega
            · rw [decide_eq_false a5];simp only [Bool.false_eq_true,if_false];congr 1;symm;rw [decide_eq_true_iff];exact ⟨b1,b2,b3,fun _=>by first | rfl | trivial,by omega,by omega⟩
end Go.Proofs.YthjhejgjcdajdaaGreatDoor
set_option maxRecDepth 20000
set_option linter.unusedVariables false
set_option linter.unusedSimpArgs false
namespace Go.Proofs.YthjhejgjcdajdaaGreatDoor
open Go Go.RowKit Go.Wk
def pcE (p : Pt) : Int:=
  if zNc p.Name p.Attrs ≠ 0 then zNc p.Name p.Attrs
  else if zO3 p = false then 14
  else if p.Mono = true ∧ p.Kind ≠ 1 ∧ p.Kind ≠ 2 then 1
  else if zMy p = false then 1
  else if zUr p = false then 3
  else if (p.Mono = true ∧ p.Kind = 2) ∧ zXu p.Re = false then 11
  else if p.Mono = true ∧ (p.Int_ < 0 ∨ ltZ p.Re = true) then 1
  else if p.Kind = 4 then hcE p.Hist else 0
theorem zWs (p : Pt) (h1 : p.Hist.Pos.Counts.length ≤ 1000000) (h2 : p.Hist.Neg.Counts.length ≤ 1000000) : zHk p = some (pcE p):=by
  unfold zHk pcE zO5;rw [zU4,zAn]
  by_cases c : zNc p.Name p.Attrs ≠ 0
  · rw [if_pos c,if_pos c]
  rw [if_neg c,if_neg c,zXn,zAn]
  cases hk : zO3 p with
  | false=>rw [if_pos (by rfl),if_pos rfl]
  | true=>
    rw [if_neg (by decide),if_neg (show ¬ (true = false) by decide)];simp only [zCc,zAn,zX1,zb4 p h1 h2,zbh,zZn,zSv p.Hist h1 h2]
    have e1 : (p.Mono = true ∧ p.Kind ≠ 1 ∧ p.Kind ≠ 2) ↔ (if p.Mono = true then (!decide ((p.Kind = 1) ∨ (p.Kind = 2))) else false) = true:=by
      cases p.Mono<;>simp
    cases hm : p.Mono with
    | false=>
      simp only [Bool.false_eq_true,if_false,false_and]
      cases zMy p<;>simp
      cases zUr p<;>simp
      split<;>rfl
    | true=>
      simp only [if_true,true_and]
      by_cases hs : p.Kind = 1 ∨ p.Kind = 2
      · rw [decide_eq_true hs]
        simp only [Bool.not_true,Bool.false_eq_true,if_false];rw [if_neg (show ¬ (p.Kind ≠ 1 ∧ p.Kind ≠ 2) by omega)]
        cases zMy p<;>simp
        cases zUr p<;>simp
        have h4 : ¬ p.Kind = 4:=by omega
        by_cases h2 : p.Kind = 2
        · simp only [h2,if_true,true_and]
          cases zXu p.Re<;>simp
          by_cases hi : p.Int_ < 0
          · simp [hi]
          · simp [hi];split<;>rfl
        · simp only [h2,if_false,false_and]
          by_cases hi : p.Int_ < 0
          · simp [hi]
          · simp [hi,h4];split<;>rfl
      · rw [decide_eq_false hs,if_pos (show p.Kind ≠ 1 ∧ p.Kind ≠ 2 by omega)]
        simp
end Go.Proofs.YthjhejgjcdajdaaGreatDoor
set_option linter.unusedVariables false
set_option linter.unusedSimpArgs false
namespace Go.Proofs.YthjhejgjcdajdaaGreatDoor
open Go Go.RowKit Go.Wk
theorem u64ne (x y : UInt64) : (((x.toNat : Nat) : Int) ≠ ((y.toNat : Nat) : Int)) ↔ x ≠ y:=by
  constructor
  · rintro h rfl;exact h rfl
  · intro h hh;exact h (UInt64.toNat_inj.1 (by omega))
theorem u64eq (x y : UInt64) : (((x.toNat : Nat) : Int) = ((y.toNat : Nat) : Int)) ↔ x = y:=by
  constructor
  · intro hh;exact UInt64.toNat_inj.1 (by omega)
  · rintro rfl;rfl
theorem zV8 {α : Type} [DecidableEq α] (a b : List α) (hl : a.length = b.length) (B : Nat → α → Unit → (Unit → Option Bool) → Option Bool) (J : Unit → Option Bool) (hJ : J () = some true)
    (hB : ∀ i x k,B i x () k = (idx b (i : Int)).bind fun y=>if x ≠ y then some false else k ()) : zEm a () B J = some (decide (a = b)):=by
  rw [zMz (fun p q _=>some (decide (q = b.drop p.length))) ?_ ?_]
  · simp
  · intro s;rw [hJ];simp [hl]
  · intro p x q _ k hp hk
    rw [hB,hk]
    have : p.length < b.length:=by rw [← hl,← hp];simp
    rw [zGm this,zAn,List.drop_eq_getElem_cons this,List.length_append,List.length_singleton]
    by_cases hx : x = b[p.length]
    · rw [if_neg (fun h=>h hx)];congr 1;apply decide_eq_decide.2;rw [List.cons.injEq];exact ⟨fun h=>⟨hx,h⟩,fun h=>h.2⟩
    · rw [if_pos hx,decide_eq_false];rw [List.cons.injEq];exact fun h=>hx h.1
theorem zPp (a b : zAd) : a = b ↔ a.Offset = b.Offset ∧ a.Counts = b.Counts:=by cases a;cases b;simp
theorem zTr (a b : zAd) (h : a.Counts.length ≤ 1000000) : zDf a b = some (decide (a = b)):=by
  unfold zDf
  by_cases hc : a.Offset ≠ b.Offset ∨ (a.Counts.length : Int) ≠ (b.Counts.length : Int)
  · rw [if_pos hc];congr 1;symm;rw [decide_eq_false_iff_not,zPp];rintro ⟨h1,h2⟩;rw [h1,h2] at hc;simp at hc
  · rw [if_neg hc,zCc,zId _ _ _ (by omega)]
    have:=zV8 a.Counts b.Counts (by omega) (fun ii xx ss kk=>(some xx).bind fun z21=>(idx b.Counts (ii : Int)).bind fun z24=>if ((z21).toNat : Int) ≠ ((z24).toNat : Int) then (some false) else (kk ())) (fun _=>some true) rfl fun i x k=>by rw [zAn];simp only [u64ne]
    refine this.trans ?_
    congr 1;apply decide_eq_decide.2;rw [zPp];constructor
    · intro h;exact ⟨by omega,h⟩
    · exact fun h=>h.2
theorem zPu (a b : zA2) : a = b ↔ (a.Scale = b.Scale ∧ a.Zero = b.Zero) ∧ a.Pos = b.Pos ∧ a.Neg = b.Neg:=by cases a;cases b;simp [and_assoc]
theorem zXf (a b : zA2) (h1 : a.Pos.Counts.length ≤ 1000000) (h2 : a.Neg.Counts.length ≤ 1000000) : zFl a b = some (decide (a = b)):=by
  unfold zFl;rw [zTr _ _ h1,zTr _ _ h2];simp only [u64eq,zAn,zCc]
  by_cases hc : a.Scale = b.Scale ∧ a.Zero = b.Zero
  · rw [if_pos hc]
    by_cases hp : a.Pos = b.Pos
    · rw [decide_eq_true hp,if_pos rfl];congr 1;apply decide_eq_decide.2;rw [zPu];simp [hc,hp]
    · rw [decide_eq_false hp];simp only [Bool.false_eq_true,if_false];congr 1;symm;rw [decide_eq_false_iff_not,zPu];exact fun h=>hp h.2.1
  · rw [if_neg hc];simp only [Bool.false_eq_true,if_false];congr 1;symm;rw [decide_eq_false_iff_not,zPu];exact fun h=>hc h.1
def zaz (a b : Pt) : Prop:=a.Name = b.Name ∧ srt a.Attrs = srt b.Attrs ∧ a.Hist = b.Hist ∧ a.Kind = b.Kind ∧ a.Temp = b.Temp ∧ a.Mono = b.Mono ∧ a.Start = b.Start ∧ a.Time = b.Time ∧ a.Int_ = b.Int_ ∧ a.Re = b.Re ∧ a.Im = b.Im ∧ a.Flags = b.Flags
instance (a b : Pt) : Decidable (zaz a b):=by unfold zaz;infer_instance
structure Few (x : Pt) : Prop where
  a : x.Attrs.length ≤ 20
  p : x.Hist.Pos.Counts.length ≤ 1000000
  n : x.Hist.Neg.Counts.length ≤ 1000000
end Go.Proofs.YthjhejgjcdajdaaGreatDoor
set_option maxRecDepth 20000
set_option linter.unusedVariables false
set_option linter.unusedSimpArgs false
namespace Go.Proofs.YthjhejgjcdajdaaGreatDoor
open Go Go.RowKit Go.Wk
theorem zZk (h : zA2) (h1 : h.Pos.Counts.length ≤ 1000000) (h2 : h.Neg.Counts.length ≤ 1000000) : zFk h = some (zNe h):=by
  unfold zFk zNe;rw [zXf _ _ h1 h2,zAn]
  congr 1
  apply decide_eq_decide.2
  rw [zPu,zPp,zPp]
  constructor
  · rintro ⟨⟨a,b⟩,⟨c,d⟩,e,f⟩;exact ⟨a,b,c,e,d,f⟩
  · rintro ⟨a,b,c,e,d,f⟩;exact ⟨⟨a,b⟩,⟨c,d⟩,e,f⟩
theorem zWq (p : Pt) (h1 : p.Hist.Pos.Counts.length ≤ 1000000) (h2 : p.Hist.Neg.Counts.length ≤ 1000000) : zEv p = some (pcE p):=by
  unfold zEv pcE;rw [zQ0,zAn]
  by_cases c : zNc p.Name p.Attrs ≠ 0
  · rw [if_pos c,if_pos c]
  rw [if_neg c,if_neg c];simp only [zCc,zAn,zZk p.Hist h1 h2,zZb,zXa,zWu p.Hist h1 h2]
  cases hk : zO3 p with
  | false=>
    rw [if_pos (show false = false from rfl)]
    by_cases a : p.Kind < 1 ∨ p.Kind > 5
    · rw [if_pos a]
    · rw [if_neg a,if_pos]
      unfold zO3 at hk
      by_cases h3 : p.Kind = 3
      · rw [if_pos h3] at hk;exact Or.inl ⟨h3,of_decide_eq_false hk⟩
      · rw [if_neg h3,decide_eq_true (show 1 ≤ p.Kind ∧ p.Kind ≤ 5 by omega),Bool.true_and] at hk
        have:=of_decide_eq_false hk;exact Or.inr ⟨⟨h3,fun h=>this (Or.inl h)⟩,fun h=>this (Or.inr h)⟩
  | true=>
    rw [if_neg (show ¬ (true = false) by decide)]
    have k : 1 ≤ p.Kind ∧ p.Kind ≤ 5 ∧ (p.Kind = 3 → p.Temp = 0) ∧ (p.Kind ≠ 3 → p.Temp = 1 ∨ p.Temp = 2):=by
      unfold zO3 at hk
      by_cases h3 : p.Kind = 3
      · rw [if_pos h3] at hk;have:=of_decide_eq_true hk;omega
      · rw [if_neg h3,Bool.and_eq_true] at hk
        have a:=of_decide_eq_true hk.1;have b:=of_decide_eq_true hk.2;exact ⟨a.1,a.2,fun h=>(h3 h).elim,fun _=>b⟩
    rw [if_neg (show ¬ (p.Kind < 1 ∨ p.Kind > 5) by omega),if_neg (show ¬ ((p.Kind = 3 ∧ p.Temp ≠ 0) ∨ ((p.Kind ≠ 3 ∧ p.Temp ≠ 1) ∧ p.Temp ≠ 2)) by omega)]
    by_cases hs : p.Mono = true ∧ p.Kind ≠ 1 ∧ p.Kind ≠ 2
    · rw [if_pos (show (p.Mono = true ∧ p.Kind ≠ 1) ∧ p.Kind ≠ 2 from ⟨⟨hs.1,hs.2.1⟩,hs.2.2⟩),if_pos hs]
    rw [if_neg (show ¬ ((p.Mono = true ∧ p.Kind ≠ 1) ∧ p.Kind ≠ 2) from fun h=>hs ⟨h.1.1,h.1.2,h.2⟩),if_neg hs]
    have ht : ((((p.Start < 0) ∨ (p.Time > 4503599627370496)) ∨ ((p.Kind = 3) ∧ (p.Start ≠ p.Time))) ∨ ((p.Kind ≠ 3) ∧ (p.Start ≥ p.Time))) ↔ zMy p = false:=by
      unfold zMy;rw [decide_eq_false_iff_not]
      by_cases h3 : p.Kind = 3
      · rw [if_pos h3];omega
      · rw [if_neg h3];omega
    by_cases t : zMy p = false
    · rw [if_pos (ht.2 t),if_pos t]
    rw [if_neg (fun h=>t (ht.1 h)),if_neg t]
    have ho : zUr p = false ↔ ((((p.Kind ≠ 1) ∧ (p.Int_ ≠ 0)) ∨ ((p.Kind ≠ 5) ∧ (((p.Im).toNat : Int) ≠ 0))) ∨ (p.Kind ≠ 4 ∧ zNe p.Hist = false) ∨ (((((p.Kind = 1) ∨ (p.Kind = 4)) ∧ (((p.Re).toNat : Int) ≠ 0)) ∨ (p.Flags < 0)) ∨ (p.Flags > 31))):=by
      unfold zUr;rw [decide_eq_false_iff_not,ne_eq,ne_eq (((p.Im).toNat : Int)),ne_eq (((p.Re).toNat : Int)),zau,zau]
      have e : zNe p.Hist = false ↔ ¬ zNe p.Hist = true:=by cases zNe p.Hist<;>simp
      rw [e]
      by_cases z1 : p.Re = 0<;>by_cases z2 : p.Im = 0<;>by_cases z3 : zNe p.Hist = true<;>(simp [z1,z2,z3];try omega)
    by_cases ab : ((p.Kind ≠ 1) ∧ (p.Int_ ≠ 0)) ∨ ((p.Kind ≠ 5) ∧ (((p.Im).toNat : Int) ≠ 0))
    · rw [if_pos (ho.2 (Or.inl ab)),if_pos ab,if_pos (by first | trivial | rfl)]
    rw [if_neg ab]
    by_cases hb : p.Kind ≠ 4 ∧ zNe p.Hist = false
    · rw [if_pos (ho.2 (Or.inr (Or.inl hb))),if_pos hb.1,if_pos (by rw [hb.2];rfl)]
    have go : ∀ (X : Option Int),(if p.Kind ≠ 4 then (if (!zNe p.Hist) = true then some 3 else X) else (if false = true then some 3 else X)) = X:=by
      intro X
      by_cases k4 : p.Kind ≠ 4
      · have : zNe p.Hist = true:=by cases h : zNe p.Hist with | true=>rfl | false=>exact (hb ⟨k4,h⟩).elim
        rw [if_pos k4,if_neg (by rw [this];decide)]
      · rw [if_neg k4,if_neg (by decide)]
    refine (go _).trans ?_
    by_cases c3 : ((((p.Kind = 1) ∨ (p.Kind = 4)) ∧ (((p.Re).toNat : Int) ≠ 0)) ∨ (p.Flags < 0)) ∨ (p.Flags > 31)
    · rw [if_pos (ho.2 (Or.inr (Or.inr c3))),if_pos c3]
    have oT : ¬ zUr p = false:=fun h=>(ho.1 h).elim ab fun h=>h.elim hb c3
    rw [if_neg oT,if_neg c3]
    by_cases m2 : p.Mono = true ∧ p.Kind = 2
    · rw [if_pos m2,if_pos m2]
      have i0 : ¬ p.Int_ < 0:=by omega
      cases hf : zXu p.Re with
      | false=>rw [if_pos (by rfl),if_pos (show (p.Mono = true ∧ p.Kind = 2) ∧ false = false from ⟨m2,rfl⟩)]
      | true=>
        rw [if_neg (by decide),if_neg (show ¬ ((p.Mono = true ∧ p.Kind = 2) ∧ true = false) by simp)]
        cases hl : ltZ p.Re with
        | true=>rw [if_pos (Or.inl rfl),if_pos ⟨m2.1,Or.inr rfl⟩]
        | false=>rw [if_neg (show ¬ (false = true ∨ (p.Mono = true ∧ p.Kind = 1) ∧ p.Int_ < 0) by simp [i0]),if_neg (show ¬ (p.Mono = true ∧ (p.Int_ < 0 ∨ false = true)) by simp [i0])];split<;>rfl
    · rw [if_neg m2,if_neg (show ¬ (false = true) by decide),if_neg m2,if_neg (show ¬ ((p.Mono = true ∧ p.Kind = 2) ∧ zXu p.Re = false) from fun h=>m2 h.1)]
      by_cases m1 : p.Mono = true ∧ p.Kind = 1
      · have r0 : p.Re = 0:=by apply (zau _).1;omega
        have l0 : ltZ p.Re = false:=by rw [r0];decide
        rw [l0]
        by_cases hi : p.Int_ < 0
        · rw [if_pos (Or.inr ⟨m1,hi⟩),if_pos ⟨m1.1,Or.inl hi⟩]
        · rw [if_neg (show ¬ (false = true ∨ (p.Mono = true ∧ p.Kind = 1) ∧ p.Int_ < 0) by simp [hi]),if_neg (show ¬ (p.Mono = true ∧ (p.Int_ < 0 ∨ false = true)) by simp [hi])];split<;>rfl
      · have hm : ¬ p.Mono = true:=by
          intro hm;exact hs ⟨hm,fun h=>m1 ⟨hm,h⟩,fun h=>m2 ⟨hm,h⟩⟩
        rw [if_neg (show ¬ (false = true ∨ (p.Mono = true ∧ p.Kind = 1) ∧ p.Int_ < 0) by simp [hm]),if_neg (show ¬ (p.Mono = true ∧ (p.Int_ < 0 ∨ ltZ p.Re = true)) from fun h=>hm h.1)];split<;>rfl
structure PtR (p : Pt) : Prop where
  c : zNc p.Name p.Attrs = 0
  k : zO3 p = true
  t : zMy p = true
  o : zUr p = true
  h : p.Kind = 4 → hcE p.Hist = 0
theorem zSg {p : Pt} (h : pcE p = 0) : PtR p:=by
  unfold pcE at h
  by_cases c : zNc p.Name p.Attrs ≠ 0
  · rw [if_pos c] at h;exact (c h).elim
  rw [if_neg c] at h
  by_cases k : zO3 p = false
  · rw [if_pos k] at h;exact absurd h (by decide)
  rw [if_neg k] at h
  by_cases s : p.Mono = true ∧ p.Kind ≠ 1 ∧ p.Kind ≠ 2
  · rw [if_pos s] at h;exact absurd h (by decide)
  rw [if_neg s] at h
  by_cases t : zMy p = false
  · rw [if_pos t] at h;exact absurd h (by decide)
  rw [if_neg t] at h
  by_cases o : zUr p = false
  · rw [if_pos o] at h;exact absurd h (by decide)
  rw [if_neg o] at h
  by_cases f : (p.Mono = true ∧ p.Kind = 2) ∧ zXu p.Re = false
  · rw [if_pos f] at h;exact absurd h (by decide)
  rw [if_neg f] at h
  by_cases l : p.Mono = true ∧ (p.Int_ < 0 ∨ ltZ p.Re = true)
  · rw [if_pos l] at h;exact absurd h (by decide)
  rw [if_neg l] at h;refine ⟨Classical.not_not.1 c,by simpa using k,by simpa using t,by simpa using o,fun h4=>?_⟩;rw [if_pos h4] at h;exact h
end Go.Proofs.YthjhejgjcdajdaaGreatDoor
set_option maxRecDepth 20000
set_option linter.unusedVariables false
set_option linter.unusedSimpArgs false
namespace Go.Proofs.YthjhejgjcdajdaaGreatDoor
open Go Go.RowKit Go.Wk
theorem zZm (p : Pt) : zCs p = some (decide (p.Name.length ≤ 100) && zSj p.Attrs && decide (p.Hist.Pos.Counts.length ≤ 300 ∧ p.Hist.Neg.Counts.length ≤ 300)):=by
  unfold zCs zGp;rw [zCc,zXm]
  have e1 : ((p.Hist.Pos.Counts.length : Int) ≤ 300) ↔ p.Hist.Pos.Counts.length ≤ 300:=by omega
  have e2 : ((p.Hist.Neg.Counts.length : Int) ≤ 300) ↔ p.Hist.Neg.Counts.length ≤ 300:=by omega
  simp only [zCc,zAn,e1,e2]
  by_cases h1 : (p.Name.length : Int) ≤ 100
  · rw [if_pos h1,decide_eq_true (by omega : p.Name.length ≤ 100)]
    cases zSj p.Attrs with
    | false=>simp
    | true=>simp
  · rw [if_neg h1,decide_eq_false (by omega : ¬ p.Name.length ≤ 100)];simp
theorem zVr {p : Pt} (h : (decide (p.Name.length ≤ 100) && zSj p.Attrs && decide (p.Hist.Pos.Counts.length ≤ 300 ∧ p.Hist.Neg.Counts.length ≤ 300)) = true) : Few p ∧ p.Hist.Pos.Counts.length ≤ 300 ∧ p.Hist.Neg.Counts.length ≤ 300:=by
  simp only [Bool.and_eq_true,decide_eq_true_iff] at h;obtain ⟨⟨_,h2⟩,h3,h4⟩:=h;exact ⟨⟨zVq h2,by omega,by omega⟩,h3,h4⟩
def mono (b : Bool) : Nat:=if b = true then 1 else 0
theorem zT6 {p : Pt} (h : PtR p) : 1 ≤ p.Kind ∧ p.Kind ≤ 5 ∧ 0 ≤ p.Temp ∧ p.Temp ≤ 2 ∧ 0 ≤ p.Flags ∧ p.Flags ≤ 31 ∧ 0 ≤ p.Start ∧ p.Start ≤ p.Time ∧ p.Time ≤ 4503599627370496:=by
  obtain ⟨_,hk,ht,ho,_⟩:=h;unfold zO3 at hk;unfold zMy at ht;unfold zUr at ho;rw [decide_eq_true_iff] at ht ho;obtain ⟨t1,t2,t3⟩:=ht;obtain ⟨_,_,_,_,o1,o2⟩:=ho
  by_cases h3 : p.Kind = 3
  · rw [if_pos h3] at hk t3
    rw [decide_eq_true_iff] at hk
    omega
  · rw [if_neg h3] at hk t3
    simp only [Bool.and_eq_true,decide_eq_true_iff] at hk
    omega
def zRn (p : Pt) : List UInt8:=(p.Name ++ zNr (srt p.Attrs)) ++ ([32] ++ [UInt8.ofNat (48 + p.Kind.toNat),UInt8.ofNat (48 + p.Temp.toNat),UInt8.ofNat (48 + mono p.Mono)])
theorem zNh {x : Int} (h0 : 0 ≤ x) (h1 : x ≤ 100) : toU8 (W64 (48 + x)) = UInt8.ofNat (48 + x.toNat):=by
  rw [zBc (by omega) (by omega),show 48 + x = ((48 + x.toNat : Nat) : Int) by omega,zNg,Nat.mod_eq_of_lt (by omega)]
def zYr (p : Pt) : List UInt8 × Int:=if pcE p = 0 then (zRn p,0) else ([],pcE p)
theorem zYq (p : Pt) (h1 : p.Hist.Pos.Counts.length ≤ 1000000) (h2 : p.Hist.Neg.Counts.length ≤ 1000000) : zKd p = some (zYr p):=by
  unfold zKd zYr;rw [zWs p h1 h2,zAn]
  by_cases h0 : pcE p = 0
  · rw [if_neg (by simpa using h0),if_pos h0]
    have hp:=zSg h0;obtain ⟨k1,k2,t1,t2,f1,f2,s1,s2,s3⟩:=zT6 hp;have htl:=zRb hp.c
    have hT : zJj p.Name p.Attrs = some (p.Name ++ zNr (srt p.Attrs),0):=by rw [zZ5,zak,if_pos hp.c]
    have hbit : zMc p.Mono = some (mono p.Mono : Int):=by unfold zMc mono;cases p.Mono<;>rfl
    have hm1 : mono p.Mono ≤ 1:=by unfold mono;split<;>omega
    rw [hT,zAn];dsimp only;rw [zGe (by simp only [List.length_append,List.length_cons,List.length_nil] at htl ⊢;omega),zAn,hbit,zAn,zGe (by simp only [List.length_append,List.length_cons,List.length_nil] at htl ⊢;omega),zAn];rw [zNh (by omega) (by omega),zNh (by omega) (by omega),zNh (by omega) (by omega),Int.toNat_natCast];unfold zRn;simp only [List.append_assoc]
  · rw [if_pos h0,if_neg h0]
theorem zVh (p : Pt) (h1 : p.Hist.Pos.Counts.length ≤ 1000000) (h2 : p.Hist.Neg.Counts.length ≤ 1000000) : zEg p = some (zYr p):=by
  unfold zEg zYr zDv;rw [zWq p h1 h2,zAn]
  by_cases h0 : pcE p = 0
  · rw [if_neg (by simpa using h0),if_pos h0]
    have hp:=zSg h0;obtain ⟨k1,k2,t1,t2,f1,f2,s1,s2,s3⟩:=zT6 hp;have htl:=zRb hp.c
    have hT : zE2 p.Name p.Attrs = some (p.Name ++ zNr (srt p.Attrs),0):=by rw [zUe,zak,if_pos hp.c]
    have hbit : zFy p.Mono = some (mono p.Mono : Int):=by unfold zFy mono;cases p.Mono<;>rfl
    have hm1 : mono p.Mono ≤ 1:=by unfold mono;split<;>omega
    rw [hT,zAn];dsimp only;rw [zGe (by simp only [List.length_append,List.length_cons,List.length_nil] at htl ⊢;omega),zAn,zAn,zGe (by simp only [List.length_append,List.length_cons,List.length_nil] at htl ⊢;omega),zAn,zAn,zGe (by simp only [List.length_append,List.length_cons,List.length_nil] at htl ⊢;omega),zAn,hbit,zAn,zAn,zGe (by simp only [List.length_append,List.length_cons,List.length_nil] at htl ⊢;omega),zAn];rw [zNh (by omega) (by omega),zNh (by omega) (by omega),zNh (by omega) (by omega),Int.toNat_natCast];unfold zRn;simp only [List.append_assoc];rfl
  · rw [if_pos h0,if_neg h0]
end Go.Proofs.YthjhejgjcdajdaaGreatDoor
set_option maxRecDepth 20000
set_option linter.unusedVariables false
set_option linter.unusedSimpArgs false
namespace Go.Proofs.YthjhejgjcdajdaaGreatDoor
open Go Go.RowKit Go.Wk
end Go.Proofs.YthjhejgjcdajdaaGreatDoor
set_option maxRecDepth 20000
set_option pp.deepTerms true
set_option linter.unusedVariables false
set_option linter.unusedSimpArgs false
namespace Go.Proofs.YthjhejgjcdajdaaGreatDoor
open Go Go.RowKit Go.Wk
end Go.Proofs.YthjhejgjcdajdaaGreatDoor
set_option maxRecDepth 20000
set_option linter.unusedVariables false
set_option linter.unusedSimpArgs false
namespace Go.Proofs.YthjhejgjcdajdaaGreatDoor
open Go Go.RowKit Go.Wk
theorem zY3 : zGq = some true:=by decide +kernel
theorem zZs : hcE h00 = 0:=by decide
end Go.Proofs.YthjhejgjcdajdaaGreatDoor
set_option maxRecDepth 20000
set_option linter.unusedVariables false
set_option linter.unusedSimpArgs false
namespace Go.Proofs.YthjhejgjcdajdaaGreatDoor
open Go Go.RowKit Go.Wk
theorem zY9 (x k : Nat) (hk : k ≤ 8) (hx : x < 256) : x &&& (255 * 2 ^ k % 256) = x / 2 ^ k * 2 ^ k:=by
  have h : ∀ k,k ≤ 8 → ∀ x,x < 256 → x &&& (255 * 2 ^ k % 256) = x / 2 ^ k * 2 ^ k:=by decide +kernel
  exact h k hk x hx
theorem zY0 {B K : List Bool} (hB : B.length ≤ 8) : zIq ((B ++ K).take 8) &&& shl8 255 (8 - B.length) = zIq B:=by
  apply UInt8.toNat_inj.1
  have hb:=(zIq ((B ++ K).take 8)).toNat_lt
  have e : (B ++ K).take 8 = B ++ K.take (8 - B.length):=by rw [List.take_append,List.take_of_length_le hB]
  rw [UInt8.toNat_and,zX5,show (255 : UInt8).toNat = 255 from rfl,zY9 _ _ (by omega) (by omega),zNd hB,zNd (by simp;omega),e,zNl];have hk:=zQ6 (K.take (8 - B.length))
  have hl : (K.take (8 - B.length)).length ≤ 8 - B.length:=by simp;omega
  generalize K.take (8 - B.length) = T at hk hl;rw [List.length_append];have hp:=Nat.two_pow_pos (8 - B.length)
  have e1 : 2 ^ T.length * 2 ^ (8 - (B.length + T.length)) = 2 ^ (8 - B.length):=by rw [← Nat.pow_add];congr 1;omega
  have h2 : zL4 T * 2 ^ (8 - (B.length + T.length)) < 2 ^ (8 - B.length):=by rw [← e1];exact Nat.mul_lt_mul_of_pos_right hk (Nat.two_pow_pos _)
  congr 1
  rw [Nat.add_mul,Nat.mul_assoc,e1,Nat.add_comm,Nat.add_mul_div_right _ _ hp,Nat.div_eq_of_lt h2,Nat.zero_add]
theorem zZ2 {M K : List Bool} (h : (M ++ K).length ≤ 8000000000) : zH3 (WrO (M ++ K)) (M.length : Int) = some (true,WrO M):=by
  rw [List.length_append] at h;unfold zH3;simp only [zCc];rw [if_neg (by omega),decide_eq_false (by simp only [List.length_append];omega),if_neg (by decide),zBc (by omega) (by omega),show ((M.length : Int) + 7) = ((M.length + 7 : Nat) : Int) by omega,show (8 : Int) = ((8 : Nat) : Int) from rfl,zRi (by decide) (by omega),zAn,zU3 (by omega) (by omega) (by rw [zGu,List.length_append];omega),zAn,zXc (by decide),zAn,Int.toNat_natCast];obtain ⟨q,A,B,hAB,hA,hB,hBl,hq⟩:=cut8 M
  have hl : M.length = 8 * q + B.length:=by rw [hAB,List.length_append,hA]
  have hlen : (zFp A).length = q:=by rw [zGu,hA];omega
  have ep : zFp (M ++ K) = zFp A ++ zFp (B ++ K):=by rw [hAB,List.append_assoc,zQ4 q A _ hA]
  by_cases h0 : B.length = 0
  · obtain rfl : B = []:=List.eq_nil_of_length_eq_zero h0
    have hMA : M = A:=by rw [hAB,List.append_nil]
    rw [if_neg (by omega),ep,show (M.length + 7) / 8 = q by omega,show ((0 : Int).toNat) = 0 from rfl,List.drop_zero,List.take_append_of_le_length (by omega),List.take_of_length_le (by omega),hMA]
  · have hne : B ++ K ≠ []:=by intro hh;exact h0 (by rw [(List.append_eq_nil_iff.1 hh).1];rfl)
    rw [if_pos (by omega),show ((0 : Int).toNat) = 0 from rfl,List.drop_zero,show (M.length + 7) / 8 = q + 1 by omega,ep,zOf hne,List.take_append,hlen,List.take_of_length_le (by omega),show q + 1 - q = 1 by omega,List.take_succ_cons,List.take_zero]
    have e1 : W64 (((zFp A ++ [zIq ((B ++ K).take 8)]).length : Int) - 1) = ((zFp A).length : Int):=by rw [List.length_append,hlen];simp only [List.length_cons,List.length_nil];rw [zBc (by omega) (by omega)];omega
    have e3 : (zAe (W64 (((8 : Nat) : Int) - ((M.length % 8 : Nat) : Int)))).toNat = 8 - B.length:=by rw [zBc (by omega) (by omega),show ((8 : Nat) : Int) - ((M.length % 8 : Nat) : Int) = ((8 - B.length : Nat) : Int) by omega,zDu (by omega)]
    rw [e1,zKt,zAn,zAn,e3,zY0 (by omega),zS6]
    have : zFp M = zFp A ++ [zIq B]:=by rw [hAB,zQ4 q A _ hA,zM9 (l:=B) (by intro hh;exact h0 (by rw [hh];rfl)) (by omega)]
    rw [WrO,this]
theorem zUz {M : List Bool} (h : M.length ≤ 8000000000) : zGd (WrO M) = some (zFp M):=by
  unfold zGd zF1;rw [zBp (by rw [zGu];simp only [List.length_nil];omega),zAn,List.nil_append]
end Go.Proofs.YthjhejgjcdajdaaGreatDoor
set_option maxRecDepth 20000
namespace Go.Proofs.YthjhejgjcdajdaaGreatDoor
open Go Go.RowKit Go.Wk
abbrev It:=zA8
structure Acc where
  O : List Int
  T : List Int
  S : List Int
  I : List Int
  A : List UInt64
  B : List UInt64
  H : List zA2
abbrev zan : Acc:=⟨[],[],[],[],[],[],[]⟩
def spn (p : Pt) : Int:=W64 (p.Time - p.Start)
def zNp (a : Acc) (x : It) : Acc:=
  ⟨a.O ++ [x.Ord],a.T ++ [x.Point.Time],if x.Point.Kind = 3 then a.S else a.S ++ [spn x.Point],if x.Point.Kind = 1 then a.I ++ [x.Point.Int_] else a.I,
    if x.Point.Kind = 1 ∨ x.Point.Kind = 4 then a.A else a.A ++ [x.Point.Re],if x.Point.Kind = 5 then a.B ++ [x.Point.Im] else a.B,if x.Point.Kind = 4 then a.H ++ [x.Point.Hist] else a.H⟩
abbrev flB (A : List UInt64) (v : UInt64) : List Bool:=(xB A.length (zK7 A) v (zR8 A)).1
def zT0 (a : Acc) (p : Pt) : List Bool:=
  if p.Kind = 1 then zRk (zIr a.I) p.Int_ else if p.Kind = 4 then hB a.H.length (zO8 a.H) p.Hist
  else if p.Kind = 5 then flB a.A p.Re ++ flB a.B p.Im else flB a.A p.Re
def zZ7 (a : Acc) (p : Pt) : List Bool:=if p.Kind = 3 then [] else zRk (zIr a.S) (spn p)
def itB (a : Acc) (x : It) : List Bool:=zRk (zIr a.O) x.Ord ++ (zRk (zIr a.T) x.Point.Time ++ (zZ7 a x.Point ++ (smB x.Point.Flags.toNat ++ zT0 a x.Point)))
def zYb (l : List It) : Acc:=l.foldl zNp zan
theorem zSu (l : List It) (x : It) : zYb (l ++ [x]) = zNp (zYb l) x:=by unfold zYb;rw [List.foldl_append];rfl
def zUb : Acc → List It → List Bool
  | _,[]=>[]
  | a,x :: t=>itB a x ++ zUb (zNp a x) t
abbrev zNy (l : List It) : List Bool:=zUb zan l
theorem zV9 (x : It) (l : List It) : ∀ a : Acc,zUb a (l ++ [x]) = zUb a l ++ itB (l.foldl zNp a) x:=by
  induction l with
  | nil=>intro a;rw [List.nil_append,zUb,zUb,zUb,List.append_nil,List.nil_append,List.foldl_nil]
  | cons y t ih=>intro a;rw [List.cons_append,zUb,ih,zUb,List.append_assoc,List.foldl_cons]
theorem zP2 (l : List It) (x : It) : zNy (l ++ [x]) = zNy l ++ itB (zYb l) x:=zV9 x l zan
structure ItR (x : It) : Prop where
  k0 : 1 ≤ x.Point.Kind
  k1 : x.Point.Kind ≤ 5
  o : okI x.Ord
  t : okI x.Point.Time
  i : okI x.Point.Int_
  f0 : 0 ≤ x.Point.Flags
  f1 : x.Point.Flags ≤ 31
  h : hcE x.Point.Hist = 0
structure zWy (n : Nat) (a : Acc) : Prop where
  o : a.O.length ≤ n ∧ ∀ x ∈ a.O,okI x
  t : a.T.length ≤ n ∧ ∀ x ∈ a.T,okI x
  s : a.S.length ≤ n ∧ ∀ x ∈ a.S,okI x
  i : a.I.length ≤ n ∧ ∀ x ∈ a.I,okI x
  re : a.A.length ≤ n
  im : a.B.length ≤ n
  h : a.H.length ≤ n ∧ ∀ x ∈ a.H,HOk x
theorem zZj (z : Int) : okI (W64 z):=by
  unfold okI W64 IntKind.wrap;simp [IntKind.signed,IntKind.bits]
  split<;>omega
theorem zWm : zWy 0 zan:=⟨⟨by simp,by simp⟩,⟨by simp,by simp⟩,⟨by simp,by simp⟩,⟨by simp,by simp⟩,by simp,by simp,⟨by simp,by simp⟩⟩
theorem zPw {α : Type} {P : α → Prop} {l : List α} {n : Nat} {x : α} (h : l.length ≤ n ∧ ∀ y ∈ l,P y) (hx : P x) : (l ++ [x]).length ≤ n + 1 ∧ ∀ y ∈ l ++ [x],P y:=
  ⟨by simp;exact h.1,fun y hy=>(List.mem_append.1 hy).elim (h.2 y) (fun e=>by rw [List.mem_singleton.1 e];exact hx)⟩
theorem zZ3 {α : Type} {P : α → Prop} {l : List α} {n : Nat} (h : l.length ≤ n ∧ ∀ y ∈ l,P y) : l.length ≤ n + 1 ∧ ∀ y ∈ l,P y:=⟨Nat.le_succ_of_le h.1,h.2⟩
theorem zWn {n : Nat} {a : Acc} {x : It} (h : zWy n a) (hx : ItR x) : zWy (n + 1) (zNp a x):=by
  refine ⟨zPw h.o hx.o,zPw h.t hx.t,?_,?_,?_,?_,?_⟩<;>unfold zNp<;>dsimp only<;>split
  · exact zZ3 h.s
  · exact zPw h.s (zZj _)
  · exact zPw h.i hx.i
  · exact zZ3 h.i
  · exact Nat.le_succ_of_le h.re
  · simp;exact h.re
  · simp;exact h.im
  · exact Nat.le_succ_of_le h.im
  · exact zPw h.h (zR4 hx.h)
  · exact zZ3 h.h
theorem zWo {l : List It} (h : ∀ x ∈ l,ItR x) : zWy l.length (zYb l):=by
  have key : ∀ (l : List It) (n : Nat) (a : Acc),zWy n a → (∀ x ∈ l,ItR x) → zWy (n + l.length) (l.foldl zNp a):=by
    intro l
    induction l with
    | nil=>intro n a ha _;exact ha
    | cons x t ih=>
      intro n a ha hl;have:=ih (n + 1) _ (zWn ha (hl x (by simp))) (fun y hy=>hl y (by simp [hy]));rw [show n + 1 + t.length = n + (x :: t).length by simp;omega] at this;exact this
  have:=key l 0 zan zWm h;rwa [Nat.zero_add] at this
theorem zYs {n : Nat} {a : Acc} {x : It} (h : zWy n a) (hx : ItR x) : (itB a x).length ≤ 30300:=by
  have h1:=zJo (zIr a.O) x.Ord;have h2:=zJo (zIr a.T) x.Point.Time
  have h3 : (zZ7 a x.Point).length ≤ 69:=by
    unfold zZ7;split
    · simp
    · exact zJo _ _
  have h4:=zLn x.Point.Flags.toNat
  have h5 : (zT0 a x.Point).length ≤ 30000:=by
    have e1:=(zUv a.A.length (zK7 a.A) x.Point.Re (zL3 a.A)).1;have e2:=(zUv a.B.length (zK7 a.B) x.Point.Im (zL3 a.B)).1;have e3:=(zbf (n:=a.H.length) (last:=zO8 a.H) (zR4 hx.h)).1;have e4:=zJo (zIr a.I) x.Point.Int_;unfold zT0 flB
    (repeat' split)<;>(try rw [List.length_append])<;>omega
  unfold itB;simp only [List.length_append];omega
theorem zPv {l : List It} (h : ∀ x ∈ l,ItR x) : (zNy l).length ≤ 30300 * l.length:=by
  have key : ∀ (l : List It) (n : Nat) (a : Acc),zWy n a → (∀ x ∈ l,ItR x) → (zUb a l).length ≤ 30300 * l.length:=by
    intro l
    induction l with
    | nil=>intro n a _ _;simp [zUb]
    | cons x t ih=>
      intro n a ha hl;have h1:=zYs ha (hl x (by simp));have h2:=ih (n + 1) _ (zWn ha (hl x (by simp))) (fun y hy=>hl y (by simp [hy]));rw [zUb,List.length_append,List.length_cons];omega
  exact key l 0 zan zWm h
abbrev xrA (A : List UInt64) : zAg:=⟨(A.length : Int),zK7 A,zai (zR8 A)⟩
abbrev hrA (H : List zA2) : zA6:=⟨(H.length : Int),zO8 H⟩
abbrev zX7 (a : Acc) : zAt:=⟨zIr a.O,zIr a.T,zIr a.S,zIr a.I,xrA a.A,xrA a.B,hrA a.H⟩
theorem zRe {n : Nat} {xs : List Int} (h : xs.length ≤ n) (hn : n ≤ 1000) : 0 ≤ (zIr xs).n ∧ (zIr xs).n ≤ 1000000000:=by rw [zVf];omega
theorem zUh (A : List UInt64) (v : UInt64) : zK7 (A ++ [v]) = v:=by simp [zK7]
theorem zUi (A : List zA2) (v : zA2) : zO8 (A ++ [v]) = v:=by simp [zO8]
theorem zR7 {A : List UInt64} {M : List Bool} (v : UInt64) (hA : A.length ≤ 1000) (hM : M.length ≤ 6000000000) : zEb (xrA A) (WrO M) v = some (WrO (M ++ flB A v),xrA (A ++ [v])):=by
  rw [zZ0 (zL3 A) (by omega) hM];unfold flB xrA;rw [zUh,zQx,List.length_append];rfl
theorem zSk {n : Nat} {H : List zA2} (h : H.length ≤ n ∧ ∀ x ∈ H,HOk x) : (zO8 H).Pos.Counts.length ≤ 1000 ∧ (zO8 H).Neg.Counts.length ≤ 1000:=by
  unfold zO8
  cases hl : H.getLast? with
  | none=>rw [List.getLast?_eq_none_iff.1 hl];exact ⟨by simp,by simp⟩
  | some z=>
    have hz:=List.mem_of_getLast? hl
    have e : H.getLastD h00 = z:=by rw [List.getLastD_eq_getLast?,hl];rfl
    have:=h.2 z hz;rw [e];exact ⟨by have:=this.p;omega,by have:=this.n;omega⟩
theorem zXp {n : Nat} {H : List zA2} {M : List Bool} {h : zA2} (hH : H.length ≤ n ∧ ∀ x ∈ H,HOk x) (hn : n ≤ 1000) (hM : M.length ≤ 6000000000) (hc : hcE h = 0) :
    zEr (hrA H) (WrO M) h = some (0,hrA (H ++ [h]),WrO (M ++ hB H.length (zO8 H) h)):=by
  have:=zR4 hc;have p:=this.p;have q:=this.n;have e:=zSk hH;rw [zZr (by omega) hM (by omega) (by omega) (by omega) (by omega),if_pos hc];unfold hrA;rw [zUi,List.length_append];rfl
theorem zZw {n : Nat} {a : Acc} {M : List Bool} {x : It} (ha : zWy n a) (hn : n ≤ 1000) (hx : ItR x) (hM : M.length ≤ 5000000000) :
    zI3 (zX7 a) (WrO M) x.Ord x.Point = some (zIr (zNp a x).O,zIr (zNp a x).T,zIr (zNp a x).S,zIr (zNp a x).I,xrA (zNp a x).A,xrA (zNp a x).B,hrA (zNp a x).H,WrO (M ++ itB a x)):=by
  have n1:=zJo (zIr a.O) x.Ord;have n2:=zJo (zIr a.T) x.Point.Time;have n3:=zJo (zIr a.S) (spn x.Point);have n4:=zLn x.Point.Flags.toNat;have n5:=(zUv a.A.length (zK7 a.A) x.Point.Re (zL3 a.A)).1
  have hfl : (zAe x.Point.Flags).toNat = x.Point.Flags.toNat:=by
    have:=hx.f0;have:=hx.f1;rw [zLl];omega
  have tail : ∀ (y : zA5) (K : List Bool),K.length ≤ 5500000000 → ((zHh (WrO K) (zAe x.Point.Flags)).bind fun p44=>
      if x.Point.Kind = 1 then
      ((zF4 (zIr a.I) p44 x.Point.Int_).bind fun p49=>
        some (zR5 (zIr a.O) (zAe x.Ord),zR5 (zIr a.T) (zAe x.Point.Time),y,p49.2,xrA a.A,xrA a.B,hrA a.H,p49.1))
      else
      (if x.Point.Kind = 4 then
        ((zEr (hrA a.H) p44 x.Point.Hist).bind fun p62=>
          some (zR5 (zIr a.O) (zAe x.Ord),zR5 (zIr a.T) (zAe x.Point.Time),y,zIr a.I,xrA a.A,xrA a.B,p62.2.1,p62.2.2))
        else
        (if x.Point.Kind = 5 then
          ((zEb (xrA a.A) p44 x.Point.Re).bind fun p74=>
            (zEb (xrA a.B) p74.1 x.Point.Im).bind fun p84=>
            some (zR5 (zIr a.O) (zAe x.Ord),zR5 (zIr a.T) (zAe x.Point.Time),y,zIr a.I,p74.2,p84.2,hrA a.H,p84.1))
          else
          ((zEb (xrA a.A) p44 x.Point.Re).bind fun p102=>
            some (zR5 (zIr a.O) (zAe x.Ord),zR5 (zIr a.T) (zAe x.Point.Time),y,zIr a.I,p102.2,xrA a.B,hrA a.H,p102.1))))) =
      some (zIr (zNp a x).O,zIr (zNp a x).T,y,zIr (zNp a x).I,xrA (zNp a x).A,xrA (zNp a x).B,hrA (zNp a x).H,WrO (K ++ (smB x.Point.Flags.toNat ++ zT0 a x.Point))):=by
    intro y K hK;rw [zT _ (by omega),zAn,hfl];unfold zNp zT0;dsimp only;rw [zLr,zLr]
    by_cases k1 : x.Point.Kind = 1
    · rw [if_pos k1,zRd (M:=K ++ smB x.Point.Flags.toNat) (zRe ha.i.1 hn) hx.i (by rw [List.length_append];omega),zAn,if_pos k1,if_pos (Or.inl k1),if_neg (show ¬ x.Point.Kind = 5 by omega),if_neg (show ¬ x.Point.Kind = 4 by omega),if_pos k1,zLr,List.append_assoc]
    rw [if_neg k1,if_neg k1,if_neg k1]
    by_cases k4 : x.Point.Kind = 4
    · rw [if_pos k4,zXp (M:=K ++ smB x.Point.Flags.toNat) ha.h hn (by rw [List.length_append];omega) hx.h,zAn,if_pos (Or.inr k4),if_neg (show ¬ x.Point.Kind = 5 by omega),if_pos k4,if_pos k4,List.append_assoc]
    rw [if_neg k4,if_neg (show ¬ (x.Point.Kind = 1 ∨ x.Point.Kind = 4) by omega),if_neg k4,if_neg k4]
    by_cases k5 : x.Point.Kind = 5
    · rw [if_pos k5,zR7 (M:=K ++ smB x.Point.Flags.toNat) _ (Nat.le_trans ha.re hn) (by rw [List.length_append];omega),zAn,zR7 _ (Nat.le_trans ha.im hn) (by simp only [List.length_append,flB];omega),zAn,if_pos k5,if_pos k5];simp only [List.append_assoc]
    · rw [if_neg k5,zR7 (M:=K ++ smB x.Point.Flags.toNat) _ (Nat.le_trans ha.re hn) (by rw [List.length_append];omega),zAn,if_neg k5,if_neg k5,List.append_assoc]
  unfold zI3;dsimp only;rw [zRd (zRe ha.o.1 hn) hx.o (by omega),zAn,zRd (zRe ha.t.1 hn) hx.t (by rw [List.length_append];omega),zAn,zCc];dsimp only
  by_cases k3 : x.Point.Kind = 3
  · rw [if_neg (show ¬ x.Point.Kind ≠ 3 by omega),tail _ _ (by rw [List.length_append,List.length_append];omega)]
    unfold itB zZ7;rw [if_pos k3,show (zNp a x).S = a.S by unfold zNp;dsimp only;rw [if_pos k3],List.append_assoc,List.append_assoc,List.nil_append]
  · rw [if_pos k3,show W64 (x.Point.Time - x.Point.Start) = spn x.Point from rfl,zRd (M:=M ++ zRk (zIr a.O) x.Ord ++ zRk (zIr a.T) x.Point.Time) (v:=spn x.Point) (zRe ha.s.1 hn) (zZj _) (by rw [List.length_append,List.length_append];omega),zAn,tail _ _ (by rw [List.length_append,List.length_append,List.length_append];omega)]
    unfold itB zZ7;rw [if_neg k3,show (zNp a x).S = a.S ++ [spn x.Point] by unfold zNp;dsimp only;rw [if_neg k3],zLr];simp only [List.append_assoc]
end Go.Proofs.YthjhejgjcdajdaaGreatDoor
set_option maxRecDepth 20000
set_option linter.unusedVariables false
set_option linter.unusedSimpArgs false
namespace Go.Proofs.YthjhejgjcdajdaaGreatDoor
open Go Go.RowKit Go.Wk
abbrev stA (K : List Bool) (a : Acc) : List Int × List Int × List Int × List Int × List Int × List UInt64 × List UInt64 × List zA2:=(zs K,a.O,a.T,a.S,a.I,a.A,a.B,a.H)
theorem zWx {a b : List Bool} (h : a.length + b.length ≤ 1073741824) : zDn (zs a) (zs b) = some (zs (a ++ b)):=by
  rw [zBp (by rw [zDm,zDm];exact h),zI7]
theorem zWj {α : Type} {l : List α} {x : α} (h : l.length ≤ 1000000) : zDn l [x] = some (l ++ [x]):=zBp (by simp;omega)
theorem zag {l : List It} (hl : l.length ≤ 500) (ok : ∀ x ∈ l,ItR x) : zFj l = some (zs (zNy l)):=by
  unfold zFj;rw [zCc,zJg _ _ _ _ _ _ _ _ _ _ (by omega)];refine Eq.trans (zLp (fun p=>stA (zNy p) (zYb p)) ?_) rfl
  · intro p x q k hp
    have hx : ItR x:=ok x (by rw [← hp];simp)
    have okp : ∀ y ∈ p,ItR y:=fun y hy=>ok y (by rw [← hp];simp [hy])
    have hpl:=congrArg List.length hp;simp only [List.length_append,List.length_cons] at hpl;have hK:=zPv okp;have ha:=zWo okp
    have hfl : (zAe x.Point.Flags).toNat = x.Point.Flags.toNat:=by
      have:=hx.f0;have:=hx.f1;rw [zLl];omega
    rw [zP2,zSu];generalize zNy p = K at hK ⊢;generalize zYb p = a at ha ⊢;have n1:=zJo (zIr a.O) x.Ord;have n2:=zJo (zIr a.T) x.Point.Time;have n3:=zJo (zIr a.S) (spn x.Point);have n4:=zLn x.Point.Flags.toNat;have n5:=(zUv a.A.length (zK7 a.A) x.Point.Re (zL3 a.A)).1;have n6:=(zUv a.B.length (zK7 a.B) x.Point.Im (zL3 a.B)).1;have n7:=(zbf (n:=a.H.length) (last:=zO8 a.H) (zR4 hx.h)).1;have n8:=zJo (zIr a.I) x.Point.Int_;have ao:=ha.o.1;have at_:=ha.t.1;have as_:=ha.s.1;have ai:=ha.i.1;have are:=ha.re;have aim:=ha.im;have ah:=ha.h.1;dsimp only;rw [zAn,zAn,zRl (by omega) ha.o.2 hx.o,zAn,zWx (by omega),zAn,zAn,zWj (by omega),zAn,zRl (by omega) ha.t.2 hx.t,zAn,zWx (by rw [List.length_append];omega),zAn,zWj (by omega),zAn];have tail : ∀ (L : List Bool) (s' : List Int),L.length ≤ 20000000 →
      ((zAs (zAe x.Point.Flags)).bind fun p105=>
        (zDn (zs L) p105).bind fun z108=>
        jn (fun (y110 : (List Int)) (y113 : (List Int)) (y116 : (List UInt64)) (y119 : (List UInt64)) (y122 : (List zA2))=>
          (k (y110,a.O ++ [x.Ord],a.T ++ [x.Point.Time],s',y113,y116,y119,y122))) fun j3=>
        if x.Point.Kind = 1 then
        ((zBn a.I x.Point.Int_).bind fun p127=>
          (zDn z108 p127).bind fun z132=>
          (zDn a.I [x.Point.Int_]).bind fun z134=>
          j3 z132 z134 a.A a.B a.H)
        else
        (jn (fun (y136 : Bool)=>
            (if y136 = true then
              ((zB4 a.A x.Point.Re).bind fun p139=>
                (zDn z108 p139).bind fun z142=>
                (zDn a.A [x.Point.Re]).bind fun z144=>
                j3 z142 a.I z144 a.B a.H)
              else
              (if x.Point.Kind = 4 then
                ((zDp a.H x.Point.Hist).bind fun p147=>
                  (zDn z108 p147).bind fun z150=>
                  (zDn a.H [x.Point.Hist]).bind fun z152=>
                  j3 z150 a.I a.A a.B z152)
                else
                (if x.Point.Kind = 5 then
                  ((zB4 a.A x.Point.Re).bind fun p155=>
                    (zDn z108 p155).bind fun z158=>
                    (zDn a.A [x.Point.Re]).bind fun z160=>
                    (zB4 a.B x.Point.Im).bind fun p162=>
                    (zDn z158 p162).bind fun z165=>
                    (zDn a.B [x.Point.Im]).bind fun z167=>
                    j3 z165 a.I z160 z167 a.H)
                  else
                  (j3 z108 a.I a.A a.B a.H))))) fun j4=>
          if x.Point.Kind = 2 then
          (j4 (decide (x.Point.Kind = 2)))
          else
          (j4 (decide (x.Point.Kind = 3))))) =
      k (zs (L ++ (smB x.Point.Flags.toNat ++ zT0 a x.Point)),a.O ++ [x.Ord],a.T ++ [x.Point.Time],s',(zNp a x).I,(zNp a x).A,(zNp a x).B,(zNp a x).H):=by
      intro L s' hL;rw [zNq,zAn,hfl,zWx (by omega),zAn,zCc]
      have hl2 : (L ++ smB x.Point.Flags.toNat).length ≤ 20000100:=by rw [List.length_append];omega
      rw [← List.append_assoc];generalize L ++ smB x.Point.Flags.toNat = L' at hl2 ⊢;unfold zNp zT0;dsimp only;have hk0:=hx.k0;have hk1:=hx.k1
      by_cases k1 : x.Point.Kind = 1
      · rw [if_pos k1,zRl (by omega) ha.i.2 hx.i,zAn,zWx (by omega),zAn,zWj (by omega),zAn,if_pos k1,if_pos k1,if_pos (Or.inl k1),if_neg (show ¬ x.Point.Kind = 5 by omega),if_neg (show ¬ x.Point.Kind = 4 by omega)]
      rw [if_neg k1,if_neg k1,if_neg k1,zCc]
      by_cases k4 : x.Point.Kind = 4
      · rw [if_neg (show ¬ x.Point.Kind = 2 by omega),decide_eq_false (show ¬ x.Point.Kind = 3 by omega)]
        dsimp only;rw [if_neg (show ¬ false = true by decide),if_pos k4,zVd (by omega) (zR4 hx.h),zAn,zWx (by omega),zAn,zWj (by omega),zAn,if_pos k4,if_pos (Or.inr k4),if_neg (show ¬ x.Point.Kind = 5 by omega),if_pos k4]
      rw [if_neg (show ¬ (x.Point.Kind = 1 ∨ x.Point.Kind = 4) by omega)]
      by_cases k5 : x.Point.Kind = 5
      · rw [if_neg (show ¬ x.Point.Kind = 2 by omega),decide_eq_false (show ¬ x.Point.Kind = 3 by omega)]
        dsimp only;rw [if_neg (show ¬ false = true by decide),if_neg k4,if_pos k5,zOp (by omega),zAn,zWx (by omega),zAn,zWj (by omega),zAn,zOp (by omega),zAn,zWx (by rw [List.length_append];omega),zAn,zWj (by omega),zAn,if_neg k4,if_pos k5,if_pos k5,if_neg k4];simp only [List.append_assoc]
      · rw [if_neg k4,if_neg k5,if_neg k5,if_neg k4]
        by_cases k2 : x.Point.Kind = 2
        · rw [if_pos k2,decide_eq_true k2]
          dsimp only;rw [if_pos (show true = true from rfl),zOp (by omega),zAn,zWx (by omega),zAn,zWj (by omega),zAn];simp only [if_neg k4,if_neg k5]
        · rw [if_neg k2,decide_eq_true (show x.Point.Kind = 3 by omega)]
          dsimp only;rw [if_pos (show true = true from rfl),zOp (by omega),zAn,zWx (by omega),zAn,zWj (by omega),zAn];simp only [if_neg k4,if_neg k5]
    rw [zCc];dsimp only
    by_cases k3 : x.Point.Kind = 3
    · rw [if_neg (show ¬ x.Point.Kind ≠ 3 by omega),tail _ _ (by rw [List.length_append,List.length_append];omega)]
      unfold itB zZ7;unfold stA;rw [if_pos k3,show (zNp a x).S = a.S by unfold zNp;dsimp only;rw [if_pos k3]];simp only [List.append_assoc,List.nil_append]
      rfl
    · rw [if_pos k3,show W64 (x.Point.Time - x.Point.Start) = spn x.Point from rfl,zRl (v:=spn x.Point) (by omega) ha.s.2 (zZj _),zAn,zWx (by rw [List.length_append,List.length_append];omega),zAn,zWj (by omega),zAn,tail _ _ (by rw [List.length_append,List.length_append,List.length_append];omega)]
      unfold itB zZ7;unfold stA;rw [if_neg k3,show (zNp a x).S = a.S ++ [spn x.Point] by unfold zNp;dsimp only;rw [if_neg k3]];simp only [List.append_assoc]
      rfl
end Go.Proofs.YthjhejgjcdajdaaGreatDoor
set_option maxRecDepth 20000
set_option linter.unusedVariables false
set_option linter.unusedSimpArgs false
namespace Go.Proofs.YthjhejgjcdajdaaGreatDoor
open Go Go.RowKit Go.Wk
theorem zb {n : Nat} (hn : n < 64) : zDy (n : Int) = some (UInt64.ofNat (2 ^ n)):=by
  unfold zDy;rw [zCc];obtain ⟨f,hf⟩:=zLk 65 (by omega)
  have key : ∀ (r i f : Nat),i + r = n → r < f → zC7 (n : Int) (fun y1=>some y1) f (UInt64.ofNat (2 ^ i)) (i : Int) = some (UInt64.ofNat (2 ^ n)):=by
    intro r
    induction r with
    | zero=>
      intro i f hi hf;obtain ⟨f,rfl⟩ : ∃ k,f = k + 1:=⟨f - 1,by omega⟩;rw [zC7,if_neg (by omega),show i = n by omega]
    | succ r ih=>
      intro i f hi hf;obtain ⟨f,rfl⟩ : ∃ k,f = k + 1:=⟨f - 1,by omega⟩;rw [zC7,if_pos (by omega),zDj (by omega)]
      have e : (2 : UInt64) * UInt64.ofNat (2 ^ i) = UInt64.ofNat (2 ^ (i + 1)):=by
        apply UInt64.toNat_inj.1
        rw [UInt64.toNat_mul,UInt64.toNat_ofNat',UInt64.toNat_ofNat',Nat.pow_succ,show (2 : UInt64).toNat = 2 from rfl,Nat.mul_mod_mod,Nat.mul_comm,← Nat.pow_succ]
      rw [e];exact ih (i + 1) f (by omega) (by omega)
  have:=key n 0 fuel (by omega) (by rw [hf];omega);exact this
theorem zWt (v : UInt64) : zEq v = some ((oth v.toNat : Nat) : Int):=by
  unfold zEq;rw [zCc];obtain ⟨f,hf⟩:=zLk 10 (by omega);have hv:=v.toNat_lt
  have key : ∀ (r i f : Nat),i + r = 8 → r < f → i ≤ oth v.toNat → zC3 v (fun _=>some 8) f (i : Int) = some ((oth v.toNat : Nat) : Int):=by
    intro r
    induction r with
    | zero=>
      intro i f hi hf h;obtain ⟨f,rfl⟩ : ∃ k,f = k + 1:=⟨f - 1,by omega⟩;have:=zTt v.toNat;rw [zC3,if_neg (by omega),show oth v.toNat = 8 by omega];rfl
    | succ r ih=>
      intro i f hi hf h;obtain ⟨f,rfl⟩ : ∃ k,f = k + 1:=⟨f - 1,by omega⟩
      have e : W64 (7 + W64 (7 * (i : Int))) = ((7 + 7 * i : Nat) : Int):=by rw [zBc (z:=7 * (i : Int)) (by omega) (by omega),zBc (by omega) (by omega)];omega
      rw [zC3,if_pos (by omega),e,zb (by omega),zAn]
      have hp : (UInt64.ofNat (2 ^ (7 + 7 * i))).toNat = 2 ^ (7 + 7 * i):=by
        rw [UInt64.toNat_ofNat'];apply Nat.mod_eq_of_lt;exact Nat.pow_lt_pow_right (by decide) (by omega)
      rw [hp]
      by_cases hlt : v.toNat < 2 ^ (7 + 7 * i)
      · rw [if_pos (by omega)]
        by_cases he : oth v.toNat = i
        · rw [he]
        · have h0:=zb5 (n:=v.toNat) (by omega)
          have : 2 ^ (7 + 7 * i) ≤ 2 ^ (7 * oth v.toNat):=Nat.pow_le_pow_right (by decide) (by omega)
          omega
      · rw [if_neg (by omega),zDj (by omega)]
        refine ih (i + 1) f (by omega) (by omega) ?_
        by_cases he : oth v.toNat = i
        · have:=zYp (n:=v.toNat) (by omega)
          rw [he,Nat.add_comm] at this;exact (hlt this).elim
        · omega
  have:=key 8 0 fuel (by omega) (by rw [hf];omega) (by omega);exact this
theorem zU5 (n : Nat) : ∀ k,byt n (k + 1) = byt (n / 256) k ++ [UInt8.ofNat (n % 256)]
  | 0=>by simp [byt]
  | k + 1=>by
    rw [byt,zU5 n k,byt,Nat.div_div_eq_div_mul,Nat.mul_comm 256,← Nat.pow_succ];rfl
theorem zZa (p : Nat) (j : UInt64 → List UInt8 → Option (List UInt8)) (hp : p ≤ 8) : ∀ (r i f : Nat) (v : UInt64) (acc : List UInt8),i + r = p → r < f → acc.length ≤ i →
    zCf (p : Int) j f v acc (i : Int) = j (UInt64.ofNat (v.toNat / 256 ^ r)) (byt v.toNat r ++ acc):=by
  intro r
  induction r with
  | zero=>
    intro i f v acc hi hf ha;obtain ⟨f,rfl⟩ : ∃ k,f = k + 1:=⟨f - 1,by omega⟩;rw [zCf,if_neg (by omega),Nat.pow_zero,Nat.div_one,ofN];rfl
  | succ r ih=>
    intro i f v acc hi hf ha;obtain ⟨f,rfl⟩ : ∃ k,f = k + 1:=⟨f - 1,by omega⟩;have hv:=v.toNat_lt;rw [zCf,if_pos (by omega),zUd _ _ (by decide),zAn,zBp (by simp;omega),zAn,zZd _ _ (by decide),zAn,zDj (by omega)];rw [ih (i + 1) f _ _ (by omega) (by omega) (by simp;omega)]
    have e1 : (UInt64.ofNat (v.toNat / (256 : UInt64).toNat)).toNat = v.toNat / 256:=by rw [UInt64.toNat_ofNat'];exact Nat.mod_eq_of_lt (by have : v.toNat / 256 ≤ v.toNat:=Nat.div_le_self _ _;show v.toNat / 256 < _;omega)
    have e2 : toU8 ((UInt64.ofNat (v.toNat % (256 : UInt64).toNat)).toNat : Int) = UInt8.ofNat (v.toNat % 256):=by
      rw [zNg,UInt64.toNat_ofNat',show (256 : UInt64).toNat = 256 from rfl,Nat.mod_eq_of_lt (show v.toNat % 256 < 2 ^ 64 by omega),Nat.mod_eq_of_lt (show v.toNat % 256 < 256 by omega)]
    rw [e1,e2,Nat.div_div_eq_div_mul,Nat.mul_comm,← Nat.pow_succ,zU5,List.append_assoc]
theorem zXi (j : Int → Option (List UInt8)) (p : Nat) (hp : p ≤ 8) : ∀ (r i f : Nat),i + r = p → r < f →
    zCg (p : Int) j f ((256 - 2 ^ (8 - i) : Nat) : Int) (i : Int) = j ((256 - 2 ^ (8 - p) : Nat) : Int):=by
  intro r
  induction r with
  | zero=>
    intro i f hi hf;obtain ⟨f,rfl⟩ : ∃ k,f = k + 1:=⟨f - 1,by omega⟩;rw [zCg,if_neg (by omega),show i = p by omega]
  | succ r ih=>
    intro i f hi hf;obtain ⟨f,rfl⟩ : ∃ k,f = k + 1:=⟨f - 1,by omega⟩
    have h8 : ∀ i : Nat,i < 8 → 128 / 2 ^ i + (256 - 2 ^ (8 - i)) = 256 - 2 ^ (8 - (i + 1)) ∧ 2 ^ i ≤ 128 ∧ 256 - 2 ^ (8 - i) ≤ 255:=by decide
    obtain ⟨h1,h2,h3⟩:=h8 i (by omega);have hp0:=Nat.two_pow_pos i;rw [zCg,if_pos (by omega),zb (by omega),zAn,zF8 (by omega),zBc (z:=((2 ^ i : Nat) : Int)) (by omega) (by omega),show (128 : Int) = ((128 : Nat) : Int) from rfl,zRi (by omega) (by omega),zAn,zDj (by omega)];have h4 : 256 - 2 ^ (8 - (i + 1)) ≤ 256:=Nat.sub_le _ _;rw [show ((256 - 2 ^ (8 - i) : Nat) : Int) + ((128 / 2 ^ i : Nat) : Int) = ((256 - 2 ^ (8 - (i + 1)) : Nat) : Int) by rw [← h1];omega,zBc (z:=((256 - 2 ^ (8 - (i + 1)) : Nat) : Int)) (by omega) (by omega)];exact ih (i + 1) f (by omega) (by omega)
theorem zT5 (v : UInt64) : zDs v = some (enc v):=by
  unfold zDs;have hv:=v.toNat_lt;have hle:=zTt v.toNat;obtain ⟨f,hf⟩:=zLk 10 (by omega);rw [zWt,zAn,zCc,show (0 : Int) = ((0 : Nat) : Int) from rfl,zZa _ _ hle (oth v.toNat) 0 fuel v [] (by omega) (by rw [hf];omega) (by simp),List.append_nil,zCc];rw [show ((0 : Nat) : Int) = ((256 - 2 ^ (8 - 0) : Nat) : Int) from rfl,show ((256 - 2 ^ (8 - 0) : Nat) : Int) = ((0 : Nat) : Int) from rfl]
  have hs := zXi (fun (y8 : Int) =>
        (jn (fun (y10 : Int)=>
            ((zDn ([toU8 y10] : List UInt8) (byt v.toNat (oth v.toNat))).bind fun z15=>
              some z15)) fun j3=>
          if ((oth v.toNat : Nat) : Int) < 8 then
          (j3 (W64 (y8 + (W64 (((UInt64.ofNat (v.toNat / 256 ^ oth v.toNat)).toNat : Nat) : Int)))))
          else
          (j3 y8))) (oth v.toNat) hle (oth v.toNat) 0 fuel (by omega) (by rw [hf];omega)
  refine Eq.trans hs ?_;rw [zCc];unfold enc;have hd : v.toNat / 256 ^ oth v.toNat ≤ v.toNat:=Nat.div_le_self _ _
  have ha : ∀ b : UInt8,zDn [b] (byt v.toNat (oth v.toNat)) = some (b :: byt v.toNat (oth v.toNat)):=fun b=>by rw [zBp (by simp [zWf];omega)];rfl
  by_cases h8 : oth v.toNat < 8
  · have ht:=zS h8
    have hb : ∀ k : Nat,k < 8 → 2 ^ (7 - k) ≤ 128 ∧ 256 - 2 ^ (8 - k) + 2 ^ (7 - k) ≤ 256:=by decide
    obtain ⟨b1,b2⟩:=hb _ h8;rw [if_pos (by omega),zF8 (by omega),zbg,if_pos h8];generalize v.toNat / 256 ^ oth v.toNat = q at ht hd ⊢;rw [zBc (z:=(q : Int)) (by omega) (by omega),← Int.natCast_add,zBc (z:=((256 - 2 ^ (8 - oth v.toNat) + q : Nat) : Int)) (by omega) (by omega)];dsimp only;rw [ zNg,Nat.mod_eq_of_lt (by omega),ha,zAn]
  · rw [if_neg (by omega)]
    dsimp only;rw [show oth v.toNat = 8 by omega] at ha ⊢;rw [show ((256 - 2 ^ (8 - 8) : Nat) : Int) = ((255 : Nat) : Int) from rfl,zNg,ha,zAn,zbg,if_neg (by omega)];rfl
theorem zXe {s : List UInt8} (hs : s.length ≤ 1000000) : zFn s = some (zWv s):=by
  unfold zFn zWv
  have e : zAe (s.length : Int) = UInt64.ofNat s.length:=by unfold zAe;congr 1;omega
  have:=zGv (UInt64.ofNat s.length);rw [e,zT5,zAn,zBp (by omega),zAn]
end Go.Proofs.YthjhejgjcdajdaaGreatDoor
set_option maxRecDepth 20000
set_option linter.unusedVariables false
set_option linter.unusedSimpArgs false
namespace Go.Proofs.YthjhejgjcdajdaaGreatDoor
open Go Go.RowKit Go.Wk
def hdB (k : List UInt8) (n : Nat) (M : List Bool) : List UInt8:=(zWv k ++ enc (UInt64.ofNat n)) ++ enc (UInt64.ofNat M.length)
def chB (k : List UInt8) (n : Nat) (M : List Bool) : List UInt8:=hdB k n M ++ zFp M
theorem zVy {k : List UInt8} (n : Nat) (M : List Bool) (hk : k.length ≤ 100000) : (hdB k n M).length ≤ 200000:=by
  have h1:=zGv (UInt64.ofNat k.length);have h2:=zGv (UInt64.ofNat n);have h3:=zGv (UInt64.ofNat M.length);unfold hdB zWv;simp only [List.length_append];omega
theorem zNi (n : Nat) : zAe (n : Int) = UInt64.ofNat n:=by
  apply UInt64.toNat_inj.1
  rw [zLl,UInt64.toNat_ofNat'];omega
theorem zVx {k : List UInt8} {mo la : Int} {ro : zAt} {n : Nat} {M : List Bool} (hk : k.length ≤ 100000) :
    zG0 ⟨k,mo,(n : Int),la,WrO M,ro⟩ = some ⟨hdB k n M⟩:=by
  unfold zG0 zJq zDz hdB;have h1:=zGv (UInt64.ofNat k.length);have h2:=zGv (UInt64.ofNat n)
  have hT : (zWv k).length ≤ 100009:=by unfold zWv;rw [List.length_append];omega
  dsimp only;rw [zAn,zWz _ _ (by simp) (by omega),zAn,List.nil_append,zNi,zSy _ _ (by omega),zAn,zAn,zNi,zSy _ _ (by rw [List.length_append];omega),zAn]
theorem zV6 {k : List UInt8} {mo la : Int} {ro : zAt} {n : Nat} {M : List Bool} (hk : k.length ≤ 100000) (hM : M.length ≤ 6000000000) :
    zG1 ⟨k,mo,(n : Int),la,WrO M,ro⟩ = some ((chB k n M).length : Int):=by
  have hh:=zVy n M hk;unfold zG1;rw [zVx hk,zAn];unfold zIy zDz chB;dsimp only;rw [zAn,zAn,zBc (z:=(M.length : Int) + 7) (by omega) (by omega),show (M.length : Int) + 7 = ((M.length + 7 : Nat) : Int) by omega,show (8 : Int) = ((8 : Nat) : Int) from rfl,zRi (by decide) (by omega),zAn,List.length_append,zGu,zBc (by omega) (by omega)];rfl
theorem zWc {k : List UInt8} {mo la : Int} {ro : zAt} {n : Nat} {M : List Bool} (hk : k.length ≤ 100000) (hM : M.length ≤ 6000000000) :
    zFd ⟨k,mo,(n : Int),la,WrO M,ro⟩ = some (chB k n M):=by
  have hh:=zVy n M hk;have hp:=zGu M;unfold zFd;rw [zVx hk,zAn];dsimp only;rw [zUz (by omega),zAn];unfold zIx zI4;dsimp only;rw [zBp (by omega),zAn,zAn];dsimp only;rw [zXw _ (by rw [List.length_append];omega),zAn,zAn];rfl
theorem zSd {k : List UInt8} {l : List It} (hk : k.length ≤ 100000) (hl : l.length ≤ 500) (ok : ∀ x ∈ l,ItR x) : zDb k l = some (chB k l.length (zNy l)):=by
  have hb:=zPv ok;have hh:=zVy l.length (zNy l) hk;have hp:=zGu (zNy l);have h1:=zGv (UInt64.ofNat k.length);have h2:=zGv (UInt64.ofNat l.length);have h3:=zGv (UInt64.ofNat (zNy l).length)
  have hT : (zWv k).length ≤ 100009:=by unfold zWv;rw [List.length_append];omega
  unfold zDb;rw [zag hl ok,zAn,zXe (by omega),zAn,zNi,zT5,zAn,zGe (by omega),zAn,zDm,zNi,zT5,zAn,zGe (by rw [List.length_append];omega),zAn,zWd (by omega),zAn,zGe (by simp only [List.length_append];omega),zAn,zRm (by simp only [List.length_append];omega),zAn];rfl
def zQr (l : List It) : Int:=match l.getLast? with
  | none=>-1
  | some x=>x.Ord
theorem zP (l : List It) (x : It) : zQr (l ++ [x]) = x.Ord:=by unfold zQr;rw [List.getLast?_append];rfl
abbrev chS (k : List UInt8) (mo : Int) (l : List It) : zA7:=⟨k,mo,(l.length : Int),zQr l,WrO (zNy l),zX7 (zYb l)⟩
def zUq (k : List UInt8) (l : List It) (mo : Int) (x : It) : Int:=
  if pcE x.Point ≠ 0 then pcE x.Point else if zRn x.Point ≠ k then 14 else if x.Ord < 0 ∨ x.Ord > 4503599627370496 then 1
  else if x.Ord ≤ zQr l then 9 else if l.length = 128 then 6 else if ((chB k (l.length + 1) (zNy (l ++ [x]))).length : Int) > mo then 6 else 0
theorem zVv {x : It} (h : pcE x.Point = 0) (ho : ¬ (x.Ord < 0 ∨ x.Ord > 4503599627370496)) (hi : okI x.Point.Int_) (hh : hcE x.Point.Hist = 0) : ItR x:=by
  obtain ⟨k1,k2,t1,t2,f0,f1,s0,s1,tt⟩:=zT6 (zSg h);exact ⟨k1,k2,by unfold okI;omega,by unfold okI;omega,hi,f0,f1,hh⟩
theorem zZc {k : List UInt8} {l : List It} {x : It} (mo : Int) (hk : k.length ≤ 100000) (hl : l.length ≤ 400) (ok : ∀ x ∈ l,ItR x) (hi : okI x.Point.Int_) (hh : pcE x.Point = 0 → hcE x.Point.Hist = 0)
    (h1 : x.Point.Hist.Pos.Counts.length ≤ 1000000) (h2 : x.Point.Hist.Neg.Counts.length ≤ 1000000) : zEf k l mo x = some (zUq k l mo x):=by
  unfold zEf zUq;rw [zVh _ h1 h2,zAn];unfold zYr
  by_cases hp : pcE x.Point = 0
  · rw [if_pos hp,if_neg (show ¬ (0 : Int) ≠ 0 by decide),if_neg (show ¬ pcE x.Point ≠ 0 by omega)]
    dsimp only
    by_cases hke : zRn x.Point ≠ k
    · rw [if_pos hke,if_pos hke]
    rw [if_neg hke,if_neg hke]
    by_cases ho : x.Ord < 0 ∨ x.Ord > 4503599627370496
    · rw [if_pos ho,if_pos ho]
    rw [if_neg ho,if_neg ho,zCc];have hx:=zVv hp ho hi (hh hp)
    have ok2 : ∀ y ∈ l ++ [x],ItR y:=fun y hy=>by
      rcases List.mem_append.1 hy with e|e
      · exact ok y e
      · rw [List.mem_singleton.1 e];exact hx
    have tail : ∀ b : Bool, b = decide (x.Ord ≤ zQr l) → (if b = true then
            (some 9)
            else
            (if (l.length : Int) = 128 then
              (some 6)
              else
              ((zDn ([] : List zA8) l).bind fun z26=>
                (zDn z26 [x]).bind fun z30=>
                (zDb k z30).bind fun p32=>
                if (p32.length : Int) > mo then
                (some 6)
                else
                (some 0)))) = some (if x.Ord ≤ zQr l then (9 : Int) else if l.length = 128 then 6 else if ((chB k (l.length + 1) (zNy (l ++ [x]))).length : Int) > mo then 6 else 0):=by
      rintro b rfl
      by_cases hlo : x.Ord ≤ zQr l
      · rw [if_pos hlo,if_pos (decide_eq_true hlo)]
      rw [if_neg hlo,if_neg (by rw [decide_eq_false hlo];decide)]
      by_cases h128 : l.length = 128
      · rw [if_pos h128,if_pos (by omega)]
      rw [if_neg h128,if_neg (by omega),zBp (by simp;omega),zAn,List.nil_append,zWj (by omega),zAn,zSd hk (by simp;omega) ok2,zAn,List.length_append]
      split
      · rw [if_pos (by assumption)]
      · rw [if_neg (by assumption)]
    by_cases h0 : l = []
    · subst h0
      rw [if_neg (by simp)];refine tail false ?_;rw [decide_eq_false];unfold zQr;show ¬ x.Ord ≤ -1;omega
    · have hpos : 0 < l.length:=List.length_pos_iff.2 h0
      obtain ⟨t,y,rfl⟩ : ∃ t y,l = t ++ [y]:=⟨l.dropLast,l.getLast h0,(List.dropLast_concat_getLast h0).symm⟩
      have e : W64 (((t ++ [y]).length : Int) - 1) = ((t.length : Nat) : Int):=by rw [List.length_append];simp only [List.length_cons,List.length_nil];rw [zBc (by simp at hl;omega) (by simp at hl;omega)];omega
      rw [if_pos (by omega),e,zKt,zAn];refine tail _ ?_;rw [zP]
  · rw [if_neg hp,if_pos (show pcE x.Point ≠ 0 from hp),if_pos hp]
theorem zWb {n : Nat} {a : Acc} (ha : zWy n a) (hn : n ≤ 1000) : zH1 (zX7 a) = some (zX7 a):=by
  have e:=zSk ha.h;unfold zH1 zFt zIf zHt;simp only [zAn];rw [zSo _ (by omega) (by omega),zAn,zAn]
theorem zZy {k : List UInt8} {l : List It} {x : It} (mo : Int) (hk : k.length ≤ 100000) (hl : l.length ≤ 400) (ok : ∀ x ∈ l,ItR x) (hi : okI x.Point.Int_) (hh : pcE x.Point = 0 → hcE x.Point.Hist = 0)
    (h1 : x.Point.Hist.Pos.Counts.length ≤ 1000000) (h2 : x.Point.Hist.Neg.Counts.length ≤ 1000000) :
    zF7 (chS k mo l) x.Ord x.Point = some (zUq k l mo x,if zUq k l mo x = 0 then chS k mo (l ++ [x]) else chS k mo l):=by
  unfold zF7 zUq;rw [zYq _ h1 h2,zAn];unfold zYr
  by_cases hp : pcE x.Point = 0
  · rw [if_pos hp,if_neg (show ¬ (0 : Int) ≠ 0 by decide),if_neg (show ¬ pcE x.Point ≠ 0 by omega)]
    dsimp only
    by_cases hke : zRn x.Point ≠ k
    · rw [if_pos hke,if_pos hke];rfl
    rw [if_neg hke,if_neg hke]
    by_cases ho : x.Ord < 0 ∨ x.Ord > 4503599627370496
    · rw [if_pos ho,if_pos ho];rfl
    rw [if_neg ho,if_neg ho]
    by_cases hlo : x.Ord ≤ zQr l
    · rw [if_pos hlo,if_pos hlo];rfl
    rw [if_neg hlo,if_neg hlo]
    by_cases h128 : l.length = 128
    · rw [if_pos (by omega),if_pos h128];rfl
    rw [if_neg (by omega),if_neg h128,zCc];have hx:=zVv hp ho hi (hh hp);have hb:=zPv ok;have ha:=zWo ok;have hit:=zYs ha hx;unfold zDz;dsimp only;rw [zAn,zWb ha (by omega),zAn,zZw ha (by omega) hx (by omega),zAn];dsimp only;rw [zDj (by omega),zV6 hk (by rw [List.length_append];omega),zAn,zP2]
    by_cases hs : ((chB k (l.length + 1) (zNy l ++ itB (zYb l) x)).length : Int) > mo
    · rw [if_pos hs,if_pos hs,zZ2 (by rw [List.length_append];omega),zAn,zBc (z:=((l.length + 1 : Nat) : Int) - 1) (by omega) (by omega),if_neg (by decide)]
      rw [show ((l.length + 1 : Nat) : Int) - 1 = (l.length : Int) by omega]
    · rw [if_neg hs,if_neg hs,if_pos rfl]
      unfold chS;rw [zP2,zSu,zP,List.length_append];rfl
  · rw [if_neg hp,if_pos (show pcE x.Point ≠ 0 from hp),if_pos hp,if_neg hp]
end Go.Proofs.YthjhejgjcdajdaaGreatDoor
set_option maxRecDepth 20000
set_option linter.unusedVariables false
set_option linter.unusedSimpArgs false
namespace Go.Proofs.YthjhejgjcdajdaaGreatDoor
open Go Go.RowKit Go.Wk
def zPa (p : Pt) : Bool:=decide (p.Name.length ≤ 100) && zSj p.Attrs && decide (p.Hist.Pos.Counts.length ≤ 300 ∧ p.Hist.Neg.Counts.length ≤ 300)
theorem zTx (p : Pt) : zCs p = some (zPa p):=zZm p
theorem zR2 {p : Pt} (h : zPa p = true) : Few p ∧ p.Hist.Pos.Counts.length ≤ 300 ∧ p.Hist.Neg.Counts.length ≤ 300:=zVr h
theorem zY2 {h : zA2} (e : zNe h = true) : h = h00:=by
  unfold zNe at e;rw [decide_eq_true_iff] at e;obtain ⟨a,b,c,d,f,g⟩:=e
  match h,a,b,c,d,f,g with
  | ⟨_,_,⟨_,_⟩,⟨_,_⟩⟩,rfl,rfl,rfl,rfl,rfl,rfl=>rfl
theorem zVk {p : Pt} (h : pcE p = 0) : hcE p.Hist = 0:=by
  have r:=zSg h
  by_cases k : p.Kind = 4
  · exact r.h k
  · have o:=r.o
    unfold zUr at o;rw [decide_eq_true_iff] at o;rw [zY2 (o.2.2.2.1 k)];exact zZs
theorem zZl (l : List It) {n : Int} (hn : n ≤ 1000) : zEu l n = some (decide ((l.length : Int) ≤ n) && l.all fun x=>zPa x.Point):=by
  unfold zEu
  by_cases h : (l.length : Int) > n
  · rw [if_pos h,decide_eq_false (by omega)];rfl
  · rw [if_neg h,decide_eq_true (show (l.length : Int) ≤ n by omega),zCc,zJ _ _ (by omega),zN (fun x=>zPa x.Point) (some false)]
    · rw [Bool.true_and];cases l.all fun x=>zPa x.Point<;>rfl
    · intro i x k _
      rw [zAn,zTx,zAn]
      cases zPa x.Point<;>rfl
theorem zXk (p : Pt) (mo : Int) (h1 : p.Hist.Pos.Counts.length ≤ 1000000) (h2 : p.Hist.Neg.Counts.length ≤ 1000000) :
    zKr p mo = some (if pcE p = 0 then (some (chS (zRn p) mo []),0) else (none,pcE p)):=by
  unfold zKr;rw [zYq _ h1 h2,zAn];unfold zYr
  by_cases hp : pcE p = 0
  · rw [if_pos hp,if_pos hp,if_neg (show ¬ (0 : Int) ≠ 0 by decide)]
    unfold zJ6 zIl zHj zL6 zJ4;rw [zAn];simp only [zAn]
    have e : (WrO (zNy [])) = ⟨[],0⟩:=by unfold zNy;rw [zUb,WrO,zN0];rfl
    unfold chS;rw [e];rfl
  · rw [if_neg hp,if_neg hp,if_pos (show pcE p ≠ 0 from hp)]
theorem zZp {p : Pt} (h : pcE p = 0) : (zRn p).length ≤ 10000:=by
  have:=zRb (zSg h).c;unfold zRn;simp only [List.length_append,List.length_cons,List.length_nil] at this ⊢;omega
def inL (k : List UInt8) (mo : Int) (p : List It) : List It:=p.foldl (fun l x=>if zUq k l mo x = 0 then l ++ [x] else l) []
theorem zXo (k : List UInt8) (mo : Int) (p : List It) (x : It) : inL k mo (p ++ [x]) = if zUq k (inL k mo p) mo x = 0 then inL k mo p ++ [x] else inL k mo p:=by unfold inL;rw [List.foldl_append];rfl
theorem zad {k : List UInt8} {l : List It} {mo : Int} {x : It} (h : zUq k l mo x = 0) (hi : okI x.Point.Int_) : ItR x:=by
  unfold zUq at h
  by_cases hp : pcE x.Point ≠ 0
  · rw [if_pos hp] at h;exact (hp h).elim
  rw [if_neg hp] at h
  by_cases hk : zRn x.Point ≠ k
  · rw [if_pos hk] at h;exact absurd h (by decide)
  rw [if_neg hk] at h
  by_cases ho : x.Ord < 0 ∨ x.Ord > 4503599627370496
  · rw [if_pos ho] at h;exact absurd h (by decide)
  have hp' : pcE x.Point = 0:=by omega
  exact zVv hp' ho hi (zVk hp')
theorem zYu {k : List UInt8} {mo : Int} {p : List It} (hi : ∀ x ∈ p,okI x.Point.Int_) : (inL k mo p).length ≤ p.length ∧ ∀ x ∈ inL k mo p,ItR x:=by
  have key : ∀ (p acc : List It),(∀ x ∈ p,okI x.Point.Int_) → (∀ x ∈ acc,ItR x) →
      (p.foldl (fun l x=>if zUq k l mo x = 0 then l ++ [x] else l) acc).length ≤ acc.length + p.length ∧ ∀ x ∈ p.foldl (fun l x=>if zUq k l mo x = 0 then l ++ [x] else l) acc,ItR x:=by
    intro p
    induction p with
    | nil=>intro acc _ ha;exact ⟨Nat.le_refl _,ha⟩
    | cons y t ih=>
      intro acc hp ha;rw [List.foldl_cons]
      by_cases h : zUq k acc mo y = 0
      · rw [if_pos h]
        have hy:=zad h (hp y (by simp))
        have:=ih (acc ++ [y]) (fun x hx=>hp x (by simp [hx])) (fun x hx=>by
          rcases List.mem_append.1 hx with e|e
          · exact ha x e
          · rw [List.mem_singleton.1 e];exact hy)
        refine ⟨?_,this.2⟩;have:=this.1;simp only [List.length_append,List.length_cons,List.length_nil] at this ⊢;omega
      · rw [if_neg h]
        have:=ih acc (fun x hx=>hp x (by simp [hx])) ha;refine ⟨?_,this.2⟩;have:=this.1;simp only [List.length_cons] at this ⊢;omega
  have:=key p [] hi (by simp);rw [List.length_nil,Nat.zero_add] at this;exact this
theorem wf_ok {x : Int} (h : (Lit.int .i64 x).wf = true) : okI x:=by
  unfold okI;simp [Lit.wf,IntKind.min,IntKind.max,IntKind.signed,IntKind.bits] at h
  omega
theorem zYa (p : Pt) (mo : Int) (l : List It) {P0 P1 : Prop} (_ : P0) (_ : P1) {A B C D E F G H I J K L : It → Prop}
    (k2 : l.length ≤ maxLen ∧ ∀ z ∈ l,A z ∧ (B z ∧ C z ∧ D z ∧ E z ∧ F z ∧ G z ∧ H z ∧ (Lit.int .i64 z.Point.Int_).wf = true ∧ I z ∧ J z ∧ K z ∧ L z)) : zFc p mo l = some true:=by
  have hi : ∀ x ∈ l,okI x.Point.Int_:=fun x hx=>wf_ok (k2.2 x hx).2.2.2.2.2.2.2.2.1
  clear k2;unfold zFc;rw [zY3,zAn,if_neg (by decide)];simp only [zCc];rw [zTx,zAn]
  cases hb : zPa p with
  | false=>rfl
  | true=>
    obtain ⟨hf,hp,hn⟩:=zR2 hb;rw [if_neg (by decide),zZl _ (by omega),zAn]
    by_cases hl : (decide ((l.length : Int) ≤ 12) && l.all fun x=>zPa x.Point) = true
    · rw [hl,if_neg (by decide),zXk _ _ (by omega) (by omega),zAn,zVh _ (by omega) (by omega),zAn]
      have hll:=of_decide_eq_true ((Bool.and_eq_true _ _).mp hl).1;have hla:=List.all_eq_true.1 ((Bool.and_eq_true _ _).mp hl).2;unfold zYr
      by_cases hc : pcE p = 0
      · rw [if_pos hc,if_pos hc]
        dsimp only;rw [if_neg (show ¬ (0 : Int) ≠ 0 by decide),Option.isNone_some,decide_eq_false (show ¬ (0 : Int) ≠ 0 by decide),decide_eq_false (show ¬ false ≠ false by decide),if_neg (show ¬ false = true by decide),if_neg (show ¬ false = true by decide)];rw [zI5 _ _ _ _ _ _ _ (by omega)];have hk:=zZp hc;refine Eq.trans (zLp (fun q=>(inL (zRn p) mo q,zQr (inL (zRn p) mo q),some (chS (zRn p) mo (inL (zRn p) mo q)))) ?_) ?_
        · intro q x r kk hq
          have hx:=hi x (by rw [← hq];simp);obtain ⟨hxf,hx1,hx2⟩:=zR2 (hla x (by rw [← hq];simp));obtain ⟨q1,q2⟩:=zYu (k:=zRn p) (mo:=mo) (p:=q) (fun y hy=>hi y (by rw [← hq];simp [hy]));have hql:=congrArg List.length hq;simp only [List.length_append,List.length_cons] at hql;dsimp only;rw [zXo];generalize inL (zRn p) mo q = il at q1 q2 ⊢;rw [zAn,zAn,zAn,zZy mo (by omega) (by omega) q2 hx zVk (by omega) (by omega),zAn,zAn,zZc mo (by omega) (by omega) q2 hx zVk (by omega) (by omega),zAn,if_neg (by simp),zCc];unfold zHm zH2 zHn;dsimp only
          by_cases h0 : zUq (zRn p) il mo x = 0
          · rw [if_pos h0,zAn,zWj (by omega),zAn,zAn,if_pos h0,if_pos h0]
            simp only [zAn,zCc,zP];rw [if_neg (by simp),decide_eq_false (by simp),if_neg (by decide),decide_eq_false (by simp),if_neg (by decide)]
          · rw [if_neg h0,if_neg h0,if_neg h0]
            simp only [zAn,zCc];rw [if_neg (by simp),decide_eq_false (by simp),if_neg (by decide),decide_eq_false (by simp),if_neg (by decide)]
        · obtain ⟨q1,q2⟩:=zYu (k:=zRn p) (mo:=mo) (p:=l) hi
          dsimp only;generalize inL (zRn p) mo l = il at q1 q2 ⊢;have hb:=zPv q2;rw [zAn,zWc (by omega) (by omega),zAn,zSd (by omega) (by omega) q2,zAn,if_pos rfl,zV6 (by omega) (by omega),zAn,decide_eq_true rfl]
      · rw [if_neg hc,if_neg hc]
        dsimp only;rw [if_neg (by simp)];simp [hc]
    · rw [Bool.not_eq_true] at hl
      rw [hl];rfl
end Go.Proofs.YthjhejgjcdajdaaGreatDoor
