import Derived.Test.YthjhejgjcdajdaaGreatDoorVB2
import Derived.Test.YthjhejgjcdajdaaGreatDoorNB
import Derived.Sort.Walk0
set_option linter.unusedVariables false
set_option linter.unusedSimpArgs false
namespace Go.Wk
def zM2 (l : List Bool) : Nat:=l.foldl (fun a b=>2 * a + b.toNat) 0
def zVn (v : Nat) : Nat → List Bool
  | 0=>[]
  | n + 1=>zVn (v / 2) n ++ [v % 2 == 1]
theorem foldB (l : List Bool) : ∀ a : Nat,l.foldl (fun a b=>2 * a + b.toNat) a = a * 2 ^ l.length + zM2 l:=by
  induction l with
  | nil=>intro a;simp [zM2]
  | cons b t ih=>
    intro a;have h1:=ih (2 * a + b.toNat);have h2:=ih (2 * 0 + b.toNat);simp only [zM2,List.foldl_cons,List.length_cons] at *;rw [h1,h2,Nat.pow_succ,Nat.add_mul]
    have : 2 * a * 2 ^ t.length = a * (2 ^ t.length * 2):=by rw [Nat.mul_comm 2 a,Nat.mul_assoc,Nat.mul_comm 2]
    rw [this];simp only [Nat.mul_zero,Nat.zero_add];omega
theorem zT1 : zM2 [] = 0:=rfl
theorem zN5 (a b : List Bool) : zM2 (a ++ b) = zM2 a * 2 ^ b.length + zM2 b:=by
  unfold zM2;rw [List.foldl_append,foldB];rfl
theorem zQg (b : Bool) : zM2 [b] = b.toNat:=by simp [zM2]
theorem zRy (b : Bool) (l : List Bool) : zM2 (b :: l) = b.toNat * 2 ^ l.length + zM2 l:=by
  have:=zN5 [b] l;rwa [zQg] at this
theorem zOn (l : List Bool) : zM2 l < 2 ^ l.length:=by
  induction l with
  | nil=>simp [zM2]
  | cons b t ih=>
    rw [zRy,List.length_cons,Nat.pow_succ]
    cases b<;>simp<;>omega
def zRa (l : List Bool) : UInt8:=UInt8.ofNat (zM2 l * 2 ^ (8 - l.length))
theorem zSf {l : List Bool} (h : l.length ≤ 8) : (zRa l).toNat = zM2 l * 2 ^ (8 - l.length):=by
  unfold zRa;rw [UInt8.toNat_ofNat']
  apply Nat.mod_eq_of_lt
  have h1:=zOn l
  have h2 : 2 ^ l.length * 2 ^ (8 - l.length) = 2 ^ 8:=by rw [← Nat.pow_add];congr 1;omega
  have h3 : 0 < 2 ^ (8 - l.length):=Nat.two_pow_pos _
  calc zM2 l * 2 ^ (8 - l.length) < 2 ^ l.length * 2 ^ (8 - l.length):=Nat.mul_lt_mul_of_pos_right h1 h3
    _ = 2 ^ 8:=h2
def zLg (l : List Bool) : List UInt8:=if h : l = [] then [] else zRa (l.take 8) :: zLg (l.drop 8)
termination_by l.length
decreasing_by
  have : 0 < l.length:=by cases l with
    | nil=>exact (h rfl).elim
    | cons=>simp
  simp;omega
theorem zP7 : zLg [] = []:=by rw [zLg];simp
theorem zN4 {l : List Bool} (h : l ≠ []) : zLg l = zRa (l.take 8) :: zLg (l.drop 8):=by rw [zLg,dif_neg h]
theorem zRv : ∀ (k : Nat) (a b : List Bool),a.length = 8 * k → zLg (a ++ b) = zLg a ++ zLg b:=by
  intro k
  induction k with
  | zero=>intro a b h;rw [List.eq_nil_of_length_eq_zero (by omega : a.length = 0)];simp [zP7]
  | succ k ih=>
    intro a b h
    have h1 : a ≠ []:=by intro hh;subst hh;simp at h
    have h2 : a ++ b ≠ []:=by simp [h1]
    rw [zN4 h1,zN4 h2,List.take_append_of_le_length (by omega),List.drop_append_of_le_length (by omega),ih (a.drop 8) b (by simp;omega)]
    rfl
theorem zRt (l : List Bool) : (zLg l).length = (l.length + 7) / 8:=by
  generalize hn : l.length = n
  induction n using Nat.strongRecOn generalizing l with
  | ind n ih=>
    by_cases h : l = []
    · subst h;rw [zP7];simp at hn;subst hn;rfl
    · have hp : 0 < l.length:=List.length_pos_iff.2 h
      rw [zN4 h,List.length_cons,ih (n - 8) (by omega) (l.drop 8) (by simp;omega)]
      omega
theorem zRu {l : List Bool} {i : Nat} (h : 8 * i < l.length) : (zLg l)[i]? = some (zRa ((l.drop (8 * i)).take 8)):=by
  have h1 : l = l.take (8 * i) ++ l.drop (8 * i):=(List.take_append_drop _ _).symm
  have h2 : (l.take (8 * i)).length = 8 * i:=by simp;omega
  have h3 : (zLg (l.take (8 * i))).length = i:=by rw [zRt,h2];omega
  have h4 : l.drop (8 * i) ≠ []:=by intro hh;have:=congrArg List.length hh;simp at this;omega
  conv=>lhs;rw [h1,zRv i _ _ h2,zN4 h4]
  rw [List.getElem?_append_right (by omega),h3,Nat.sub_self];rfl
abbrev biZ (b : Bool) : Int:=if b = true then 1 else 0
end Go.Wk
set_option linter.unusedVariables false
set_option linter.unusedSimpArgs false
namespace Go.Wk
theorem zRe (z : Int) : (zAm z).toNat = (z % 18446744073709551616).toNat:=by
  unfold zAm;rw [UInt64.toNat_ofNat'];apply Nat.mod_eq_of_lt;omega
theorem zN8 {k : Nat} (h : k < 18446744073709551616) : (zAm (k : Int)).toNat = k:=by rw [zRe];omega
theorem zVs : (2 : Nat) ^ 64 = 18446744073709551616:=by decide
theorem zRj (a : UInt64) (m : Nat) : (shl64 a m).toNat = a.toNat * 2 ^ m % 18446744073709551616:=by
  unfold shl64
  split
  · rename_i h
    rw [UInt64.toNat_shiftLeft,Nat.shiftLeft_eq,zVs]
    have : (UInt64.ofNat m).toNat % 64 = m:=by rw [UInt64.toNat_ofNat'];omega
    rw [this]
  · rename_i h
    obtain ⟨q,rfl⟩ : ∃ q,m = 64 + q:=⟨m - 64,by omega⟩;rw [Nat.pow_add,zVs,Nat.mul_left_comm,Nat.mul_mod_right];rfl
theorem zRi {a : UInt64} {m : Nat} (h : a.toNat * 2 ^ m < 18446744073709551616) : (shl64 a m).toNat = a.toNat * 2 ^ m:=by rw [zRj,Nat.mod_eq_of_lt h]
theorem zSr (a : UInt8) (m : Nat) : (shr8 a m).toNat = a.toNat / 2 ^ m:=by
  unfold shr8
  split
  · rename_i h
    rw [UInt8.toNat_shiftRight,Nat.shiftRight_eq_div_pow]
    have : (UInt8.ofNat m).toNat % 8 = m:=by rw [UInt8.toNat_ofNat'];omega
    rw [this]
  · rename_i h
    have:=a.toNat_lt
    have h2 : 256 ≤ 2 ^ m:=by rw [show (256 : Nat) = 2 ^ 8 by decide];exact Nat.pow_le_pow_right (by omega) (by omega)
    rw [Nat.div_eq_of_lt (by omega)];rfl
theorem mask8 {k : Nat} (h : k ≤ 8) (a : UInt8) : (a &&& (shl8 1 k - 1)).toNat = a.toNat % 2 ^ k:=by
  have ha:=a.toNat_lt
  have hk : k = 0 ∨ k = 1 ∨ k = 2 ∨ k = 3 ∨ k = 4 ∨ k = 5 ∨ k = 6 ∨ k = 7 ∨ k = 8:=by omega
  have key : (shl8 1 k - 1).toNat = 2 ^ k - 1:=by rcases hk with rfl | rfl | rfl | rfl | rfl | rfl | rfl | rfl | rfl<;>decide
  rw [UInt8.toNat_and,key,Nat.and_two_pow_sub_one_eq_mod]
theorem zVv {a b i : Nat} (h : b < 2 ^ i) : (a * 2 ^ i) ||| b = a * 2 ^ i + b:=by
  rw [← Nat.shiftLeft_eq,← Nat.shiftLeft_add_eq_or_of_lt h]
theorem zSy {a b : Nat} (h : b ≠ 0) (ha : a ≤ 9223372036854775807) : quoZ (a : Int) (b : Int) = some ((a / b : Nat) : Int):=by
  unfold quoZ;rw [if_neg (by omega),← Int.ofNat_tdiv];have h1 : a / b ≤ a:=Nat.div_le_self a b;generalize a / b = q at h1 ⊢;rw [zDn (by omega) (by omega)]
theorem zSv {a b : Nat} (h : b ≠ 0) : remZ (a : Int) (b : Int) = some ((a % b : Nat) : Int):=by
  unfold remZ;rw [if_neg (by omega),← Int.ofNat_tmod]
end Go.Wk
set_option maxRecDepth 20000
set_option linter.unusedVariables false
set_option linter.unusedSimpArgs false
namespace Go.Proofs.YthjhejgjcdajdaaGreatDoor
open Go Go.RowKit Go.Wk
end Go.Proofs.YthjhejgjcdajdaaGreatDoor
set_option maxRecDepth 20000
set_option linter.unusedVariables false
set_option linter.unusedSimpArgs false
namespace Go.Proofs.YthjhejgjcdajdaaGreatDoor
open Go Go.RowKit Go.Wk
abbrev RdO (L : List Bool) (a : Nat) : zA0:=⟨zLg L,(L.length : Int),(a : Int)⟩
theorem zUn {a b c k e : Nat} (hb : b < 2 ^ k) (hc : c < 2 ^ e) : (a * 2 ^ (k + e) + b * 2 ^ e + c) / 2 ^ e % 2 ^ k = b:=by
  have hp:=Nat.two_pow_pos e
  have e1 : a * 2 ^ (k + e) + b * 2 ^ e + c = (a * 2 ^ k + b) * 2 ^ e + c:=by rw [Nat.add_mul,Nat.mul_assoc,← Nat.pow_add]
  rw [e1,Nat.mul_comm,Nat.mul_add_div hp,Nat.div_eq_of_lt hc,Nat.add_zero,Nat.mul_comm,Nat.mul_add_mod,Nat.mod_eq_of_lt hb]
theorem zTm {C1 K C2 : List Bool} (h : C1.length + K.length + C2.length ≤ 8) : (zRa (C1 ++ (K ++ C2))).toNat / 2 ^ (8 - C1.length - K.length) % 2 ^ K.length = zM2 K:=by
  have hl : (C1 ++ (K ++ C2)).length = C1.length + K.length + C2.length:=by simp [Nat.add_assoc]
  rw [zSf (by omega),zN5,zN5,hl];have h2:=zOn C2;have hp:=Nat.two_pow_pos (8 - (C1.length + K.length + C2.length))
  have e1 : 2 ^ C2.length * 2 ^ (8 - (C1.length + K.length + C2.length)) = 2 ^ (8 - C1.length - K.length):=by rw [← Nat.pow_add];congr 1;omega
  have e2 : 2 ^ (K ++ C2).length * 2 ^ (8 - (C1.length + K.length + C2.length)) = 2 ^ (K.length + (8 - C1.length - K.length)):=by rw [← Nat.pow_add];congr 1;simp;omega
  rw [Nat.add_mul,Nat.add_mul,Nat.mul_assoc,e2,Nat.mul_assoc,e1,← Nat.add_assoc];exact zUn (zOn K) (by rw [← e1];exact Nat.mul_lt_mul_of_pos_right h2 hp)
theorem zS1 {L : List Bool} {a k : Nat} (h : a + k ≤ L.length) (hk : k ≤ 8 - a % 8) (hk0 : 0 < k) :
    ∃ z,idx (zLg L) ((a / 8 : Nat) : Int) = some z ∧ z.toNat / 2 ^ (8 - a % 8 - k) % 2 ^ k = zM2 ((L.drop a).take k):=by
  refine ⟨_,by rw [zJ8,zRu (by omega)],?_⟩
  have e1 : (L.drop (8 * (a / 8))).take 8 = ((L.drop (8 * (a / 8))).take 8).take (a % 8) ++ ((((L.drop (8 * (a / 8))).take 8).drop (a % 8)).take k ++ (((L.drop (8 * (a / 8))).take 8).drop (a % 8)).drop k):=by
    rw [List.take_append_drop,List.take_append_drop]
  have e2 : (((L.drop (8 * (a / 8))).take 8).drop (a % 8)).take k = (L.drop a).take k:=by
    rw [List.drop_take,List.drop_drop,show 8 * (a / 8) + a % 8 = a by omega,List.take_take,Nat.min_eq_left hk]
  have l1 : (((L.drop (8 * (a / 8))).take 8).take (a % 8)).length = a % 8:=by simp;omega
  have l2 : ((L.drop a).take k).length = k:=by simp;omega
  have l3 : ((((L.drop (8 * (a / 8))).take 8).drop (a % 8)).drop k).length + a % 8 + k ≤ 8:=by simp;omega
  rw [e1,e2];have:=zTm (C1:=((L.drop (8 * (a / 8))).take 8).take (a % 8)) (K:=(L.drop a).take k) (C2:=(((L.drop (8 * (a / 8))).take 8).drop (a % 8)).drop k) (by rw [l1,l2];omega);rw [l1,l2] at this;exact this
theorem zS0 {L : List Bool} (hL : L.length ≤ 8000000000) (a0 : Nat) (j2 : UInt64 → Option (UInt64 × Bool)) : ∀ (m a : Nat) (v : UInt64) (n : Nat),m ≤ 64 → a + m ≤ L.length → v.toNat < 2 ^ (64 - m) → m < n →
    zC1 (RdO L a0) j2 n (m : Int) v (a : Int) = j2 (UInt64.ofNat (v.toNat * 2 ^ m + zM2 ((L.drop a).take m))):=by
  intro m
  induction m using Nat.strongRecOn with
  | ind m ih=>
    intro a v n hm hM hv hn;obtain ⟨n,rfl⟩ : ∃ k,n = k + 1:=⟨n - 1,by omega⟩;rw [zC1]
    by_cases h0 : m = 0
    · subst h0
      rw [if_neg (by omega)]
      congr 1
      apply UInt64.toNat_inj.1
      rw [UInt64.toNat_ofNat'];have:=v.toNat_lt;simp [zT1]
    have q1 : remZ (a : Int) 8 = some ((a % 8 : Nat) : Int):=zSv (b:=8) (by omega);have q2 : quoZ (a : Int) 8 = some ((a / 8 : Nat) : Int):=zSy (b:=8) (by omega) (by omega);rw [if_pos (by omega),q1,zBx,q2,zBx]
    have e8 : W64 (8 - ((a % 8 : Nat) : Int)) = ((8 - a % 8 : Nat) : Int):=by rw [zDn (by omega) (by omega)];omega
    generalize hk : min m (8 - a % 8) = k
    have ek : min (m : Int) ((8 - a % 8 : Nat) : Int) = (k : Int):=by omega
    obtain ⟨z,hz,hzn⟩:=zS1 (L:=L) (a:=a) (k:=k) (by omega) (by omega) (by omega)
    have e9 : W64 (((8 - a % 8 : Nat) : Int) - (k : Int)) = ((8 - a % 8 - k : Nat) : Int):=by rw [zDn (by omega) (by omega)];omega
    have e10 : W64 ((m : Int) - (k : Int)) = ((m - k : Nat) : Int):=by rw [zDn (by omega) (by omega)];omega
    have e11 : W64 ((a : Int) + (k : Int)) = ((a + k : Nat) : Int):=by rw [zDn (by omega) (by omega)];omega
    show ((idx (zLg L) ((a / 8 : Nat) : Int)).bind _) = _;rw [hz,zBx];rw [e8,ek,e9,e10,e11,zN8 (by omega),zN8 (by omega)]
    have hp : (((shr8 z (8 - a % 8 - k)) &&& ((shl8 (1 : UInt8) k) - (1 : UInt8))).toNat) = zM2 ((L.drop a).take k):=by
      rw [mask8 (by omega),zSr,hzn]
    rw [hp]
    have hkl : ((L.drop a).take k).length = k:=by simp;omega
    have hK:=zOn ((L.drop a).take k);rw [hkl] at hK;have hK8 : 2 ^ k ≤ 2 ^ 8:=Nat.pow_le_pow_right (by omega) (by omega)
    have hvk : v.toNat * 2 ^ k < 2 ^ (64 - (m - k)):=by
      have e1 : 2 ^ (64 - m) * 2 ^ k = 2 ^ (64 - (m - k)):=by rw [← Nat.pow_add];congr 1;omega
      rw [← e1];exact Nat.mul_lt_mul_of_pos_right hv (Nat.two_pow_pos _)
    have h64 : 2 ^ (64 - (m - k)) ≤ 2 ^ 64:=Nat.pow_le_pow_right (by omega) (by omega)
    have hnv : ((shl64 v k) ||| (zAm ((zM2 ((L.drop a).take k) : Nat) : Int))).toNat = v.toNat * 2 ^ k + zM2 ((L.drop a).take k):=by
      rw [UInt64.toNat_or,zRi (by omega),zN8 (by omega),zVv hK]
    have hlt : v.toNat * 2 ^ k + zM2 ((L.drop a).take k) < 2 ^ (64 - (m - k)):=by
      have e1 : 2 ^ (64 - (m - k)) = 2 ^ (64 - m) * 2 ^ k:=by rw [← Nat.pow_add];congr 1;omega
      rw [e1]
      calc v.toNat * 2 ^ k + zM2 ((L.drop a).take k) < v.toNat * 2 ^ k + 2 ^ k:=by omega
        _ = (v.toNat + 1) * 2 ^ k:=by rw [Nat.add_mul,Nat.one_mul]
        _ ≤ 2 ^ (64 - m) * 2 ^ k:=Nat.mul_le_mul_right _ hv
    rw [ih (m - k) (by omega) (a + k) _ n (by omega) (by omega) (by rw [hnv];exact hlt) (by omega),hnv]
    congr 2
    have e12 : (L.drop a).take m = (L.drop a).take k ++ (L.drop (a + k)).take (m - k):=by
      rw [← List.drop_drop,← List.take_add];congr 1;omega
    have hr : ((L.drop (a + k)).take (m - k)).length = m - k:=by simp;omega
    rw [e12,zN5,hr,Nat.add_mul,Nat.mul_assoc,← Nat.pow_add,show k + (m - k) = m by omega,Nat.add_assoc]
theorem zUf {L : List Bool} {a n : Nat} (hL : L.length ≤ 8000000000) (ha : a ≤ L.length) (hn : n ≤ 64) :
    zC5 (RdO L a) (n : Int) = some (if a + n ≤ L.length then (UInt64.ofNat (zM2 ((L.drop a).take n)),true) else (0,false)):=by
  unfold zC5 zD1;simp only [zD,zBx];rw [if_neg (by omega),zDn (by omega) (by omega)]
  by_cases h : a + n ≤ L.length
  · rw [if_pos h,decide_eq_false (by omega)]
    simp only [Bool.false_eq_true,if_false];obtain ⟨f,hf⟩:=zT7 65 (by omega);have h1 : (0 : UInt64).toNat = 0:=rfl;have hl:=zS0 hL a (fun y13=>some (y13,true)) n a 0 fuel hn h (by rw [h1];exact Nat.two_pow_pos _) (by rw [hf];omega);rw [h1,Nat.zero_mul,Nat.zero_add] at hl;exact hl
  · rw [if_neg h,decide_eq_true (by omega)];rfl
theorem zU4 {L : List Bool} {a n : Nat} (hL : L.length ≤ 8000000000) (ha : a ≤ L.length) (hn : n ≤ 64) :
    zC4 (RdO L a) (n : Int) = some (if a + n ≤ L.length then (UInt64.ofNat (zM2 ((L.drop a).take n)),true,RdO L (a + n)) else (0,false,RdO L a)):=by
  unfold zC4;rw [zUf hL ha hn,zBx];simp only [zD]
  by_cases h : a + n ≤ L.length
  · rw [if_pos h,if_pos h];simp only [if_true]
    rw [zDn (by omega) (by omega)];simp
  · rw [if_neg h,if_neg h];simp only [Bool.false_eq_true,if_false]
end Go.Proofs.YthjhejgjcdajdaaGreatDoor
set_option maxRecDepth 20000
set_option linter.unusedVariables false
set_option linter.unusedSimpArgs false
namespace Go.Proofs.YthjhejgjcdajdaaGreatDoor
open Go Go.RowKit Go.Wk
abbrev zs (l : List Bool) : List Int:=l.map biZ
end Go.Proofs.YthjhejgjcdajdaaGreatDoor
set_option linter.unusedVariables false
set_option linter.unusedSimpArgs false
namespace Go.Proofs.YthjhejgjcdajdaaGreatDoor
open Go Go.RowKit Go.Wk
def bl (n : Nat) : Nat:=if n = 0 then 0 else n.log2 + 1
def oth (n : Nat) : Nat:=if 56 < bl n then 8 else (bl n - 1) / 7
def byt (n : Nat) : Nat → List UInt8
  | 0=>[]
  | k + 1=>UInt8.ofNat (n / 256 ^ k % 256) :: byt n k
def fstB (n k : Nat) : UInt8:=if k < 8 then UInt8.ofNat (256 - 2 ^ (8 - k) + n / 256 ^ k) else 255
def enc (v : UInt64) : List UInt8:=fstB v.toNat (oth v.toNat) :: byt v.toNat (oth v.toNat)
theorem zSo (n : Nat) : zKz (n : Int) = UInt8.ofNat (n % 256):=by unfold zKz;congr 1
end Go.Proofs.YthjhejgjcdajdaaGreatDoor
set_option linter.unusedVariables false
set_option linter.unusedSimpArgs false
namespace Go.Proofs.YthjhejgjcdajdaaGreatDoor
open Go Go.RowKit Go.Wk
end Go.Proofs.YthjhejgjcdajdaaGreatDoor
set_option linter.unusedVariables false
set_option linter.unusedSimpArgs false
namespace Go.Proofs.YthjhejgjcdajdaaGreatDoor
open Go Go.RowKit Go.Wk
abbrev okI (x : Int) : Prop:=-9223372036854775808 ≤ x ∧ x ≤ 9223372036854775807
def zig (x : Int) : UInt64:=UInt64.ofNat (if 0 ≤ x then 2 * x.toNat else 2 * (-1 - x).toNat + 1)
end Go.Proofs.YthjhejgjcdajdaaGreatDoor
set_option maxRecDepth 20000
set_option linter.unusedVariables false
set_option linter.unusedSimpArgs false
namespace Go.Proofs.YthjhejgjcdajdaaGreatDoor
open Go Go.RowKit Go.Wk
def szN (c : Nat) : Nat:=if c = 0 then 0 else if c = 1 then 7 else if c = 2 then 20 else 64
def clsN (v : Nat) : Nat:=if v < 1 then 0 else if v < 128 then 1 else if v < 1048576 then 2 else 3
def smB (v : Nat) : List Bool:=zVn (clsN v) 2 ++ zVn v (szN (clsN v))
structure GotB where
  V : Nat
  N : Nat
  E : Nat
end Go.Proofs.YthjhejgjcdajdaaGreatDoor
set_option maxRecDepth 20000
set_option linter.unusedVariables false
set_option linter.unusedSimpArgs false
namespace Go.Proofs.YthjhejgjcdajdaaGreatDoor
open Go Go.RowKit Go.Wk
theorem zG1 {n : Nat} (h : n < 18446744073709551616) : (UInt64.ofNat n).toNat = n:=by rw [UInt64.toNat_ofNat'];exact Nat.mod_eq_of_lt h
end Go.Proofs.YthjhejgjcdajdaaGreatDoor
set_option maxRecDepth 20000
set_option linter.unusedVariables false
set_option linter.unusedSimpArgs false
namespace Go.Proofs.YthjhejgjcdajdaaGreatDoor
open Go Go.RowKit Go.Wk
def sI (u : UInt64) : Int:=if u.toNat < 9223372036854775808 then (u.toNat : Int) else (u.toNat : Int) - 18446744073709551616
end Go.Proofs.YthjhejgjcdajdaaGreatDoor
set_option maxRecDepth 20000
set_option linter.unusedVariables false
set_option linter.unusedSimpArgs false
namespace Go.Proofs.YthjhejgjcdajdaaGreatDoor
open Go Go.RowKit Go.Wk
end Go.Proofs.YthjhejgjcdajdaaGreatDoor
set_option maxRecDepth 20000
set_option linter.unusedVariables false
set_option linter.unusedSimpArgs false
namespace Go.Proofs.YthjhejgjcdajdaaGreatDoor
open Go Go.RowKit Go.Wk
def zMu : Nat → List Bool → Nat
  | n + 1,true :: t=>zMu n t + 1
  | _,_=>0
end Go.Proofs.YthjhejgjcdajdaaGreatDoor
set_option maxRecDepth 20000
set_option linter.unusedVariables false
set_option linter.unusedSimpArgs false
namespace Go.Proofs.YthjhejgjcdajdaaGreatDoor
open Go Go.RowKit Go.Wk
theorem step_loop {L : List Bool} {a : Nat} (hL : L.length ≤ 8000000000) (j1 : Int → zA0 → Option (Int × Int × zA0)) : ∀ (r k b : Nat) (f : Nat),k + r = 4 → b ≤ L.length → r < f →
    zDx (RdO L a) j1 f (k : Int) (RdO L b) =
      (if zMu r (L.drop b) < r ∧ (L.drop b).length = zMu r (L.drop b) then some (0,2,RdO L a)
       else j1 ((k + zMu r (L.drop b) : Nat) : Int) (RdO L (b + zMu r (L.drop b) + if zMu r (L.drop b) < r then 1 else 0))):=by
  intro r
  induction r with
  | zero=>
    intro k b f hk hb hf;obtain ⟨f,rfl⟩ : ∃ k,f = k + 1:=⟨f - 1,by omega⟩
    have : zMu 0 (L.drop b) = 0:=by cases L.drop b<;>rfl
    rw [zDx,if_neg (by omega),this,if_neg (by omega),if_neg (by omega)];rfl
  | succ r ih=>
    intro k b f hk hb hf;obtain ⟨f,rfl⟩ : ∃ k,f = k + 1:=⟨f - 1,by omega⟩;have t1 : zC4 (RdO L b) 1 = _:=zU4 (L:=L) (a:=b) (n:=1) hL hb (by omega);rw [zDx,if_pos (by omega),t1,zBx]
    by_cases h1 : b + 1 ≤ L.length
    · rw [if_pos h1]
      simp only [Bool.not_true,Bool.false_eq_true,if_false];have hd : L.drop b = L[b] :: L.drop (b + 1):=List.drop_eq_getElem_cons (by omega)
      have hn : zM2 ((L.drop b).take 1) = (L[b]).toNat:=by rw [hd,List.take_succ_cons,List.take_zero,zQg]
      rw [hn]
      cases hx : L[b] with
      | false=>
        rw [hx] at hd
        have ho : zMu (r + 1) (L.drop b) = 0:=by rw [hd];rfl
        rw [ho,if_pos (by rfl),if_neg (by rw [hd];simp),if_pos (by omega)];rfl
      | true=>
        rw [hx] at hd
        have ho : zMu (r + 1) (L.drop b) = zMu r (L.drop (b + 1)) + 1:=by rw [hd];rfl
        have hl : (L.drop b).length = (L.drop (b + 1)).length + 1:=by rw [hd];rfl
        rw [if_neg (by decide),zG7 (by omega),ih (k + 1) (b + 1) f (by omega) (by omega) (by omega),ho,hl];generalize zMu r (L.drop (b + 1)) = X;generalize (L.drop (b + 1)).length = Y
        by_cases hc : X < r ∧ Y = X
        · rw [if_pos hc,if_pos (show X + 1 < r + 1 ∧ Y + 1 = X + 1 by omega)]
        · rw [if_neg hc,if_neg (show ¬ (X + 1 < r + 1 ∧ Y + 1 = X + 1) by omega),show k + 1 + X = k + (X + 1) by omega]
          by_cases h2 : X < r
          · rw [if_pos h2,if_pos (show X + 1 < r + 1 by omega),show b + 1 + X + 1 = b + (X + 1) + 1 by omega]
          · rw [if_neg h2,if_neg (show ¬ X + 1 < r + 1 by omega),show b + 1 + X + 0 = b + (X + 1) + 0 by omega]
    · rw [if_neg h1]
      have hz : L.drop b = []:=List.drop_of_length_le (by omega);rw [hz];simp [zMu]
end Go.Proofs.YthjhejgjcdajdaaGreatDoor
set_option maxRecDepth 20000
set_option linter.unusedVariables false
set_option linter.unusedSimpArgs false
namespace Go.Proofs.YthjhejgjcdajdaaGreatDoor
open Go Go.RowKit Go.Wk
end Go.Proofs.YthjhejgjcdajdaaGreatDoor
set_option maxRecDepth 20000
set_option linter.unusedVariables false
set_option linter.unusedSimpArgs false
namespace Go.Proofs.YthjhejgjcdajdaaGreatDoor
open Go Go.RowKit Go.Wk
def inW (a s x : Nat) : Prop:=x < 2 ^ (64 - a) ∧ x % 2 ^ (64 - a - s) = 0
instance (a s x : Nat) : Decidable (inW a s x):=by unfold inW;exact inferInstance
structure WinN where
  a : Nat
  s : Nat
deriving DecidableEq
def WinN.ok (w : WinN) : Prop:=(w.a = 0 ∧ w.s = 0) ∨ (w.a ≤ 31 ∧ 0 < w.s ∧ w.a + w.s ≤ 64)
end Go.Proofs.YthjhejgjcdajdaaGreatDoor
set_option maxRecDepth 20000
set_option linter.unusedVariables false
set_option linter.unusedSimpArgs false
namespace Go.Proofs.YthjhejgjcdajdaaGreatDoor
open Go Go.RowKit Go.Wk
theorem tb (x i : Nat) : x.testBit i = decide (x / 2 ^ i % 2 = 1):=Nat.testBit_eq_decide_div_mod_eq
end Go.Proofs.YthjhejgjcdajdaaGreatDoor
set_option maxRecDepth 20000
set_option linter.unusedVariables false
set_option linter.unusedSimpArgs false
namespace Go.Proofs.YthjhejgjcdajdaaGreatDoor
open Go Go.RowKit Go.Wk
end Go.Proofs.YthjhejgjcdajdaaGreatDoor
set_option maxRecDepth 20000
set_option linter.unusedVariables false
set_option linter.unusedSimpArgs false
namespace Go.Proofs.YthjhejgjcdajdaaGreatDoor
open Go Go.RowKit Go.Wk
structure GotX where
  V : UInt64
  N : Nat
  E : Nat
  w : WinN
end Go.Proofs.YthjhejgjcdajdaaGreatDoor
set_option maxRecDepth 20000
set_option linter.unusedVariables false
set_option linter.unusedSimpArgs false
namespace Go.Proofs.YthjhejgjcdajdaaGreatDoor
open Go Go.RowKit Go.Wk
end Go.Proofs.YthjhejgjcdajdaaGreatDoor
set_option maxRecDepth 20000
set_option linter.unusedVariables false
set_option linter.unusedSimpArgs false
namespace Go.Proofs.YthjhejgjcdajdaaGreatDoor
open Go Go.RowKit Go.Wk
end Go.Proofs.YthjhejgjcdajdaaGreatDoor
set_option maxRecDepth 20000
set_option linter.unusedVariables false
set_option linter.unusedSimpArgs false
namespace Go.Proofs.YthjhejgjcdajdaaGreatDoor
open Go Go.RowKit Go.Wk
def zOy (l : List UInt64) : Nat:=(l.map UInt64.toNat).sum
theorem zOx (x : UInt64) (l : List UInt64) : zOy (x :: l) = x.toNat + zOy l:=by simp [zOy]
theorem zUc (a b : UInt64) : a ||| b = 0 ↔ a = 0 ∧ b = 0:=by
  constructor
  · intro h
    have h1 : (a ||| b).toNat = 0:=by rw [h];rfl
    rw [UInt64.toNat_or] at h1;have:=Nat.or_eq_zero_iff.1 h1;exact ⟨UInt64.toNat_inj.1 this.1,UInt64.toNat_inj.1 this.2⟩
  · rintro ⟨rfl,rfl⟩;rfl
theorem zQ7 (l : List UInt64) : ∀ (a b : UInt64),((l.foldl (fun (s : UInt64 × UInt64) x=>(s.1 + x,s.2 ||| cry s.1 x)) (a,b)).1.toNat = (a.toNat + zOy l) % 2 ^ 64) ∧
    ((l.foldl (fun (s : UInt64 × UInt64) x=>(s.1 + x,s.2 ||| cry s.1 x)) (a,b)).2 = 0 ↔ b = 0 ∧ a.toNat + zOy l < 2 ^ 64):=by
  induction l with
  | nil=>intro a b;have:=a.toNat_lt;simp [zOy];omega
  | cons x l ih=>
    intro a b;have ha:=a.toNat_lt;have hx:=x.toNat_lt;obtain ⟨h1,h2⟩:=ih (a + x) (b ||| cry a x);rw [List.foldl_cons];dsimp only;rw [h1,h2,zUc,zOx];have e : (a + x).toNat = (a.toNat + x.toNat) % 2 ^ 64:=UInt64.toNat_add a x
    constructor
    · rw [e];omega
    · unfold cry
      by_cases hc : 18446744073709551616 ≤ a.toNat + x.toNat
      · rw [if_pos hc]
        constructor
        · rintro ⟨⟨_,h⟩,_⟩;exact absurd h (by decide)
        · rintro ⟨_,h⟩;omega
      · rw [if_neg hc,e]
        constructor
        · rintro ⟨⟨h,_⟩,k⟩;exact ⟨h,by omega⟩
        · rintro ⟨h,k⟩;exact ⟨⟨h,rfl⟩,by omega⟩
def zU1 (h : zA4) : Nat:=h.Zero.toNat + zOy h.Pos.Counts + zOy h.Neg.Counts
def zVb (h : zA4) : UInt64 × Bool:=if zU1 h < 2 ^ 64 then (UInt64.ofNat (zU1 h),true) else (0,false)
theorem zTu (h : zA4) (h1 : h.Pos.Counts.length ≤ 1000000) (h2 : h.Neg.Counts.length ≤ 1000000) : zJ h = some (zVb h):=by
  have hL2 : ∀ (z : zAb) (j : UInt64 → UInt64 → Option (UInt64 × Bool)) (a b : UInt64),z.Counts.length ≤ 1000000 → zBz z j fuel a b 0 = j (z.Counts.foldl (fun (s : UInt64 × UInt64) x=>(s.1 + x,s.2 ||| cry s.1 x)) (a,b)).1 (z.Counts.foldl (fun (s : UInt64 × UInt64) x=>(s.1 + x,s.2 ||| cry s.1 x)) (a,b)).2:=by
    intro z j a b h;rw [zL9 _ _ _ _ (by omega),zQt (fun (s : UInt64 × UInt64) x=>(s.1 + x,s.2 ||| cry s.1 x)) (fun i x s k _=>by rw [zBx])]
  unfold zJ zHj;rw [zBx,zD];obtain ⟨m,hm⟩:=zT7 3 (by omega)
  rw [show zCd { a0:=h.Pos,a1:=h.Neg } _ fuel _ _ _ = zCd { a0:=h.Pos,a1:=h.Neg } _ (m + 3) _ _ _ by rw [← hm],zCd,if_pos (by omega),show idx [h.Pos,h.Neg] 0 = some h.Pos from rfl,zBx,zD,hL2 _ _ _ _ h1,zDn (by omega) (by omega),show (0 : Int) + 1 = 1 from rfl,
    zCd,if_pos (by omega),show idx [h.Pos,h.Neg] 1 = some h.Neg from rfl,zBx,zD,hL2 _ _ _ _ h2,zDn (by omega) (by omega),show (1 : Int) + 1 = 2 from rfl,zCd,if_neg (by omega)]
  obtain ⟨p1,p2⟩:=zQ7 h.Pos.Counts h.Zero 0;generalize h.Pos.Counts.foldl (fun (s : UInt64 × UInt64) x=>(s.1 + x,s.2 ||| cry s.1 x)) (h.Zero,0) = P at *;obtain ⟨q1,q2⟩:=zQ7 h.Neg.Counts P.1 P.2;generalize h.Neg.Counts.foldl (fun (s : UInt64 × UInt64) x=>(s.1 + x,s.2 ||| cry s.1 x)) (P.1,P.2) = Q at *;unfold zVb zU1
  by_cases hq : Q.2 = 0
  · obtain ⟨a1,a2⟩:=q2.1 hq
    obtain ⟨_,a3⟩:=p2.1 a1;rw [if_neg (by rw [hq];decide),if_pos (by omega)]
    have : Q.1 = UInt64.ofNat (h.Zero.toNat + zOy h.Pos.Counts + zOy h.Neg.Counts):=by
      apply UInt64.toNat_inj.1
      rw [q1,zG1 (by omega)];omega
    rw [this]
  · have hq' : Q.2.toNat ≠ 0:=fun h=>hq (UInt64.toNat_inj.1 h)
    rw [if_pos (by omega),if_neg];intro h
    apply hq
    rw [q2];exact ⟨p2.2 ⟨rfl,by omega⟩,by omega⟩
theorem zRm (y : UInt64) (l : List UInt64) (hl : l.length ≤ 1000000) : zD4 y l = some (if y.toNat + zOy l < 2 ^ 64 then (UInt64.ofNat (y.toNat + zOy l),true) else (0,false)):=by
  unfold zD4;rw [zD,zHn _ _ _ (by omega),zJb (fun _ (q : List UInt64) (y : UInt64)=>some (if y.toNat + zOy q < 2 ^ 64 then (UInt64.ofNat (y.toNat + zOy q),true) else (0,false)))]
  · intro s
    have:=s.toNat_lt;rw [if_pos (by simp [zOy];omega)];simp [zOy]
  · intro p x q s k _ hk
    have hs:=s.toNat_lt;have hx:=x.toNat_lt
    have e : ((18446744073709551615 : UInt64) - s).toNat = 18446744073709551615 - s.toNat:=by
      rw [UInt64.toNat_sub_of_le _ _ (by rw [UInt64.le_iff_toNat_le];show s.toNat ≤ 18446744073709551615;omega)];rfl
    rw [zBx,zBx,e,zOx]
    by_cases hc : (x.toNat : Int) > ((18446744073709551615 - s.toNat : Nat) : Int)
    · rw [if_pos hc,if_neg (by omega)]
    · rw [if_neg hc,hk,show (s + x).toNat = s.toNat + x.toNat by rw [UInt64.toNat_add];omega,Nat.add_assoc]
theorem zRo (h : zA4) (h1 : h.Pos.Counts.length ≤ 1000000) (h2 : h.Neg.Counts.length ≤ 1000000) : zDs h = some (zVb h):=by
  unfold zDs zVb zU1;rw [zRm _ _ h1,zBx]
  by_cases hp : h.Zero.toNat + zOy h.Pos.Counts < 2 ^ 64
  · rw [if_pos hp,if_neg (by simp),zRm _ _ h2,zBx,zG1 hp]
  · rw [if_neg hp,if_pos (by simp),if_neg (by omega)]
def sdE (s : zAb) : Int:=
  if s.Counts.length > 160 then 4
  else if s.Counts = [] then (if s.Offset ≠ 0 then 3 else 0)
  else if s.Counts.headD 0 = 0 ∨ s.Counts.getLastD 0 = 0 then 3
  else if s.Offset < -1073741824 ∨ s.Offset + s.Counts.length - 1 > 1073741824 then 1 else 0
theorem zOv (x : UInt64) : ((x.toNat : Nat) : Int) = 0 ↔ x = 0:=by
  constructor
  · intro h;apply UInt64.toNat_inj.1;show x.toNat = 0;omega
  · rintro rfl;rfl
theorem ends {l : List UInt64} (h : l ≠ []) (hl : l.length ≤ 1000000) : idx l 0 = some (l.headD 0) ∧ idx l (W64 ((l.length : Int) - 1)) = some (l.getLastD 0):=by
  have h0 : 0 < l.length:=List.length_pos_iff.2 h
  constructor
  · cases l with
    | nil=>exact absurd rfl h
    | cons a t=>rfl
  · rw [zDn (by omega) (by omega),show (l.length : Int) - 1 = ((l.length - 1 : Nat) : Int) by omega,zJ8,← List.getLast?_eq_getElem?,List.getLast?_eq_some_getLast h]
    cases l with
    | nil=>exact absurd rfl h
    | cons a t=>rw [List.getLastD_cons,List.getLast_eq_getLastD]
theorem zP0 (s : zAb) : zIz s = some (sdE s):=by
  unfold zIz sdE
  by_cases h1 : s.Counts.length > 160
  · rw [if_pos (by omega),if_pos h1]
  rw [if_neg (by omega),if_neg h1]
  by_cases h2 : s.Counts = []
  · rw [if_pos h2,h2]
    by_cases h3 : s.Offset ≠ 0
    · rw [if_pos ⟨rfl,h3⟩,if_pos h3]
    · rw [if_neg (fun h=>h3 h.2),if_pos (by rfl),if_neg h3]
  have h0 : 0 < s.Counts.length:=List.length_pos_iff.2 h2;obtain ⟨e1,e2⟩:=ends h2 (by omega);rw [if_neg (by omega),if_neg (by omega),if_neg h2,e1,zBx];simp only [zD]
  by_cases h3 : s.Counts.headD 0 = 0
  · rw [if_pos ((zOv _).2 h3),if_pos (by trivial),if_pos (Or.inl h3)]
  rw [if_neg (fun h=>h3 ((zOv _).1 h)),e2,zBx]
  by_cases h4 : s.Counts.getLastD 0 = 0
  · rw [if_pos (decide_eq_true ((zOv _).2 h4)),if_pos (Or.inr h4)]
  rw [if_neg (by rw [decide_eq_false (fun h=>h4 ((zOv _).1 h))];decide),if_neg (show ¬ (s.Counts.headD 0 = 0 ∨ s.Counts.getLastD 0 = 0) from fun h=>h.elim h3 h4),zDn (z:=(s.Counts.length : Int) - 1) (by omega) (by omega),zDn (by omega) (by omega)]
  by_cases h5 : s.Offset < -1073741824
  · rw [if_pos h5,if_pos (by trivial),if_pos (Or.inl h5)]
  rw [if_neg h5]
  by_cases h6 : s.Offset > 1073741824 - ((s.Counts.length : Int) - 1)
  · rw [if_pos (decide_eq_true h6),if_pos (by omega)]
  · rw [if_neg (by rw [decide_eq_false h6];decide),if_neg (by omega)]
theorem zP1 (s : zAb) : zCx s = some (sdE s):=by
  unfold zCx sdE
  by_cases h1 : s.Counts.length > 160
  · rw [if_pos (by omega),if_pos h1]
  rw [if_neg (by omega),if_neg h1]
  by_cases h2 : s.Counts = []
  · rw [if_pos h2,h2,if_pos (by rfl)]
    by_cases h3 : s.Offset ≠ 0
    · rw [if_pos h3,if_pos h3]
    · rw [if_neg h3,if_neg h3]
  have h0 : 0 < s.Counts.length:=List.length_pos_iff.2 h2;obtain ⟨e1,e2⟩:=ends h2 (by omega);rw [if_neg (by omega),if_neg h2,e1,zBx];simp only [zD]
  by_cases h3 : s.Counts.headD 0 = 0
  · rw [if_pos ((zOv _).2 h3),if_pos (by trivial),if_pos (Or.inl h3)]
  rw [if_neg (fun h=>h3 ((zOv _).1 h)),e2,zBx]
  by_cases h4 : s.Counts.getLastD 0 = 0
  · rw [if_pos (decide_eq_true ((zOv _).2 h4)),if_pos (Or.inr h4)]
  rw [if_neg (by rw [decide_eq_false (fun h=>h4 ((zOv _).1 h))];decide),if_neg (show ¬ (s.Counts.headD 0 = 0 ∨ s.Counts.getLastD 0 = 0) from fun h=>h.elim h3 h4)]
  by_cases h5 : s.Offset < -1073741824 ∨ s.Offset > 1073741824
  · rw [if_pos h5,if_pos (by trivial),if_pos (by omega)]
  rw [if_neg h5,zDn (z:=s.Offset + (s.Counts.length : Int)) (by omega) (by omega),zDn (by omega) (by omega)]
  by_cases h6 : s.Offset + (s.Counts.length : Int) - 1 > 1073741824
  · rw [if_pos (decide_eq_true h6),if_pos (Or.inr h6)]
  · rw [if_neg (by rw [decide_eq_false h6];decide),if_neg (by omega)]
def hcE (h : zA4) : Int:=
  if h.Scale < -10 ∨ h.Scale > 20 then 1 else if sdE h.Pos ≠ 0 then sdE h.Pos else if sdE h.Neg ≠ 0 then sdE h.Neg else if zU1 h < 2 ^ 64 then 0 else 4
theorem zSi (h : zA4) (h1 : h.Pos.Counts.length ≤ 1000000) (h2 : h.Neg.Counts.length ≤ 1000000) : zDt h = some (hcE h):=by
  unfold zDt hcE
  by_cases hs : h.Scale < -10 ∨ h.Scale > 20
  · rw [if_pos hs,if_pos hs]
  rw [if_neg hs,if_neg hs,zP1,zBx]
  by_cases c1 : sdE h.Pos ≠ 0
  · rw [if_pos c1,if_pos c1]
  rw [if_neg c1,if_neg c1,zP1,zBx]
  by_cases c2 : sdE h.Neg ≠ 0
  · rw [if_pos c2,if_pos c2]
  rw [if_neg c2,if_neg c2,zRo h h1 h2,zBx];unfold zVb
  by_cases ht : zU1 h < 2 ^ 64
  · rw [if_pos ht,if_pos ht,if_neg (by simp)]
  · rw [if_neg ht,if_neg ht,if_pos (by simp)]
theorem zSh (h : zA4) (h1 : h.Pos.Counts.length ≤ 1000000) (h2 : h.Neg.Counts.length ≤ 1000000) : zFo h = some (hcE h):=by
  unfold zFo zHj hcE
  by_cases hs : h.Scale < -10 ∨ h.Scale > 20
  · rw [if_pos hs,if_pos hs]
  rw [if_neg hs,if_neg hs,zBx,zD];obtain ⟨m,hm⟩:=zT7 3 (by omega);rw [hm,zDd,if_pos (by omega),show idx [h.Pos,h.Neg] 0 = some h.Pos from rfl,zBx,zP0,zBx]
  by_cases c1 : sdE h.Pos ≠ 0
  · rw [if_pos c1,if_pos c1]
  rw [if_neg c1,if_neg c1,zDn (by omega) (by omega),show (0 : Int) + 1 = 1 from rfl,zDd,if_pos (by omega),show idx [h.Pos,h.Neg] 1 = some h.Neg from rfl,zBx,zP0,zBx]
  by_cases c2 : sdE h.Neg ≠ 0
  · rw [if_pos c2,if_pos c2]
  rw [if_neg c2,if_neg c2,zDn (by omega) (by omega),show (1 : Int) + 1 = 2 from rfl,zDd,if_neg (by omega),zTu h h1 h2,zBx];unfold zVb
  by_cases ht : zU1 h < 2 ^ 64
  · rw [if_pos ht,if_pos ht,if_neg (by simp)]
  · rw [if_neg ht,if_neg ht,if_pos (by simp)]
end Go.Proofs.YthjhejgjcdajdaaGreatDoor
set_option maxRecDepth 20000
set_option linter.unusedVariables false
set_option linter.unusedSimpArgs false
namespace Go.Proofs.YthjhejgjcdajdaaGreatDoor
open Go Go.RowKit Go.Wk
def zV8 (a b : zA4) : Prop:=a.Scale = b.Scale ∧ a.Pos.Offset = b.Pos.Offset ∧ a.Neg.Offset = b.Neg.Offset ∧ a.Pos.Counts.length = b.Pos.Counts.length ∧ a.Neg.Counts.length = b.Neg.Counts.length
instance (a b : zA4) : Decidable (zV8 a b):=by unfold zV8;exact inferInstance
def allC (h : zA4) : List UInt64:=h.Zero :: (h.Pos.Counts ++ h.Neg.Counts)
def smS (l : List UInt64) : List Bool:=l.flatMap fun c=>smB c.toNat
def dfS (l m : List UInt64) : List Bool:=(l.zip m).flatMap fun c=>smB (zig (sI (c.1 - c.2))).toNat
def shB (s : zAb) : List Bool:=zVn s.Counts.length 8 ++ if s.Counts.length > 0 then smB (zig s.Offset).toNat else []
def fullH (h : zA4) : List Bool:=false :: (zVn (h.Scale + 10).toNat 5 ++ (shB h.Pos ++ (shB h.Neg ++ smS (allC h))))
def hB (n : Nat) (last h : zA4) : List Bool:=if 0 < n ∧ zV8 last h then true :: dfS (allC h) (allC last) else fullH h
structure HOk (h : zA4) : Prop where
  p : h.Pos.Counts.length ≤ 160
  n : h.Neg.Counts.length ≤ 160
  s0 : -10 ≤ h.Scale
  s1 : h.Scale ≤ 20
  op : okI h.Pos.Offset
  on : okI h.Neg.Offset
end Go.Proofs.YthjhejgjcdajdaaGreatDoor
set_option maxRecDepth 20000
set_option linter.unusedVariables false
set_option linter.unusedSimpArgs false
namespace Go.Proofs.YthjhejgjcdajdaaGreatDoor
open Go Go.RowKit Go.Wk
abbrev h00 : zA4:=⟨0,0,⟨0,[]⟩,⟨0,[]⟩⟩
end Go.Proofs.YthjhejgjcdajdaaGreatDoor
set_option maxRecDepth 20000
set_option linter.unusedVariables false
set_option linter.unusedSimpArgs false
namespace Go.Proofs.YthjhejgjcdajdaaGreatDoor
open Go Go.RowKit Go.Wk
structure StH where
  a : Nat
  e : Nat
end Go.Proofs.YthjhejgjcdajdaaGreatDoor
set_option maxRecDepth 20000
set_option linter.unusedVariables false
set_option linter.unusedSimpArgs false
namespace Go.Proofs.YthjhejgjcdajdaaGreatDoor
open Go Go.RowKit Go.Wk
end Go.Proofs.YthjhejgjcdajdaaGreatDoor
set_option maxRecDepth 20000
set_option linter.unusedVariables false
set_option linter.unusedSimpArgs false
namespace Go.Proofs.YthjhejgjcdajdaaGreatDoor
open Go Go.RowKit Go.Wk
structure GotH where
  H : zA4
  a : Nat
  E : Int
section
variable {n a : Nat} {last H : zA4} {L : List Bool} {s : StH}
end
end Go.Proofs.YthjhejgjcdajdaaGreatDoor
set_option maxRecDepth 20000
set_option linter.unusedVariables false
set_option linter.unusedSimpArgs false
namespace Go.Proofs.YthjhejgjcdajdaaGreatDoor
open Go Go.RowKit Go.Wk
section
variable {L : List Bool} {s : StH}
end
end Go.Proofs.YthjhejgjcdajdaaGreatDoor
set_option maxRecDepth 20000
set_option linter.unusedVariables false
set_option linter.unusedSimpArgs false
namespace Go.Proofs.YthjhejgjcdajdaaGreatDoor
open Go Go.RowKit Go.Wk
end Go.Proofs.YthjhejgjcdajdaaGreatDoor
set_option maxRecDepth 20000
set_option linter.unusedVariables false
set_option linter.unusedSimpArgs false
namespace Go.Proofs.YthjhejgjcdajdaaGreatDoor
open Go Go.RowKit Go.Wk
section shift
variable {L : List Bool} {a : Nat}
end shift
section back
variable {L : List Bool}
end back
end Go.Proofs.YthjhejgjcdajdaaGreatDoor
set_option linter.unusedVariables false
set_option linter.unusedSimpArgs false
namespace Go.Proofs.YthjhejgjcdajdaaGreatDoor
open Go Go.RowKit Go.Wk
abbrev Txt:=List UInt8
abbrev Pr:=zA
def zOz (c : UInt8) : Bool:=decide (97 ≤ c.toNat) && decide (c.toNat ≤ 122)
def nmC (c : UInt8) : Bool:=zOz c || (decide (48 ≤ c.toNat) && decide (c.toNat ≤ 57)) || decide (c.toNat = 95) || decide (c.toNat = 46)
def zGf (s : Txt) : Bool:=decide (s.length ≤ 32) && match s with | []=>false | c :: t=>zOz c && t.all nmC
def zVf (c : UInt8) : Bool:=decide (33 ≤ c.toNat) && decide (c.toNat ≤ 126) && decide (c.toNat ≠ 61) && decide (c.toNat ≠ 59) && decide (c.toNat ≠ 44)
def zO2 (s : Txt) : Bool:=decide (s.length ≤ 32) && decide (1 ≤ s.length) && s.all zVf
theorem zQb (c : UInt8) : zFv c = some (zOz c):=by unfold zFv zOz;rw [← Bool.decide_and];congr 1;apply decide_eq_decide.2;omega
theorem zLx (s : Txt) : zDz s = some (zGf s):=by
  unfold zDz;simp only [zD]
  split
  · rename_i h;rcases h with rfl | h<;>simp [zGf];omega
  · rename_i h
    match s,h with
    | c :: t,h=>
      simp only [not_or] at h;have hb:=h.2;rw [idx0,zBx,zQb,zBx,zQi (by omega),zBx,zKh _ _ (by omega),zJc nmC (some false)]
      · have : (c :: t).length ≤ 32:=by omega
        have hn : zOz c = true → nmC c = true:=fun h=>by simp [nmC,h]
        unfold zGf
        cases hc : zOz c<;>simp_all
        split<;>simp_all
      · intro i x k _
        rw [zBx,zQb,zBx]
        refine zS5 ?_ (fun _=>rfl) fun _=>rfl
        simp [nmC];grind
theorem zOe (s : Txt) : zEx s = some (zO2 s):=by
  unfold zEx;simp only [zD]
  split
  · rename_i h;rcases h with rfl | h<;>simp [zO2];omega
  · rename_i h
    simp only [not_or] at h;have hb:=h.2;have:=List.length_pos_iff.2 h.1;rw [zQi (by omega),zBx,zK _ _ (by omega),zJc zVf (some false)]
    · unfold zO2;split<;>simp_all<;>omega
    · intro i x k _
      simp only [zBx,zD,zVf]
      grind
theorem zL0 (s : Txt) : zBs s = some (zGf s):=by
  unfold zBs;simp only [zD]
  split
  · rename_i h
    match s with
    | []=>rfl
    | c :: t=>unfold zGf;simp at h ⊢;grind
  · rename_i h
    rw [zHh _ _ (by omega)]
    match s with
    | []=>simp at h
    | c :: t=>
      unfold zF3;simp only [zNb,zBx];rw [zQc nmC (some false)]
      · unfold zGf zOz;simp at h ⊢;grind
      · intro i x k hi _
        refine zS5 ?_ (fun _=>rfl) fun _=>rfl
        simp [nmC,zOz];omega
theorem zNe (s : Txt) : zC9 s = some (zO2 s):=by
  unfold zC9;simp only [zD]
  split
  · rename_i h;unfold zO2;simp;omega
  · rename_i h
    rw [zH4 _ _ (by omega),zJc zVf (some false)]
    · unfold zO2;split<;>simp_all<;>omega
    · intro i x k _
      simp only [zBx,zVf]
      grind
def chk : List Pr → List Pr → Int
  | _,[]=>0
  | p,a :: l=>if (zGf a.Key && zO2 a.Val) = true then (if p.any (fun b=>decide (b.Key = a.Key)) = true then 8 else chk (p ++ [a]) l) else 3
def zIo (name : Txt) (l : List Pr) : Int:=if zGf name = true then (if l.length > 4 then 4 else chk [] l) else 3
theorem zQ0 (l : List Pr) (a : Pr) (h : l.length < 4611686018427387904) : zBd l a = some (l.any fun b=>decide (b.Key = a.Key)):=by
  unfold zBd zC3;rw [zD,zEo _ _ _ h];rw [zJb (fun p q _=>some (if q.any (fun b=>decide (b.Key = a.Key)) = true then ((p.length + q.findIdx fun b=>decide (b.Key = a.Key) : Nat) : Int) else -1)) ?_ ?_]
  · cases h : l.any (fun b=>decide (b.Key = a.Key))<;>simp [zBx]
  · intro s;rfl
  · intro p x q _ k _ hk
    simp only [zBx,zGm,hk]
    by_cases hx : x.Key = a.Key
    · simp [hx,List.findIdx_cons]
    · simp [hx,List.findIdx_cons];congr 1;omega
theorem zTl (name : Txt) (l : List Pr) : zGn name l = some (zIo name l):=by
  unfold zGn zIo;rw [zLx,zBx]
  by_cases hn : zGf name = true
  · rw [hn,if_neg (by simp),if_pos rfl]
    by_cases hl : l.length > 4
    · rw [if_pos (by omega),if_pos hl]
    rw [if_neg (by omega),if_neg hl,zD,zKr _ _ (by omega)];refine zJb (fun p q _=>some (chk p q)) (fun _=>rfl) ?_;intro p x q _ k hp hk;subst hp;simp only [zBx,zLx,zOe,zD,zMh,zQ0 p x (by simp at hl;omega),hk,chk]
    cases zGf x.Key<;>cases zO2 x.Val<;>simp
    split<;>rfl
  · simp at hn
    rw [hn];rfl
end Go.Proofs.YthjhejgjcdajdaaGreatDoor
set_option linter.unusedVariables false
set_option linter.unusedSimpArgs false
namespace Go.Proofs.YthjhejgjcdajdaaGreatDoor
open Go Go.RowKit Go.Wk
def zOf (a : Pr) : List Pr → List Pr
  | []=>[a]
  | b :: l=>if Op.bytesLess a.Key b.Key = true then b :: zOf a l else a :: b :: l
def srt (l : List Pr) : List Pr:=(l.foldl (fun acc a=>zOf a acc) []).reverse
theorem zQk (x : Pr) : ∀ p : List Pr,(zOf x p).length = p.length + 1
  | []=>rfl
  | b :: p=>by unfold zOf;split<;>simp [zQk x p]
theorem zM3 (l : List Pr) : (srt l).length = l.length:=by
  have : ∀ (l p : List Pr),(l.foldl (fun acc a=>zOf a acc) p).length = p.length + l.length:=by
    intro l
    induction l with
    | nil=>intro p;rfl
    | cons x l ih=>intro p;rw [List.foldl_cons,ih,zQk,List.length_cons];omega
  unfold srt;rw [List.length_reverse,this];simp
theorem zVp (x0 : List Pr) (y : Int) (a : Pr) (ha : idx x0 y = some a) (j : Int → Option (List Pr)) (post : List Pr) : ∀ (pre : List Pr) (n : Nat),pre.length < n → pre.length < 4611686018427387904 →
    zBb x0 (pre.reverse ++ post) y j n (pre.length : Int) = j ((pre.dropWhile fun b=>Op.bytesLess a.Key b.Key).length : Nat)
  | [],n,h,_=>by
    obtain ⟨n,rfl⟩ : ∃ m,n = m + 1:=⟨n - 1,by omega⟩;rw [zBb,zD,if_neg (by simp)];rfl
  | b :: pre,n,h,hb=>by
    obtain ⟨n,rfl⟩ : ∃ m,n = m + 1:=⟨n - 1,by omega⟩;simp only [List.length_cons] at h hb
    have w1 : W64 (((b :: pre).length : Int) - 1) = (pre.length : Int):=by rw [List.length_cons,zDn (by omega) (by omega)];omega
    have e2 : (b :: pre).reverse ++ post = pre.reverse ++ b :: post:=by simp
    rw [zBb,zD,if_pos (by simp only [List.length_cons];omega),w1,e2,zT5 (by simp),zBx,ha,zBx];dsimp only
    by_cases hx : Op.bytesLess a.Key b.Key = true
    · rw [if_pos hx,List.dropWhile_cons,if_pos hx]
      have:=zVp x0 y a ha j (b :: post) pre n (by omega) (by omega);simpa using this
    · rw [if_neg hx,List.dropWhile_cons,if_neg hx]
theorem zR1 (a : Pr) (p : List Pr) : zOf a p = (p.takeWhile fun b=>Op.bytesLess a.Key b.Key) ++ a :: (p.dropWhile fun b=>Op.bytesLess a.Key b.Key):=by
  induction p with
  | nil=>rfl
  | cons b p ih=>unfold zOf;split<;>simp_all
theorem zIp (l : List Pr) (h : l.length ≤ 1048576) : zBu l = some (srt l):=by
  unfold zBu;rw [zD,zGt _ _ _ (by omega)];rw [zNc (fun p s=>s.length = p.length) (fun _ q s=>some (q.foldl (fun acc a=>zOf a acc) s.reverse).reverse) rfl (fun s _=>by simp)]
  · rfl
  · intro p x q s k hp hs hk
    subst hp;have hx : idx (p ++ x :: q) (p.length : Int) = some x:=zLl p x q;have hr:=zVp (p ++ x :: q) (p.length : Int) x hx;obtain ⟨pre,rfl⟩ : ∃ pre,s = pre.reverse:=⟨s.reverse,by simp⟩
    have hr:=fun j=>hr j [] pre fuel (by unfold fuel;simp at hs h;omega) (by simp at hs h;omega)
    simp only [List.append_nil] at hr;rw [zD,List.length_reverse,hr];have hd : pre = (pre.takeWhile fun b=>Op.bytesLess x.Key b.Key) ++ (pre.dropWhile fun b=>Op.bytesLess x.Key b.Key):=(List.takeWhile_append_dropWhile ..).symm;have hsp:=zR1 x pre;generalize (pre.takeWhile fun b=>Op.bytesLess x.Key b.Key) = u at hd hsp;generalize (pre.dropWhile fun b=>Op.bytesLess x.Key b.Key) = v at hd hsp
    have hl : u.length + v.length ≤ 1048576:=by
      have:=congrArg List.length hd;simp at this hs h;omega
    have e1 : pre.reverse = v.reverse ++ u.reverse:=by rw [hd];simp
    have c1 : zJ9 pre.reverse 0 (v.length : Int) = some v.reverse:=by rw [e1];have:=zMh v.reverse u.reverse;simpa using this
    have c2 : zJ9 pre.reverse (v.length : Int) (pre.length : Nat) = some u.reverse:=by rw [e1,show pre.length = (v.reverse ++ u.reverse).length by rw [hd];simp;omega];have:=zQ v.reverse u.reverse;rw [List.length_reverse] at this;exact this
    rw [c1,zBx,zM1 (by simp;omega),zBx,zBx,zM1 (by simp;omega),zBx,c2,zBx,zM1 (by simp;omega),zBx,hk]
    · rw [List.foldl_cons];simp [hsp]
    · have:=congrArg List.length hd;simp at this hs ⊢;omega
end Go.Proofs.YthjhejgjcdajdaaGreatDoor
set_option linter.unusedVariables false
set_option linter.unusedSimpArgs false
namespace Go.Proofs.YthjhejgjcdajdaaGreatDoor
open Go Go.RowKit Go.Wk
theorem zTx (l : List Pr) (x : Pr) (y : Nat) (hx : idx l (y : Int) = some x) (j : Unit → Option Int) : ∀ (b a q : List Pr) (n : Nat),l = a ++ b ++ q → y = (a ++ b).length → b.length < n → l.length < 4611686018427387904 →
    zBe l y j n (a.length : Int) = if b.any (fun b=>decide (b.Key = x.Key)) = true then some 8 else j ()
  | [],a,q,n,hl,hy,h,_=>by
    obtain ⟨n,rfl⟩ : ∃ m,n = m + 1:=⟨n - 1,by omega⟩;rw [zBe,if_neg (by simp at hy;omega)];rfl
  | z :: b,a,q,n,hl,hy,h,hb=>by
    obtain ⟨n,rfl⟩ : ∃ m,n = m + 1:=⟨n - 1,by omega⟩;simp only [List.length_cons] at h
    have hz : idx l (a.length : Int) = some z:=by rw [hl,List.append_assoc];exact zLl _ _ _
    have ih:=zTx l x y hx j b (a ++ [z]) q n (by rw [hl];simp) (by rw [hy];simp) (by omega) hb;rw [zBe,if_pos (by rw [hy];simp;omega),hz,zBx,hx,zBx,zG7 (by simp [hl] at hb;omega)];rw [List.length_append,List.length_singleton] at ih;rw [ih,List.any_cons]
    by_cases hk : z.Key = x.Key<;>simp [hk]
theorem zNf (name : Txt) (l : List Pr) : zCr name l = some (zIo name l):=by
  unfold zCr zIo;rw [zL0,zBx]
  by_cases hn : zGf name = true
  · rw [hn,if_neg (by simp),if_pos rfl]
    by_cases hl : l.length > 4
    · rw [if_pos (by omega),if_pos hl]
    rw [if_neg (by omega),if_neg hl,zD,zH7 _ _ (by omega)];refine zJb (fun p q _=>some (chk p q)) (fun _=>rfl) ?_;intro p x q _ k hp hk
    have h2:=fun j=>zTx l x p.length (by rw [← hp];exact zLl _ _ _) j p [] (x :: q) fuel (by simpa using hp.symm) (by simp) (by unfold fuel;simp [← hp] at hl;omega) (by omega)
    simp only [List.length_nil,Int.natCast_zero,Int.cast_ofNat_Int] at h2;simp only [zBx,zL0,zNe,zD,h2,hk,chk]
    cases zGf x.Key<;>cases zO2 x.Val<;>simp
    split<;>rfl
  · simp at hn
    rw [hn];rfl
def zPc (l : List Pr) : Bool:=decide (l.length ≤ 20) && l.all fun a=>decide (a.Key.length ≤ 100) && decide (a.Val.length ≤ 100)
theorem zT3 (l : List Pr) : zDr l = some (zPc l):=by
  unfold zDr zPc
  by_cases h : l.length ≤ 20
  · rw [if_neg (by omega),zD,zH6 _ _ (by omega),zJc (fun a=>decide (a.Key.length ≤ 100) && decide (a.Val.length ≤ 100)) (some false)]
    · simp [h];grind
    · intro i x k _
      simp only [zD,zBx]
      grind
  · rw [if_pos (by omega)];simp [h]
def at1 (a : Pr) : Txt:=[59] ++ a.Key ++ [61] ++ a.Val
def zJt (l : List Pr) : Txt:=l.flatMap at1
theorem zOb (a : Pr) (l : List Pr) : zJt (a :: l) = at1 a ++ zJt l:=by simp [zJt]
theorem zV4 (a : Pr) : (at1 a).length = a.Key.length + a.Val.length + 2:=by simp [at1];omega
theorem zSw (l : List Pr) (h : l.length ≤ 4) (hs : ∀ a ∈ l,a.Key.length ≤ 32 ∧ a.Val.length ≤ 32) (s : Txt) (hs0 : s.length ≤ 1000) (j : Txt → Option (Txt × Int)) (hj : ∀ s,j s = some (s,0)) :
    zAv l j fuel s 0 = some (s ++ zJt l,0):=by
  rw [zHf _ _ _ (by omega)];refine zNc (fun p t=>t.length ≤ 1000 + 66 * p.length) (fun _ q t=>some (t ++ zJt q,0)) (by simp;omega) (fun s _=>by simp [hj,zJt]) ?_;intro p x q t k hp ht hk;have hx:=hs x (by simp [← hp])
  have hpl : p.length ≤ 4:=by rw [← hp] at h;simp at h;omega
  simp only [zBx];rw [zJ3 (by simp;omega),zBx,zJ3 (by simp;omega),zBx,zJ3 (by simp;omega),zBx,zJ3 (by simp;omega),zBx,hk]
  · rw [zOb];simp [at1]
  · simp;omega
theorem zLs {s : Txt} (h : zGf s = true) : s.length ≤ 32:=by unfold zGf at h;simp at h;exact h.1
theorem zQ6 {s : Txt} (h : zO2 s = true) : s.length ≤ 32:=by unfold zO2 at h;simp at h;exact h.1.1
theorem zSd : ∀ (l p : List Pr),chk p l = 0 → ∀ a ∈ l,zGf a.Key = true ∧ zO2 a.Val = true ∧ ∀ b ∈ p,b.Key ≠ a.Key
  | [],p,_,a,ha=>by cases ha
  | x :: l,p,h,a,ha=>by
    rw [chk] at h
    split at h
    · rename_i hx
      split at h
      · cases h
      · rename_i hp
        rcases List.mem_cons.1 ha with rfl|ha
        · simp at hx hp;exact ⟨hx.1,hx.2,hp⟩
        · have:=zSd l (p ++ [x]) h a ha
          exact ⟨this.1,this.2.1,fun b hb=>this.2.2 b (by simp [hb])⟩
    · cases h
theorem zM0 {name : Txt} {l : List Pr} (h : zIo name l = 0) : zGf name = true ∧ l.length ≤ 4 ∧ chk [] l = 0:=by
  unfold zIo at h
  split at h
  · split at h
    · cases h
    · exact ⟨by assumption,by omega,h⟩
  · cases h
theorem zOp (x a : Pr) : ∀ p : List Pr,a ∈ zOf x p ↔ a = x ∨ a ∈ p
  | []=>by simp [zOf]
  | b :: p=>by unfold zOf;split<;>simp [zOp x a p];grind
theorem zRh (a : Pr) (l : List Pr) : a ∈ srt l ↔ a ∈ l:=by
  have : ∀ (l p : List Pr),a ∈ (l.foldl (fun acc a=>zOf a acc) p) ↔ a ∈ p ∨ a ∈ l:=by
    intro l
    induction l with
    | nil=>intro p;simp
    | cons x l ih=>intro p;rw [List.foldl_cons,ih,zOp];simp;grind
  unfold srt;rw [List.mem_reverse,this];simp
def text (name : Txt) (l : List Pr) : Txt × Int:=if zIo name l = 0 then (name ++ zJt (srt l),0) else ([],zIo name l)
theorem zQw (name : Txt) (l : List Pr) : zCw name l = some (text name l):=by
  unfold zCw text;rw [zNf,zBx]
  by_cases h : zIo name l = 0
  · rw [if_neg (by omega),if_pos h]
    obtain ⟨h1,h2,h3⟩:=zM0 h;have h4:=zLs h1;rw [zIp l (by omega),zBx,zD]
    refine zSw _ (by rw [zM3];exact h2) (fun a ha=>?_) name (by omega) _ fun _=>rfl
    have:=zSd l [] h3 a ((zRh a l).1 ha);exact ⟨zLs this.1,zQ6 this.2.1⟩
  · rw [if_pos h,if_neg h]
theorem zPn (a b : List Pr) (h : a.length < 4611686018427387904) : zCb a b = some (decide (a = b)):=by
  unfold zCb
  by_cases hl : a.length = b.length
  · rw [if_neg (by omega),zD,zHg _ _ _ h]
    rw [zJb (fun p q _=>some (decide (q = b.drop p.length))) ?_ ?_]
    · simp
    · intro s;simp [hl]
    · intro p x q _ k hp hk
      rw [hk]
      have : p.length < b.length:=by rw [← hl,← hp];simp
      rw [zGy this,zBx,zBx,List.drop_eq_getElem_cons this,List.length_append,List.length_singleton]
      by_cases hx : x = b[p.length]
      · rw [if_neg (fun h=>h hx)];congr 1;apply decide_eq_decide.2;rw [List.cons.injEq];exact ⟨fun h=>⟨hx,h⟩,fun h=>h.2⟩
      · rw [if_pos hx,decide_eq_false];rw [List.cons.injEq];exact fun h=>hx h.1
  · rw [if_pos (by omega)]
    have : a ≠ b:=fun h=>hl (by rw [h])
    simp [this]
end Go.Proofs.YthjhejgjcdajdaaGreatDoor
set_option linter.unusedVariables false
set_option linter.unusedSimpArgs false
namespace Go.Proofs.YthjhejgjcdajdaaGreatDoor
open Go Go.RowKit Go.Wk
def zD3 (c : UInt8) : Txt → Txt × Txt × Bool
  | []=>([],[],false)
  | x :: s=>if x = c then ([],s,true) else (x :: (zD3 c s).1,(zD3 c s).2)
theorem zLm {c : UInt8} : ∀ {s : Txt},(zD3 c s).2.2 = false → zD3 c s = (s,[],false)
  | [],_=>rfl
  | x :: s,h=>by
    unfold zD3 at h ⊢
    split at h
    · cases h
    · rename_i hx;rw [if_neg hx,zLm h]
theorem zI2 {c : UInt8} : ∀ {s : Txt},(zD3 c s).2.2 = true → s = (zD3 c s).1 ++ c :: (zD3 c s).2.1
  | [],h=>by cases h
  | x :: s,h=>by
    unfold zD3 at h ⊢
    split at h
    · rename_i hx;rw [if_pos hx,hx];rfl
    · rename_i hx;rw [if_neg hx];have:=zI2 h;show x :: s = x :: ((zD3 c s).1 ++ c :: (zD3 c s).2.1);rw [← this]
theorem zK3 {c : UInt8} : ∀ {s : Txt},(zD3 c s).1.length + (zD3 c s).2.1.length ≤ s.length
  | []=>by simp [zD3]
  | x :: s=>by
    unfold zD3
    split
    · simp
    · have:=zK3 (c:=c) (s:=s);simp;omega
theorem zLy (c : UInt8) : ∀ s : Txt,Lib.indexByte s c = if (zD3 c s).2.2 = true then ((zD3 c s).1.length : Int) else -1
  | []=>rfl
  | x :: s=>by
    unfold Lib.indexByte zD3
    by_cases hx : x = c
    · simp [hx]
    · rw [zLy c s]
      simp only [hx,beq_iff_eq,if_false]
      split
      · rw [if_neg (by omega),List.length_cons];simp
      · simp
theorem zLp (s : Txt) (c : UInt8) (h : s.length < 4611686018427387904) : zF4 s [c] = some (zD3 c s):=by
  have key : zCn s [c] = some (if (zD3 c s).2.2 = true then ((zD3 c s).1.length : Int) else -1):=by
    unfold zCn
    by_cases hs : [c] = s
    · rw [if_pos (.inr hs),← hs];simp [zD3]
    · rw [if_neg (by simp [hs]),if_pos (show (([c] : Txt).length : Int) = 1 from rfl),idx0,zBx,zCu,zBx,zLy]
  unfold zF4 zEf;rw [key,zBx]
  by_cases hf : (zD3 c s).2.2 = true
  · have h1:=zI2 hf
    have hl:=congrArg List.length h1;simp at hl
    have c1 : zJ9 s 0 ((zD3 c s).1.length : Int) = some (zD3 c s).1:=by
      conv=>lhs;arg 1;rw [h1]
      exact zMh _ _
    have c2 : zJ9 s (((zD3 c s).1.length : Int) + 1) (s.length : Nat) = some (zD3 c s).2.1:=by
      have:=zQ ((zD3 c s).1 ++ [c]) (zD3 c s).2.1;rw [List.append_assoc,List.singleton_append,← h1] at this;simpa using this
    rw [if_pos hf,if_pos (by omega),c1,zBx];show ((zJ9 s (W64 (((zD3 c s).1.length : Int) + 1)) (s.length : Nat)).bind _).bind _ = _;rw [zDn (by omega) (by omega),c2,zBx,zBx];simp [← hf]
  · have h1:=zLm (by simpa using hf : (zD3 c s).2.2 = false)
    rw [if_neg hf,if_neg (by omega),zBx,h1]
def zMk (s : Txt) : Option Pr:=if ((zD3 61 s).2.2 && zGf (zD3 61 s).1 && zO2 (zD3 61 s).2.1) = true then some ⟨(zD3 61 s).1,(zD3 61 s).2.1⟩ else none
theorem zUb (s : Txt) (h : s.length < 4611686018427387904) : zIw s = some (match zMk s with | some a=>(a,0) | none=>(⟨[],[]⟩,3)):=by
  unfold zIw zMk;rw [zLp s _ h,zBx];simp only [zD,zLx,zOe,zBx]
  cases (zD3 61 s).2.2<;>cases zGf (zD3 61 s).1<;>cases zO2 (zD3 61 s).2.1<;>simp
def zR5 (l : List Pr) (key : Txt) : Int:=if l.any (fun b=>decide (b.Key = key)) = true then 8 else match l.getLast? with | some b=>if Op.bytesLess key b.Key = true then 9 else 0 | none=>0
theorem zR4 (l : List Pr) (key : Txt) (h0 : l ≠ []) (h : l.length < 4611686018427387904) : zGl l key = some (zR5 l key):=by
  unfold zGl zR5;rw [zD,zK0 _ _ _ h,zJc (fun b=>!decide (b.Key = key)) (some 8)]
  · obtain ⟨b,hb⟩ : ∃ b,l.getLast? = some b:=⟨_,List.getLast?_eq_some_getLast h0⟩
    have hp:=List.length_pos_iff.2 h0
    have hi : idx l (W64 ((l.length : Int) - 1)) = some b:=by
      rw [zDn (by omega) (by omega),show (l.length : Int) - 1 = ((l.length - 1 : Nat) : Int) by omega,zJ8,← List.getLast?_eq_getElem?];exact hb
    rw [hi,zBx,hb]
    by_cases ha : l.any (fun b=>decide (b.Key = key)) = true
    · rw [if_pos ha,if_neg]
      simp at ha ⊢;exact ha
    · rw [if_neg ha,if_pos]
      · show (if _ then _ else _) = some (if _ then _ else _)
        split<;>rfl
      · simp at ha ⊢;exact ha
  · intro i x k _
    rw [zBx]
    by_cases hx : x.Key = key<;>simp [hx]
def spl : Txt → Txt × List Txt
  | []=>([],[])
  | x :: s=>if x = 59 then ([],(spl s).1 :: (spl s).2) else (x :: (spl s).1,(spl s).2)
def zNh (more : Bool) (rest : Txt) : List Txt:=if more = true then (spl rest).1 :: (spl rest).2 else []
theorem zPm : ∀ s,(zD3 59 s).1 = (spl s).1 ∧ zNh (zD3 59 s).2.2 (zD3 59 s).2.1 = (spl s).2
  | []=>⟨rfl,rfl⟩
  | x :: s=>by
    unfold zD3 spl
    by_cases hx : x = 59
    · rw [if_pos hx,if_pos hx];exact ⟨rfl,rfl⟩
    · rw [if_neg hx,if_neg hx];have:=zPm s;exact ⟨by simp [this.1],this.2⟩
theorem zN2 : ∀ s,s = (spl s).1 ++ (spl s).2.flatMap (fun p=>59 :: p)
  | []=>rfl
  | x :: s=>by
    unfold spl
    by_cases hx : x = 59
    · rw [if_pos hx];show x :: s = [] ++ (59 :: (spl s).1 ++ (spl s).2.flatMap (fun p=>59 :: p));rw [hx,List.nil_append,List.cons_append,← zN2 s]
    · rw [if_neg hx];show x :: s = x :: ((spl s).1 ++ _);rw [← zN2 s]
abbrev Res:=Txt × List Pr × Int × Int
def pgo (name : Txt) : List Pr → Int → List Txt → Res
  | l,_,[]=>(name,l,0,0)
  | l,at_,p :: ps=>
    if l.length = 4 then ([],[],at_,4) else
    match zMk p with
    | none=>([],[],at_,3)
    | some a=>if zR5 l a.Key = 0 then pgo name (l ++ [a]) (at_ + p.length + 1) ps else ([],[],at_,zR5 l a.Key)
def zL5 (s : Txt) : Res:=if zGf (spl s).1 = true then pgo (spl s).1 [] ((spl s).1.length + 1) (spl s).2 else ([],[],0,3)
theorem zVt (name : Txt) (j : List Pr → Option Res) (hj : ∀ l,j l = some (name,l,0,0)) : ∀ (n : Nat) (l : List Pr) (at_ : Int) (rest : Txt) (more : Bool),(if more = true then 1 + rest.length else 0) < n → l.length ≤ 4 → 0 ≤ at_ → at_ + rest.length ≤ 1000000 →
    zCf j n l at_ rest more = some (pgo name l at_ (zNh more rest)):=by
  intro n
  induction n with
  | zero=>intro l at_ rest more h;omega
  | succ n ih=>
    intro l at_ rest more h hl h0 h1;rw [zCf]
    cases more with
    | false=>rw [if_neg (by simp),hj];rfl
    | true=>
      rw [if_pos rfl] at h ⊢;obtain ⟨e1,e2⟩:=zPm rest;have hcl:=zK3 (c:=59) (s:=rest)
      have hpo : zNh true rest = (zD3 59 rest).1 :: zNh (zD3 59 rest).2.2 (zD3 59 rest).2.1:=by rw [e1,e2];rfl
      rw [zLp rest _ (by omega),zBx,zUb _ (by omega),zBx,hpo,pgo];simp only [zD]
      have hmore : (if (zD3 59 rest).2.2 = true then 1 + (zD3 59 rest).2.1.length else 0) < n ∧ ((zD3 59 rest).2.2 = true → (zD3 59 rest).1.length + (zD3 59 rest).2.1.length + 1 = rest.length):=by
        by_cases hm : (zD3 59 rest).2.2 = true
        · have hc:=congrArg List.length (zI2 hm)
          simp at hc;rw [if_pos hm];omega
        · rw [if_neg hm];exact ⟨by omega,fun h=>absurd h hm⟩
      generalize (zD3 59 rest).1 = pt at *;generalize (zD3 59 rest).2.1 = rst at *;generalize (zD3 59 rest).2.2 = mr at *
      by_cases h4 : l.length = 4
      · rw [if_pos (by omega),if_pos h4,if_neg (by simp),if_pos (by simp)]
      · rw [if_neg (by omega),if_neg h4]
        cases hp : zMk pt with
        | none=>simp
        | some a=>
          have hnext : zCf j n (l ++ [a]) (W64 (at_ + W64 ((pt.length : Int) + 1))) rst mr = some (pgo name (l ++ [a]) (at_ + pt.length + 1) (zNh mr rst)):=by
            rw [zDn (z:=(pt.length : Int) + 1) (by omega) (by omega),zDn (by omega) (by omega),← Int.add_assoc]
            cases mr with
            | false=>
              obtain ⟨m,rfl⟩ : ∃ m,n = m + 1:=⟨n - 1,by omega⟩;rw [zCf,if_neg (by simp),hj];rfl
            | true=>exact ih _ _ _ _ hmore.1 (by simp;omega) (by omega) (by have:=hmore.2 rfl;omega)
          have hap : zKx l [(⟨a.Key,a.Val⟩ : Pr)] = some (l ++ [a]):=zM1 (by simp;omega);dsimp only
          by_cases hl0 : l = []
          · subst hl0
            rw [if_neg (by simp),if_neg (by simp),hap,zBx,hnext,if_pos (show zR5 [] a.Key = 0 from rfl)]
          · have:=List.length_pos_iff.2 hl0
            rw [if_pos ⟨rfl,by omega⟩,zR4 l a.Key hl0 (by omega),zBx]
            by_cases hf : zR5 l a.Key = 0
            · rw [if_neg (by omega),hap,zBx,hnext,if_pos hf]
            · rw [if_pos hf,if_neg hf]
theorem zU7 (s : Txt) : (spl s).1.length ≤ s.length:=by have:=congrArg List.length (zN2 s);simp at this;omega
theorem zT (s : Txt) (h : s.length ≤ 100000) : zI0 s = some (zL5 s):=by
  unfold zI0 zL5;obtain ⟨e1,e2⟩:=zPm s;have hcl:=zK3 (c:=59) (s:=s);rw [zLp s _ (by omega),zBx,zLx,zBx,e1];have hsl:=zU7 s
  by_cases hn : zGf (spl s).1 = true
  · rw [hn,if_neg (by simp),if_pos rfl,zD,← e2]
    rw [zDn (by omega) (by omega)];exact zVt _ _ (fun l=>rfl) _ _ _ _ _ (by unfold fuel;split<;>omega) (by simp) (by omega) (by rw [← e1];omega)
  · simp at hn
    rw [hn];rfl
end Go.Proofs.YthjhejgjcdajdaaGreatDoor
set_option linter.unusedVariables false
set_option linter.unusedSimpArgs false
namespace Go.Proofs.YthjhejgjcdajdaaGreatDoor
open Go Go.RowKit Go.Wk
theorem zPf (c : UInt8) (j : Int → Option Int) : ∀ (p a r : Txt) (n : Nat),(∀ x ∈ p,x ≠ c) → (r = [] ∨ ∃ t,r = c :: t) → p.length < n → (a ++ p ++ r).length < 4611686018427387904 →
    zBn (a ++ p ++ r) c j n (a.length : Int) = j ((a.length + p.length : Nat) : Int)
  | [],a,r,n,hp,hr,h,hb=>by
    obtain ⟨n,rfl⟩ : ∃ m,n = m + 1:=⟨n - 1,by omega⟩;rw [zBn,zD]
    rcases hr with rfl|⟨t,rfl⟩
    · rw [if_neg (by simp)];simp
    · rw [if_pos (by simp;omega),List.append_nil,zLl,zBx];simp
  | x :: p,a,r,n,hp,hr,h,hb=>by
    obtain ⟨n,rfl⟩ : ∃ m,n = m + 1:=⟨n - 1,by omega⟩;have ih:=zPf c j p (a ++ [x]) r n (fun y hy=>hp y (by simp [hy])) hr (by simp at h;omega) (by simpa using hb);have hx:=hp x (by simp)
    have e : a ++ x :: p ++ r = a ++ x :: (p ++ r):=by simp
    have hne : (x.toNat : Int) ≠ (c.toNat : Int):=fun h=>hx (UInt8.toNat_inj.1 (by omega))
    rw [zBn,zD,if_pos (by simp;omega)]
    have e2 : a ++ x :: p ++ r = a ++ [x] ++ p ++ r:=by simp
    rw [show idx (a ++ x :: p ++ r) (a.length : Int) = some x by rw [e];exact zLl _ _ _,zBx];dsimp only;rw [if_pos (by simp [hne]),zG7 (by simp at hb;omega),e2];rw [List.length_append,List.length_singleton] at ih;rw [ih,List.length_cons];congr 2;omega
theorem zOr (c : UInt8) (p a r : Txt) (hp : ∀ x ∈ p,x ≠ c) (hr : r = [] ∨ ∃ t,r = c :: t) (hb : (a ++ p ++ r).length < 4611686018427387904) :
    zBo (a ++ p ++ r) (a.length : Int) c = some ((a.length + p.length : Nat) : Int):=by
  unfold zBo;rw [zD,zPf c _ p a r _ hp hr (by unfold fuel;simp at hb;omega) hb]
theorem zM {c : UInt8} : ∀ {s : Txt},∀ x ∈ (zD3 c s).1,x ≠ c
  | [],x,hx=>by cases hx
  | y :: s,x,hx=>by
    unfold zD3 at hx
    split at hx
    · cases hx
    · rename_i hy
      rcases List.mem_cons.1 hx with rfl|hx
      · exact hy
      · exact zM x hx
theorem zQa : ∀ (s : Txt),(∀ x ∈ (spl s).1,x ≠ 59) ∧ ∀ p ∈ (spl s).2,∀ x ∈ p,x ≠ 59
  | []=>⟨fun x hx=>(by cases hx),fun x hx=>(by cases hx)⟩
  | y :: s=>by
    unfold spl;have ih:=zQa s
    split
    · refine ⟨fun x hx=>(by cases hx),fun p hp=>?_⟩
      rcases List.mem_cons.1 hp with rfl|hp
      · exact ih.1
      · exact ih.2 p hp
    · rename_i hy
      refine ⟨fun x hx=>?_,ih.2⟩
      rcases List.mem_cons.1 hx with rfl|hx
      · exact hy
      · exact ih.1 x hx
def got (r : Res) : zAi:=⟨r.1,r.2.1,r.2.2.1,r.2.2.2⟩
theorem zS8 (s : Txt) (h : s.length < 4611686018427387904) : zBo s 0 61 = some (((zD3 61 s).1.length : Nat) : Int):=by
  by_cases hf : (zD3 61 s).2.2 = true
  · have h1:=zI2 hf
    have:=zOr 61 (zD3 61 s).1 [] (61 :: (zD3 61 s).2.1) zM (.inr ⟨_,rfl⟩) (by rw [List.nil_append,← h1];exact h);rw [List.nil_append,← h1] at this;simpa using this
  · have h1:=zLm (by simpa using hf : (zD3 61 s).2.2 = false)
    have hfr:=zM (c:=61) (s:=s);rw [h1] at hfr ⊢;have:=zOr 61 s [] [] hfr (.inl rfl) (by simpa using h);simpa using this
theorem zUa (l : List Pr) (key : Txt) (a : Int) (nm : Txt) (at_ e : Int) (j : Unit → Option zAi) (h : l.length < 4611686018427387904) :
    zAs a ⟨nm,l,at_,e⟩ key j fuel 0 = if l.any (fun b=>decide (b.Key = key)) = true then some ⟨[],[],W64 (a + 1),8⟩ else j ():=by
  rw [zH5 _ _ _ _ h,zJc (fun b=>!decide (b.Key = key)) (some ⟨[],[],W64 (a + 1),8⟩)]
  · by_cases ha : l.any (fun b=>decide (b.Key = key)) = true
    · rw [if_pos ha,if_neg]
      simp at ha ⊢;exact ha
    · rw [if_neg ha,if_pos]
      simp at ha ⊢;exact ha
  · intro i x k _
    rw [zBx]
    by_cases hx : x.Key = key<;>simp [hx]
theorem zP3 (s name : Txt) (j : zAi → Option zAi) (hj : ∀ l,j ⟨name,l,0,0⟩ = some ⟨name,l,0,0⟩) (hs : s.length ≤ 1000000) : ∀ (ps : List Txt) (pre : Txt) (n : Nat) (l : List Pr),s = pre ++ ps.flatMap (fun p=>59 :: p) → (∀ p ∈ ps,∀ x ∈ p,x ≠ 59) → ps.length < n → l.length ≤ 4 →
    zBj s j n (pre.length : Int) ⟨name,l,0,0⟩ = some (got (pgo name l ((pre.length : Int) + 1) ps))
  | [],pre,n,l,he,hp,h,hl=>by
    obtain ⟨n,rfl⟩ : ∃ m,n = m + 1:=⟨n - 1,by omega⟩;rw [zBj,if_neg (by rw [he];simp),hj];rfl
  | p :: ps,pre,n,l,he,hp,h,hl=>by
    obtain ⟨n,rfl⟩ : ∃ m,n = m + 1:=⟨n - 1,by omega⟩;have hlen:=congrArg List.length he;simp only [List.flatMap_cons,List.length_append,List.length_cons] at hlen
    have e1 : s = (pre ++ [59]) ++ p ++ ps.flatMap (fun p=>59 :: p):=by rw [he];simp
    have hfind : zBo s ((pre.length : Int) + 1) 59 = some (((pre ++ [59] ++ p).length : Nat) : Int):=by
      have:=zOr 59 p (pre ++ [59]) (ps.flatMap fun p=>59 :: p) (hp p (by simp)) (by cases ps with | nil=>exact .inl rfl | cons q ps=>exact .inr ⟨_,rfl⟩) (by rw [← e1];omega);rw [← e1] at this;rw [show ((pre.length : Int) + 1) = ((pre ++ [59] : Txt).length : Nat) by simp,this];simp;omega
    have hcut : zJ9 s ((pre.length : Int) + 1) ((pre ++ [59] ++ p).length : Nat) = some p:=by
      rw [zT9 (by omega) (by simp;omega) (by simp;omega)]
      congr 1
      rw [Int.toNat_natCast,e1,List.take_left]
      have : ((pre.length : Int) + 1).toNat = (pre ++ [59]).length:=by simp
      rw [this,List.drop_left]
    have ih:=fun l' (hl' : l'.length ≤ 4)=>zP3 s name j hj hs ps (pre ++ [59] ++ p) n l' e1 (fun q hq=>hp q (by simp [hq])) (by simp at h;omega) hl'
    have hcl:=zK3 (c:=61) (s:=p);rw [zBj,if_pos (by omega),zDn (by omega) (by omega),hfind,zBx,hcut,zBx,pgo];dsimp only
    by_cases h4 : l.length = 4
    · rw [if_pos (by omega),if_pos h4];rfl
    · rw [if_neg (by omega),if_neg h4,zS8 p (by omega),zBx]
      simp only [zD];unfold zMk
      by_cases hf : (zD3 61 p).2.2 = true
      · have h1:=zI2 hf
        have hpl:=congrArg List.length h1;simp only [List.length_append,List.length_cons] at hpl
        have c1 : zJ9 p 0 ((zD3 61 p).1.length : Int) = some (zD3 61 p).1:=by
          conv=>lhs;arg 1;rw [h1]
          exact zMh _ _
        have c2 : zJ9 p (((zD3 61 p).1.length : Int) + 1) (p.length : Nat) = some (zD3 61 p).2.1:=by
          have:=zQ ((zD3 61 p).1 ++ [61]) (zD3 61 p).2.1;rw [List.append_assoc,List.singleton_append,← h1] at this;simpa using this
        rw [zDn (z:=((zD3 61 p).1.length : Int) + 1) (by omega) (by omega),if_neg (by omega),c1,zBx,c2,zL0,zBx];simp only [zBx,zNe,hf];generalize (zD3 61 p).1 = kk at *;generalize (zD3 61 p).2.1 = vv at *
        cases hn : zGf kk with
        | false=>simp [got]
        | true=>
          cases hv : zO2 vv with
          | false=>simp [got]
          | true=>
            simp only [Bool.not_true,Bool.false_eq_true,if_false,Bool.and_self,if_true,zBx];rw [zUa l kk _ _ _ _ _ (by omega),zDn (by omega) (by omega)];have hap : zKx l [(⟨kk,vv⟩ : Pr)] = some (l ++ [⟨kk,vv⟩]):=zM1 (by simp;omega);have ih:=ih (l ++ [⟨kk,vv⟩]) (by simp;omega)
            have hat : ((pre ++ [59] ++ p).length : Int) + 1 = (pre.length : Int) + 1 + p.length + 1:=by simp;omega
            rw [hat] at ih
            by_cases ha : l.any (fun b=>decide (b.Key = kk)) = true
            · have hfo : zR5 l kk = 8:=by unfold zR5;rw [if_pos ha]
              rw [if_pos ha,hfo];rfl
            · rw [if_neg ha]
              by_cases hl0 : l = []
              · subst hl0
                have hfo : zR5 [] kk = 0:=rfl;rw [hfo,if_pos (show (0 : Int) = 0 from rfl),if_neg (by simp),hap,zBx,ih]
              · obtain ⟨b,hb⟩ : ∃ b,l.getLast? = some b:=⟨_,List.getLast?_eq_some_getLast hl0⟩
                have hp0:=List.length_pos_iff.2 hl0
                have hi : idx l (W64 ((l.length : Int) - 1)) = some b:=by
                  rw [zDn (by omega) (by omega),show (l.length : Int) - 1 = ((l.length - 1 : Nat) : Int) by omega,zJ8,← List.getLast?_eq_getElem?];exact hb
                have hfo : zR5 l kk = if Op.bytesLess kk b.Key = true then 9 else 0:=by unfold zR5;rw [if_neg ha,hb]
                rw [if_pos (by omega),hi,zBx]
                by_cases hlt : Op.bytesLess kk b.Key = true
                · rw [if_pos hlt] at hfo;rw [if_pos hlt,hfo];rfl
                · rw [if_neg hlt] at hfo;rw [if_neg hlt,hfo,hap,zBx,ih];rfl
      · have h1:=zLm (by simpa using hf : (zD3 61 p).2.2 = false)
        rw [h1];simp [got]
theorem zPo (s : Txt) (h : s.length ≤ 100000) : zDq s = some (got (zL5 s)):=by
  unfold zDq zL5;have hj:=zN2 s;have hf:=zQa s;have hlen:=congrArg List.length hj;simp only [List.length_append] at hlen
  have hfind : zBo s 0 59 = some (((spl s).1.length : Nat) : Int):=by
    have:=zOr 59 (spl s).1 [] ((spl s).2.flatMap fun p=>59 :: p) hf.1 (by cases (spl s).2 with | nil=>exact .inl rfl | cons q ps=>exact .inr ⟨_,rfl⟩) (by rw [List.nil_append,← hj];omega);rw [List.nil_append,← hj] at this;simpa using this
  have hcut : zJ9 s 0 ((spl s).1.length : Int) = some (spl s).1:=by
    conv=>lhs;arg 1;rw [hj]
    exact zMh _ _
  rw [hfind,zBx,hcut,zBx,zL0,zBx]
  by_cases hn : zGf (spl s).1 = true
  · rw [hn,if_neg (by simp),if_pos rfl,zD]
    refine zP3 s (spl s).1 _ (fun l=>rfl) (by omega) (spl s).2 (spl s).1 fuel [] hj hf.2 ?_ (by simp)
    have : ∀ ps : List Txt,ps.length ≤ (ps.flatMap fun p=>59 :: p).length:=by
      intro ps
      induction ps with
      | nil=>simp
      | cons p ps ih=>simp at ih ⊢;omega
    have:=this (spl s).2;unfold fuel;omega
  · simp at hn
    rw [hn];rfl
end Go.Proofs.YthjhejgjcdajdaaGreatDoor
set_option linter.unusedVariables false
set_option linter.unusedSimpArgs false
namespace Go.Proofs.YthjhejgjcdajdaaGreatDoor
open Go Go.RowKit Go.Wk
theorem zRq (name : Txt) : ∀ (ps : List Txt) (l : List Pr) (at_ : Int),l.length ≤ 4 → (pgo name l at_ ps).2.1.length ≤ 4
  | [],l,at_,h=>h
  | p :: ps,l,at_,h=>by
    rw [pgo]
    split
    · simp
    · cases hp : zMk p with
      | none=>simp
      | some a=>
        dsimp only
        split
        · exact zRq name ps _ _ (by simp;omega)
        · simp
theorem zRs (s : Txt) : (zL5 s).2.1.length ≤ 4:=by
  unfold zL5
  split
  · exact zRq _ _ _ _ (by simp)
  · simp
end Go.Proofs.YthjhejgjcdajdaaGreatDoor
set_option linter.unusedVariables false
set_option linter.unusedSimpArgs false
namespace Go.Proofs.YthjhejgjcdajdaaGreatDoor
open Go Go.RowKit Go.Wk
theorem zT2 {x y : Txt} (h : Op.bytesLess x y = true) : Op.bytesLess y x = false:=by
  rw [bytesLess_eq] at h ⊢;simp at h ⊢;exact List.le_of_lt h
theorem le_trans {x y z : Txt} (h : Op.bytesLess y x = false) (h' : Op.bytesLess z y = false) : Op.bytesLess z x = false:=by
  rw [bytesLess_eq] at h h' ⊢;simp at h h' ⊢;exact List.le_trans h h'
def ge (a b : Pr) : Prop:=Op.bytesLess a.Key b.Key = false
theorem zPd (x : Pr) : ∀ p : List Pr,(zOf x p).Perm (x :: p)
  | []=>.refl _
  | b :: p=>by
    unfold zOf;split
    · exact ((zPd x p).cons b).trans (.swap x b p)
    · exact .refl _
theorem zS6 (x : Pr) : ∀ p : List Pr,p.Pairwise ge → (zOf x p).Pairwise ge
  | [],_=>by simp [zOf]
  | b :: p,h=>by
    obtain ⟨h1,h2⟩:=List.pairwise_cons.1 h;unfold zOf;split
    · rename_i hx
      refine List.pairwise_cons.2 ⟨fun a ha=>?_,zS6 x p h2⟩
      rcases (zOp x a p).1 ha with rfl|ha
      · exact zT2 hx
      · exact h1 a ha
    · rename_i hx
      simp only [Bool.not_eq_true] at hx;refine List.pairwise_cons.2 ⟨fun a ha=>?_,h⟩
      rcases List.mem_cons.1 ha with rfl|ha
      · exact hx
      · exact le_trans (h1 a ha) hx
theorem zPv : ∀ (l p : List Pr),p.Pairwise ge → (l.foldl (fun acc a=>zOf a acc) p).Pairwise ge ∧ (l.foldl (fun acc a=>zOf a acc) p).Perm (l.reverse ++ p)
  | [],p,h=>⟨h,.refl _⟩
  | x :: l,p,h=>by
    obtain ⟨h1,h2⟩:=zPv l (zOf x p) (zS6 x p h);refine ⟨h1,h2.trans ?_⟩;rw [List.reverse_cons,List.append_assoc];exact (zPd x p).append_left _
theorem zSq (l : List Pr) : (srt l).Perm l:=by
  have:=(zPv l [] .nil).2;rw [List.append_nil] at this;exact (List.reverse_perm _).trans (this.trans (List.reverse_perm l))
def le (a b : Pr) : Prop:=Op.bytesLess b.Key a.Key = false
theorem zVm (l : List Pr) : (srt l).Pairwise le:=by
  have:=(zPv l [] .nil).1;unfold srt;rw [List.pairwise_reverse];exact this
theorem zNz : ∀ (l p : List Pr),chk p l = 0 ↔ (∀ a ∈ l,zGf a.Key = true ∧ zO2 a.Val = true) ∧ (∀ a ∈ l,∀ b ∈ p,b.Key ≠ a.Key) ∧ l.Pairwise (fun a b=>a.Key ≠ b.Key)
  | [],p=>by simp [chk]
  | x :: l,p=>by
    rw [chk]
    by_cases hx : (zGf x.Key && zO2 x.Val) = true
    · rw [if_pos hx]
      by_cases hp : p.any (fun b=>decide (b.Key = x.Key)) = true
      · rw [if_pos hp]
        simp at hp;obtain ⟨b,hb,hk⟩:=hp
        constructor
        · intro h;cases h
        · intro h;exact absurd hk (h.2.1 x (by simp) b hb)
      · rw [if_neg hp,zNz l (p ++ [x])]
        simp at hx hp ⊢
        grind
    · rw [if_neg hx]
      simp at hx ⊢
      grind
theorem zQ2 {l : List Pr} (h : chk [] l = 0) : chk [] (srt l) = 0:=by
  rw [zNz] at h ⊢;refine ⟨fun a ha=>h.1 a ((zRh a l).1 ha),fun _ _ _ hb=>(by cases hb),?_⟩;exact ((zSq l).pairwise_iff (fun {x y} h=>h.symm)).2 h.2.2
theorem zOk : ∀ (p : Txt) (ps : List Txt),(∀ x ∈ p,x ≠ 59) → (∀ p ∈ ps,∀ x ∈ p,x ≠ 59) → spl (p ++ ps.flatMap (fun p=>59 :: p)) = (p,ps)
  | x :: p,ps,h,hs=>by
    rw [List.cons_append,spl,if_neg (h x (by simp)),zOk p ps (fun y hy=>h y (by simp [hy])) hs]
  | [],[],_,_=>rfl
  | [],q :: ps,_,hs=>by
    rw [List.nil_append,List.flatMap_cons,List.cons_append,spl,if_pos rfl,zOk q ps (hs q (by simp)) (fun p hp=>hs p (by simp [hp]))]
termination_by p ps=>(ps.length,p.length)
def body (a : Pr) : Txt:=a.Key ++ 61 :: a.Val
theorem zQp (l : List Pr) : zJt l = (l.map body).flatMap (fun p=>59 :: p):=by
  unfold zJt
  induction l with
  | nil=>rfl
  | cons a l ih=>rw [List.flatMap_cons,ih,List.map_cons,List.flatMap_cons];simp [at1,body]
theorem zQh {c : UInt8} (h : nmC c = true) : c ≠ 59 ∧ c ≠ 61:=by
  constructor
  · intro e;subst e;revert h;decide
  · intro e;subst e;revert h;decide
theorem zM7 {s : Txt} (h : zGf s = true) : ∀ x ∈ s,x ≠ 59 ∧ x ≠ 61:=by
  intro x hx;unfold zGf at h
  match s,h,hx with
  | c :: t,h,hx=>
    simp at h
    rcases List.mem_cons.1 hx with rfl|hx
    · exact zQh (by simp [nmC,h.2.1])
    · exact zQh (h.2.2 x hx)
theorem zRd {s : Txt} (h : zO2 s = true) : ∀ x ∈ s,x ≠ 59:=by
  intro x hx e;subst e;unfold zO2 at h;simp at h;have:=h.2 _ hx
  revert this;decide
theorem zPi : ∀ (k v : Txt),(∀ x ∈ k,x ≠ 61) → zD3 61 (k ++ 61 :: v) = (k,v,true)
  | [],v,_=>rfl
  | x :: k,v,h=>by rw [List.cons_append,zD3,if_neg (h x (by simp)),zPi k v fun y hy=>h y (by simp [hy])]
theorem zPr {a : Pr} (hn : zGf a.Key = true) (hv : zO2 a.Val = true) : zMk (body a) = some a:=by
  unfold zMk body;rw [zPi _ _ fun x hx=>(zM7 hn x hx).2];simp [hn,hv]
theorem zQf (name : Txt) : ∀ (q p : List Pr) (at_ : Int),(p ++ q).length ≤ 4 → chk [] (p ++ q) = 0 → (p ++ q).Pairwise le → pgo name p at_ (q.map body) = (name,p ++ q,0,0)
  | [],p,at_,_,_,_=>by simp [pgo]
  | a :: q,p,at_,h4,hc,hl=>by
    have hc':=(zNz _ _).1 hc;obtain ⟨hn,hv⟩:=hc'.1 a (by simp);have ih:=zQf name q (p ++ [a]) (at_ + (body a).length + 1) (by simpa using h4) (by simpa using hc) (by simpa using hl)
    have hfo : zR5 p a.Key = 0:=by
      unfold zR5;rw [if_neg]
      · cases hb : p.getLast? with
        | none=>rfl
        | some b=>
          have : le b a:=(List.pairwise_append.1 hl).2.2 b (List.mem_of_getLast? hb) a (by simp);dsimp only;rw [if_neg (by rw [this];simp)]
      · simp
        intro b hb;exact (List.pairwise_append.1 hc'.2.2).2.2 b hb a (by simp)
    rw [List.map_cons,pgo,if_neg (by simp at h4;omega),zPr hn hv];dsimp only;rw [if_pos hfo,ih];simp
theorem zQz {name : Txt} {l : List Pr} (h : zIo name l = 0) : zL5 (name ++ zJt (srt l)) = (name,srt l,0,0):=by
  obtain ⟨h1,h2,h3⟩:=zM0 h;have hcs:=zQ2 h3;have hc:=(zNz _ _).1 hcs
  have hsp : spl (name ++ zJt (srt l)) = (name,(srt l).map body):=by
    rw [zQp]
    refine zOk _ _ (fun x hx=>(zM7 h1 x hx).1) fun p hp x hx=>?_
    obtain ⟨a,ha,rfl⟩:=List.mem_map.1 hp;unfold body at hx
    rcases List.mem_append.1 hx with hx|hx
    · exact (zM7 (hc.1 a ha).1 x hx).1
    · rcases List.mem_cons.1 hx with rfl | hx
      · decide
      · exact zRd (hc.1 a ha).2 x hx
  unfold zL5;rw [hsp];dsimp only;rw [if_pos h1];have:=zQf name (srt l) [] (name.length + 1) (by rw [List.nil_append,zM3];exact h2) (by rw [List.nil_append];exact hcs) (by rw [List.nil_append];exact zVm l);rw [this];simp
end Go.Proofs.YthjhejgjcdajdaaGreatDoor
set_option linter.unusedVariables false
set_option linter.unusedSimpArgs false
namespace Go.Proofs.YthjhejgjcdajdaaGreatDoor
open Go Go.RowKit Go.Wk
theorem zS3 {l : List Pr} (h : zPc l = true) : l.length ≤ 20:=by unfold zPc at h;simp at h;exact h.1
theorem zQ8 {name : Txt} {l : List Pr} (h : zIo name l = 0) : (name ++ zJt (srt l)).length ≤ 32 + 66 * 4:=by
  obtain ⟨h1,h2,h3⟩:=zM0 h;have:=zLs h1
  have ht : ∀ m : List Pr,(∀ a ∈ m,a.Key.length ≤ 32 ∧ a.Val.length ≤ 32) → (zJt m).length ≤ 66 * m.length:=by
    intro m
    induction m with
    | nil=>intro _;simp [zJt]
    | cons a m ih=>intro hm;have:=ih fun b hb=>hm b (by simp [hb]);have:=hm a (by simp);rw [zOb,List.length_append,zV4,List.length_cons];omega
  have hs:=(zNz _ _).1 (zQ2 h3)
  have:=ht (srt l) fun a ha=>⟨zLs (hs.1 a ha).1,zQ6 (hs.1 a ha).2⟩
  rw [zM3] at this;rw [List.length_append];omega
end Go.Proofs.YthjhejgjcdajdaaGreatDoor
set_option maxRecDepth 20000
set_option linter.unusedVariables false
set_option linter.unusedSimpArgs false
namespace Go.Proofs.YthjhejgjcdajdaaGreatDoor
open Go Go.RowKit Go.Wk
def zSk (x : UInt64) : Bool:=decide (x.toNat / 4503599627370496 % 2048 ≠ 2047)
theorem zV7 (x : Nat) : x &&& 9218868437227405312 = (x / 4503599627370496 % 2048) * 4503599627370496:=by
  have e1 : x / 4503599627370496 % 2048 = (x >>> 52) &&& (2 ^ 11 - 1):=by rw [Nat.and_two_pow_sub_one_eq_mod,Nat.shiftRight_eq_div_pow]
  have e2 : ((x >>> 52) &&& (2 ^ 11 - 1)) * 4503599627370496 = ((x >>> 52) &&& (2 ^ 11 - 1)) <<< 52:=by rw [Nat.shiftLeft_eq]
  rw [e1,e2]
  apply Nat.eq_of_testBit_eq
  intro i;rw [Nat.testBit_and,Nat.testBit_shiftLeft,Nat.testBit_and,Nat.testBit_shiftRight,Nat.testBit_two_pow_sub_one,show (9218868437227405312 : Nat) = (2 ^ 11 - 1) <<< 52 by decide,Nat.testBit_shiftLeft,Nat.testBit_two_pow_sub_one]
  by_cases h : i ≥ 52
  · rw [show 52 + (i - 52) = i by omega]
    simp [h]
  · simp [h]
theorem zVz (x : UInt64) : zIv x = some (zSk x):=by
  unfold zIv zSk
  congr 1
  apply decide_eq_decide.2
  rw [UInt64.toNat_and,show (9218868437227405312 : UInt64).toNat = 9218868437227405312 by rfl,zV7]
  omega
theorem zVq (x : UInt64) (k : UInt64) (hk : k ≠ 0) : quo64 x k = some (UInt64.ofNat (x.toNat / k.toNat)):=by
  unfold quo64;rw [if_neg hk]
  congr 1
  apply UInt64.toNat_inj.1
  have:=x.toNat_lt;rw [UInt64.toNat_div,zG1 (Nat.lt_of_le_of_lt (Nat.div_le_self _ _) (by omega))]
theorem zRn (x : UInt64) (k : UInt64) (hk : k ≠ 0) : rem64 x k = some (UInt64.ofNat (x.toNat % k.toNat)):=by
  unfold rem64;rw [if_neg hk]
  congr 1
  apply UInt64.toNat_inj.1
  have:=x.toNat_lt;rw [UInt64.toNat_mod,zG1 (Nat.lt_of_le_of_lt (Nat.mod_le _ _) (by omega))]
theorem zU9 (x : UInt64) : zDj x = some (zSk x):=by
  have hx:=x.toNat_lt;unfold zDj zSk;rw [zVq _ _ (by decide),zBx,zRn _ _ (by decide),zBx,show (4503599627370496 : UInt64).toNat = 4503599627370496 by rfl,show (2048 : UInt64).toNat = 2048 by rfl,zG1 (n:=x.toNat / 4503599627370496) (by omega),zG1 (n:=x.toNat / 4503599627370496 % 2048) (by omega)]
  congr 1
  apply decide_eq_decide.2
  omega
def ltZ (x : UInt64) : Bool:=decide (9223372036854775808 ≤ x.toNat ∧ x.toNat % 9223372036854775808 ≠ 0 ∧ x.toNat % 9223372036854775808 ≤ 9218868437227405312)
theorem zSu (x : UInt64) : zE6 x 0 = some (ltZ x):=by
  have hx:=x.toNat_lt
  have o0 : zCj 0 = some false:=by decide
  have ox : zCj x = some (decide (x.toNat % 9223372036854775808 > 9218868437227405312)):=by
    unfold zCj;simp only [zD];rw [zVq _ _ (by decide),zBx,zRn _ _ (by decide),zBx,zRn _ _ (by decide),zBx,show (4503599627370496 : UInt64).toNat = 4503599627370496 by rfl,show (2048 : UInt64).toNat = 2048 by rfl,zG1 (n:=x.toNat / 4503599627370496) (by omega),zG1 (n:=x.toNat / 4503599627370496 % 2048) (by omega),zG1 (n:=x.toNat % 4503599627370496) (by omega)]
    by_cases h : x.toNat / 4503599627370496 % 2048 = 2047
    · rw [if_pos (by omega)];congr 1;apply decide_eq_decide.2;omega
    · rw [if_neg (by omega)];congr 1;symm;rw [decide_eq_false_iff_not];omega
  unfold zE6 ltZ;simp only [zD];rw [ox,zBx,o0,zBx,zRn _ _ (by decide),zBx,zRn _ _ (by decide),zBx,show (9223372036854775808 : UInt64).toNat = 9223372036854775808 by rfl,zG1 (by omega),show (0 : UInt64).toNat = 0 by rfl]
  by_cases h1 : x.toNat % 9223372036854775808 > 9218868437227405312
  · rw [if_pos (decide_eq_true h1),if_pos (by first | trivial | rfl)];congr 1;symm;rw [decide_eq_false_iff_not];omega
  · rw [if_neg (by rw [decide_eq_false h1];decide),if_neg (by decide)]
    by_cases h2 : x.toNat % 9223372036854775808 = 0
    · rw [if_pos ⟨by omega,by rfl⟩];congr 1;symm;rw [decide_eq_false_iff_not];omega
    · rw [if_neg (fun k=>h2 (by have:=k.1;omega)),if_neg (by omega)]
      by_cases h3 : x.toNat < 9223372036854775808
      · rw [if_pos ⟨by omega,by decide⟩];congr 1;apply decide_eq_decide.2
        rw [show (UInt64.ofNat (0 % 9223372036854775808)).toNat = 0 by rfl];omega
      · rw [if_neg (fun k=>h3 (by have:=k.1;omega))];congr 1;apply decide_eq_decide.2;omega
theorem zUh (x : UInt64) : zL4 x 0 = some (ltZ x):=by
  have hx:=x.toNat_lt;unfold zL4 zN6 zT8 ltZ;rw [zBx,zBx]
  congr 1
  have r0 : Ieee.Format.read Ieee.double (0 : UInt64).toNat = .number false 0 (-1074):=by decide
  show (Ieee.Datum.order (Ieee.Format.read Ieee.double x.toNat) (Ieee.Format.read Ieee.double (0 : UInt64).toNat) == some .lt) = _;rw [r0];generalize x.toNat = v at *;unfold Ieee.Format.read
  have sw : Ieee.double.signWeight = 9223372036854775808:=by decide
  have bn : Ieee.double.binade = 4503599627370496:=by decide
  have ir : Ieee.double.infRung = 9218868437227405312:=by decide
  have lp : Ieee.double.leastPlace = -1074:=by decide
  dsimp only;rw [sw,bn,ir,lp]
  have hs : (v / 9223372036854775808 % 2 == 1) = decide (9223372036854775808 ≤ v):=by
    by_cases h : 9223372036854775808 ≤ v
    · rw [decide_eq_true h];have : v / 9223372036854775808 % 2 = 1:=by omega
      rw [this];rfl
    · rw [decide_eq_false h];have : v / 9223372036854775808 % 2 = 0:=by omega
      rw [this];rfl
  rw [hs];generalize hb : decide (9223372036854775808 ≤ v) = s
  have hb' : s = true ↔ 9223372036854775808 ≤ v:=by rw [← hb];exact decide_eq_true_iff
  have cmp : ∀ (m k : Nat),(Ieee.Datum.order (.number s m (-1074 + (k : Int))) (.number false 0 (-1074)) == some .lt) = decide (s = true ∧ m ≠ 0):=by
    intro m k
    have e1 : min (-1074 + (k : Int)) (-1074) = -1074:=by omega
    show (some (compare (Ieee.signed s m ((-1074 + (k : Int)) - min (-1074 + (k : Int)) (-1074)).toNat) (Ieee.signed false 0 ((-1074 : Int) - min (-1074 + (k : Int)) (-1074)).toNat)) == some .lt) = _;rw [e1,show ((-1074 + (k : Int)) - (-1074)).toNat = k by omega,show ((-1074 : Int) - (-1074)).toNat = 0 by rfl];unfold Ieee.signed;rw [if_neg (show ¬ (false = true) by decide),show ((0 <<< 0 : Nat) : Int) = 0 by rfl,Nat.shiftLeft_eq];have hp:=Nat.two_pow_pos k
    cases s with
    | false=>
      have : ¬ (((m * 2 ^ k : Nat) : Int) < 0):=by omega
      simp only [compare,compareOfLessAndEq];rw [if_neg (show ¬ (if false = true then -((m * 2 ^ k : Nat) : Int) else ((m * 2 ^ k : Nat) : Int)) < 0 from this)]
      (repeat' split)<;>first | rfl | (exfalso;simp_all) | simp
    | true=>
      by_cases hm : m = 0
      · subst hm;simp [compare,compareOfLessAndEq]
      · have h0 : 0 < m * 2 ^ k:=Nat.mul_pos (by omega) hp
        have : (-((m * 2 ^ k : Nat) : Int) < 0):=by omega
        simp only [compare,compareOfLessAndEq];rw [if_pos (show (if True then -((m * 2 ^ k : Nat) : Int) else ((m * 2 ^ k : Nat) : Int)) < 0 by rw [if_pos trivial];exact this)];simp [hm]
  by_cases h1 : v % 9223372036854775808 < 4503599627370496
  · rw [if_pos h1]
    refine (cmp (v % 9223372036854775808) 0).trans ?_
    apply decide_eq_decide.2;rw [hb'];omega
  · rw [if_neg h1]
    by_cases h2 : v % 9223372036854775808 < 9218868437227405312
    · rw [if_pos h2]
      refine (cmp (4503599627370496 + v % 9223372036854775808 % 4503599627370496) _).trans ?_
      apply decide_eq_decide.2;rw [hb'];omega
    · rw [if_neg h2]
      by_cases h3 : v % 9223372036854775808 = 9218868437227405312
      · rw [if_pos h3]
        show (some (if s = true then Ordering.lt else .gt) == some .lt) = _
        have : decide (s = true) = decide (9223372036854775808 ≤ v ∧ v % 9223372036854775808 ≠ 0 ∧ v % 9223372036854775808 ≤ 9218868437227405312):=by apply decide_eq_decide.2;rw [hb'];omega
        rw [← this];cases s<;>rfl
      · rw [if_neg h3]
        show false = _
        symm;rw [decide_eq_false_iff_not];omega
end Go.Proofs.YthjhejgjcdajdaaGreatDoor
set_option linter.unusedVariables false
set_option linter.unusedSimpArgs false
namespace Go.Proofs.YthjhejgjcdajdaaGreatDoor
open Go Go.RowKit Go.Wk
abbrev Pt:=zA6
def zKe (p : Pt) : Bool:=if p.Kind = 3 then decide (p.Temp = 0) else decide (1 ≤ p.Kind ∧ p.Kind ≤ 5) && decide (p.Temp = 1 ∨ p.Temp = 2)
theorem zT4 (p : Pt) : zHy p = some (zKe p):=by
  unfold zHy zKe;rw [zD]
  by_cases h3 : p.Kind = 3
  · rw [if_pos h3,if_pos h3]
  · rw [if_neg h3,if_neg h3]
    by_cases h1 : p.Kind = 1
    · simp [h1]
    · by_cases h2 : p.Kind = 2
      · simp [h2]
      · by_cases h4 : p.Kind = 4
        · simp [h4]
        · by_cases h5 : p.Kind = 5
          · simp [h5]
          · have : ¬ (1 ≤ p.Kind ∧ p.Kind ≤ 5):=by omega
            simp [h1,h2,h4,h5,this]
def zJa (p : Pt) : Bool:=decide (0 ≤ p.Start ∧ p.Time ≤ 4503599627370496 ∧ (if p.Kind = 3 then p.Start = p.Time else p.Start < p.Time))
theorem zSp (p : Pt) : zHx p = some (zJa p):=by
  unfold zHx zJa
  by_cases h : p.Start < 0 ∨ p.Time > 4503599627370496
  · rw [if_pos h];congr 1;symm;rw [decide_eq_false_iff_not];omega
  · rw [if_neg h]
    split<;>(congr 1;apply decide_eq_decide.2;omega)
def zLa (h : zA4) : Bool:=decide (h.Scale = 0 ∧ h.Zero = 0 ∧ h.Pos.Offset = 0 ∧ h.Neg.Offset = 0 ∧ h.Pos.Counts = [] ∧ h.Neg.Counts = [])
theorem zVg (x : UInt64) : ((x.toNat : Nat) : Int) = 0 ↔ x = 0:=by
  constructor
  · intro h;apply UInt64.toNat_inj.1;simp;omega
  · rintro rfl;rfl
theorem zV2 (h : zA4) (h1 : h.Pos.Counts.length ≤ 1000000) (h2 : h.Neg.Counts.length ≤ 1000000) : zIr h = some (zLa h):=by
  unfold zIr zLa;rw [zD,zDn (by omega) (by omega)];simp only [zVg]
  have e : ((h.Pos.Counts.length : Int) + (h.Neg.Counts.length : Int) = 0) ↔ h.Pos.Counts = [] ∧ h.Neg.Counts = []:=by
    rw [← List.length_eq_zero_iff,← List.length_eq_zero_iff];omega
  simp only [e]
  split
  · rename_i hh;congr 1;apply decide_eq_decide.2;simp [hh]
  · rename_i hh;congr 1;symm;rw [decide_eq_false_iff_not];intro hc;exact hh ⟨⟨⟨hc.1,hc.2.1⟩,hc.2.2.1⟩,hc.2.2.2.1⟩
def zR (p : Pt) : Bool:=decide ((p.Kind ≠ 1 → p.Int_ = 0) ∧ (¬ (p.Kind = 2 ∨ p.Kind = 3 ∨ p.Kind = 5) → p.Re = 0) ∧ (p.Kind ≠ 5 → p.Im = 0) ∧ (p.Kind ≠ 4 → zLa p.Hist = true) ∧ 0 ≤ p.Flags ∧ p.Flags ≤ 31)
theorem zVu (p : Pt) (h1 : p.Hist.Pos.Counts.length ≤ 1000000) (h2 : p.Hist.Neg.Counts.length ≤ 1000000) : zJx p = some (zR p):=by
  unfold zJx zR;rw [zD,zV2 _ h1 h2,zD];simp only [zVg,ne_eq]
  by_cases a1 : ¬ p.Kind = 1 ∧ ¬ p.Int_ = 0
  · rw [if_pos a1,decide_eq_true a1,if_pos rfl];congr 1;symm;rw [decide_eq_false_iff_not];intro hc;exact a1.2 (hc.1 a1.1)
  · rw [if_neg a1]
    by_cases a2 : (¬ ((p.Kind = 2 ∨ p.Kind = 3) ∨ p.Kind = 5)) ∧ ¬ p.Re = 0
    · rw [if_pos a2,decide_eq_true a2,if_pos rfl];congr 1;symm;rw [decide_eq_false_iff_not];intro hc;exact a2.2 (hc.2.1 (by intro h;exact a2.1 (by omega)))
    · rw [if_neg a2]
      by_cases a3 : ¬ p.Kind = 5 ∧ ¬ p.Im = 0
      · rw [if_pos a3,decide_eq_true a3,if_pos rfl];congr 1;symm;rw [decide_eq_false_iff_not];intro hc;exact a3.2 (hc.2.2.1 a3.1)
      · rw [if_neg a3]
        have b1 : ¬ p.Kind = 1 → p.Int_ = 0:=fun h=>Classical.byContradiction fun h'=>a1 ⟨h,h'⟩
        have b2 : ¬ (p.Kind = 2 ∨ p.Kind = 3 ∨ p.Kind = 5) → p.Re = 0:=fun h=>Classical.byContradiction fun h'=>a2 ⟨by omega,h'⟩
        have b3 : ¬ p.Kind = 5 → p.Im = 0:=fun h=>Classical.byContradiction fun h'=>a3 ⟨h,h'⟩
        by_cases a4 : p.Kind = 4
        · rw [if_neg (by simpa using a4)]
          simp only [Bool.false_eq_true,if_false]
          by_cases a5 : p.Flags < 0 ∨ p.Flags > 31
          · rw [decide_eq_true a5,if_pos rfl];congr 1;symm;rw [decide_eq_false_iff_not];omega
          · rw [decide_eq_false a5];simp only [Bool.false_eq_true,if_false];congr 1;symm;rw [decide_eq_true_iff];exact ⟨b1,b2,b3,fun h=>(h a4).elim,by omega,by omega⟩
        · rw [if_pos a4,zBx]
          cases hb : zLa p.Hist with
          | false=>simp only [Bool.not_false,if_true];congr 1;symm;rw [decide_eq_false_iff_not];intro hc;have:=hc.2.2.2.1 a4;cases this
          | true=>
            simp only [Bool.not_true,Bool.false_eq_true,if_false]
            by_cases a5 : p.Flags < 0 ∨ p.Flags > 31
            · rw [decide_eq_true a5,if_pos rfl];congr 1;symm;rw [decide_eq_false_iff_not];omega
            · rw [decide_eq_false a5];simp only [Bool.false_eq_true,if_false];congr 1;symm;rw [decide_eq_true_iff];exact ⟨b1,b2,b3,fun _=>by first | rfl | trivial,by omega,by omega⟩
end Go.Proofs.YthjhejgjcdajdaaGreatDoor
set_option maxRecDepth 20000
set_option linter.unusedVariables false
set_option linter.unusedSimpArgs false
namespace Go.Proofs.YthjhejgjcdajdaaGreatDoor
open Go Go.RowKit Go.Wk
def pcE (p : Pt) : Int:=
  if zIo p.Name p.Attrs ≠ 0 then zIo p.Name p.Attrs
  else if zKe p = false then 14
  else if p.Mono = true ∧ p.Kind ≠ 1 ∧ p.Kind ≠ 2 then 1
  else if zJa p = false then 1
  else if zR p = false then 3
  else if (p.Mono = true ∧ p.Kind = 2) ∧ zSk p.Re = false then 11
  else if p.Mono = true ∧ (p.Int_ < 0 ∨ ltZ p.Re = true) then 1
  else if p.Kind = 4 then hcE p.Hist else 0
theorem zPl (p : Pt) (h1 : p.Hist.Pos.Counts.length ≤ 1000000) (h2 : p.Hist.Neg.Counts.length ≤ 1000000) : zEi p = some (pcE p):=by
  unfold zEi pcE zLh;rw [zTl,zBx]
  by_cases c : zIo p.Name p.Attrs ≠ 0
  · rw [if_pos c,if_pos c]
  rw [if_neg c,if_neg c,zT4,zBx]
  cases hk : zKe p with
  | false=>rw [if_pos (by rfl),if_pos rfl]
  | true=>
    rw [if_neg (by decide),if_neg (show ¬ (true = false) by decide)];simp only [zD,zBx,zSp,zVu p h1 h2,zVz,zUh,zSh p.Hist h1 h2]
    have e1 : (p.Mono = true ∧ p.Kind ≠ 1 ∧ p.Kind ≠ 2) ↔ (if p.Mono = true then (!decide ((p.Kind = 1) ∨ (p.Kind = 2))) else false) = true:=by
      cases p.Mono<;>simp
    cases hm : p.Mono with
    | false=>
      simp only [Bool.false_eq_true,if_false,false_and]
      cases zJa p<;>simp
      cases zR p<;>simp
      split<;>rfl
    | true=>
      simp only [if_true,true_and]
      by_cases hs : p.Kind = 1 ∨ p.Kind = 2
      · rw [decide_eq_true hs]
        simp only [Bool.not_true,Bool.false_eq_true,if_false];rw [if_neg (show ¬ (p.Kind ≠ 1 ∧ p.Kind ≠ 2) by omega)]
        cases zJa p<;>simp
        cases zR p<;>simp
        have h4 : ¬ p.Kind = 4:=by omega
        by_cases h2 : p.Kind = 2
        · simp only [h2,if_true,true_and]
          cases zSk p.Re<;>simp
          by_cases hi : p.Int_ < 0
          · simp [hi]
          · simp [hi];split<;>rfl
        · simp only [h2,if_false,false_and]
          by_cases hi : p.Int_ < 0
          · simp [hi]
          · simp [hi,h4];split<;>rfl
      · rw [decide_eq_false hs,if_pos (show p.Kind ≠ 1 ∧ p.Kind ≠ 2 by omega)]
        simp
end Go.Proofs.YthjhejgjcdajdaaGreatDoor
set_option linter.unusedVariables false
set_option linter.unusedSimpArgs false
namespace Go.Proofs.YthjhejgjcdajdaaGreatDoor
open Go Go.RowKit Go.Wk
theorem u64ne (x y : UInt64) : (((x.toNat : Nat) : Int) ≠ ((y.toNat : Nat) : Int)) ↔ x ≠ y:=by
  constructor
  · rintro h rfl;exact h rfl
  · intro h hh;exact h (UInt64.toNat_inj.1 (by omega))
theorem zVh (x y : UInt64) : (((x.toNat : Nat) : Int) = ((y.toNat : Nat) : Int)) ↔ x = y:=by
  constructor
  · intro hh;exact UInt64.toNat_inj.1 (by omega)
  · rintro rfl;rfl
theorem zRk {α : Type} [DecidableEq α] (a b : List α) (hl : a.length = b.length) (B : Nat → α → Unit → (Unit → Option Bool) → Option Bool) (J : Unit → Option Bool) (hJ : J () = some true)
    (hB : ∀ i x k,B i x () k = (idx b (i : Int)).bind fun y=>if x ≠ y then some false else k ()) : zF3 a () B J = some (decide (a = b)):=by
  rw [zJb (fun p q _=>some (decide (q = b.drop p.length))) ?_ ?_]
  · simp
  · intro s;rw [hJ];simp [hl]
  · intro p x q _ k hp hk
    rw [hB,hk]
    have : p.length < b.length:=by rw [← hl,← hp];simp
    rw [zGy this,zBx,List.drop_eq_getElem_cons this,List.length_append,List.length_singleton]
    by_cases hx : x = b[p.length]
    · rw [if_neg (fun h=>h hx)];congr 1;apply decide_eq_decide.2;rw [List.cons.injEq];exact ⟨fun h=>⟨hx,h⟩,fun h=>h.2⟩
    · rw [if_pos hx,decide_eq_false];rw [List.cons.injEq];exact fun h=>hx h.1
theorem zN3 (a b : zAb) : a = b ↔ a.Offset = b.Offset ∧ a.Counts = b.Counts:=by cases a;cases b;simp
theorem zQd (a b : zAb) (h : a.Counts.length ≤ 1000000) : zCa a b = some (decide (a = b)):=by
  unfold zCa
  by_cases hc : a.Offset ≠ b.Offset ∨ (a.Counts.length : Int) ≠ (b.Counts.length : Int)
  · rw [if_pos hc];congr 1;symm;rw [decide_eq_false_iff_not,zN3];rintro ⟨h1,h2⟩;rw [h1,h2] at hc;simp at hc
  · rw [if_neg hc,zD,zGe _ _ _ (by omega)]
    have:=zRk a.Counts b.Counts (by omega) (fun ii xx ss kk=>(some xx).bind fun z21=>(idx b.Counts (ii : Int)).bind fun z24=>if ((z21).toNat : Int) ≠ ((z24).toNat : Int) then (some false) else (kk ())) (fun _=>some true) rfl fun i x k=>by rw [zBx];simp only [u64ne]
    refine this.trans ?_
    congr 1;apply decide_eq_decide.2;rw [zN3];constructor
    · intro h;exact ⟨by omega,h⟩
    · exact fun h=>h.2
theorem zN7 (a b : zA4) : a = b ↔ (a.Scale = b.Scale ∧ a.Zero = b.Zero) ∧ a.Pos = b.Pos ∧ a.Neg = b.Neg:=by cases a;cases b;simp [and_assoc]
theorem zQe (a b : zA4) (h1 : a.Pos.Counts.length ≤ 1000000) (h2 : a.Neg.Counts.length ≤ 1000000) : zCy a b = some (decide (a = b)):=by
  unfold zCy;rw [zQd _ _ h1,zQd _ _ h2];simp only [zVh,zBx,zD]
  by_cases hc : a.Scale = b.Scale ∧ a.Zero = b.Zero
  · rw [if_pos hc]
    by_cases hp : a.Pos = b.Pos
    · rw [decide_eq_true hp,if_pos rfl];congr 1;apply decide_eq_decide.2;rw [zN7];simp [hc,hp]
    · rw [decide_eq_false hp];simp only [Bool.false_eq_true,if_false];congr 1;symm;rw [decide_eq_false_iff_not,zN7];exact fun h=>hp h.2.1
  · rw [if_neg hc];simp only [Bool.false_eq_true,if_false];congr 1;symm;rw [decide_eq_false_iff_not,zN7];exact fun h=>hc h.1
def zRl (a b : Pt) : Prop:=a.Name = b.Name ∧ srt a.Attrs = srt b.Attrs ∧ a.Hist = b.Hist ∧ a.Kind = b.Kind ∧ a.Temp = b.Temp ∧ a.Mono = b.Mono ∧ a.Start = b.Start ∧ a.Time = b.Time ∧ a.Int_ = b.Int_ ∧ a.Re = b.Re ∧ a.Im = b.Im ∧ a.Flags = b.Flags
instance (a b : Pt) : Decidable (zRl a b):=by unfold zRl;infer_instance
structure Few (x : Pt) : Prop where
  a : x.Attrs.length ≤ 20
  p : x.Hist.Pos.Counts.length ≤ 1000000
  n : x.Hist.Neg.Counts.length ≤ 1000000
theorem zSx {a b : Pt} (ha : Few a) (hb : Few b) : zE5 a b = some (decide (zRl a b)):=by
  unfold zE5
  have e : ∀ l : List Pr,l.length ≤ 20 → (srt l).length < 4611686018427387904:=fun l hl=>by rw [zM3];omega
  have ea:=ha.a;have eb:=hb.a;rw [zD,zIp _ (by omega),zIp _ (by omega),zBx,zBx,zPn _ _ (e _ ha.a),zBx,zQe _ _ ha.p ha.n];simp only [zBx,zD,zVh]
  by_cases h1 : a.Name = b.Name
  · rw [if_neg (fun h=>h h1)]
    by_cases h2 : srt a.Attrs = srt b.Attrs
    · rw [decide_eq_true h2]
      simp only [Bool.not_true,Bool.false_eq_true,if_false]
      by_cases h3 : (((a.Kind ≠ b.Kind ∨ a.Temp ≠ b.Temp) ∨ a.Mono ≠ b.Mono) ∨ a.Start ≠ b.Start) ∨ a.Time ≠ b.Time
      · rw [if_pos h3];congr 1;symm;rw [decide_eq_false_iff_not];rintro ⟨_,_,_,q1,q2,q3,q4,q5,_⟩;rcases h3 with (((h | h) | h) | h) | h
        · exact h q1
        · exact h q2
        · exact h q3
        · exact h q4
        · exact h q5
      · rw [if_neg h3]
        simp only [not_or,ne_eq,Decidable.not_not] at h3;obtain ⟨⟨⟨⟨q1,q2⟩,q3⟩,q4⟩,q5⟩:=h3
        by_cases h4 : ((a.Int_ = b.Int_ ∧ a.Re = b.Re) ∧ a.Im = b.Im) ∧ a.Flags = b.Flags
        · rw [if_pos h4]
          obtain ⟨⟨⟨r1,r2⟩,r3⟩,r4⟩:=h4
          congr 1;apply decide_eq_decide.2;simp [zRl,h1,h2,q1,q2,q3,q4,q5,r1,r2,r3,r4]
        · rw [if_neg h4];congr 1;symm;rw [decide_eq_false_iff_not];rintro ⟨_,_,_,_,_,_,_,_,r1,r2,r3,r4⟩;exact h4 ⟨⟨⟨r1,r2⟩,r3⟩,r4⟩
    · rw [decide_eq_false h2];simp only [Bool.not_false,if_true];congr 1;symm;rw [decide_eq_false_iff_not];exact fun h=>h2 h.2.1
  · rw [if_pos h1,if_pos trivial];congr 1;symm;rw [decide_eq_false_iff_not];exact fun h=>h1 h.1
end Go.Proofs.YthjhejgjcdajdaaGreatDoor
set_option maxRecDepth 20000
set_option linter.unusedVariables false
set_option linter.unusedSimpArgs false
namespace Go.Proofs.YthjhejgjcdajdaaGreatDoor
open Go Go.RowKit Go.Wk
theorem zUe (h : zA4) (h1 : h.Pos.Counts.length ≤ 1000000) (h2 : h.Neg.Counts.length ≤ 1000000) : zE4 h = some (zLa h):=by
  unfold zE4 zLa;rw [zQe _ _ h1 h2,zBx]
  congr 1
  apply decide_eq_decide.2
  rw [zN7,zN3,zN3]
  constructor
  · rintro ⟨⟨a,b⟩,⟨c,d⟩,e,f⟩;exact ⟨a,b,c,e,d,f⟩
  · rintro ⟨a,b,c,e,d,f⟩;exact ⟨⟨a,b⟩,⟨c,d⟩,e,f⟩
theorem zPk (p : Pt) (h1 : p.Hist.Pos.Counts.length ≤ 1000000) (h2 : p.Hist.Neg.Counts.length ≤ 1000000) : zC8 p = some (pcE p):=by
  unfold zC8 pcE;rw [zNf,zBx]
  by_cases c : zIo p.Name p.Attrs ≠ 0
  · rw [if_pos c,if_pos c]
  rw [if_neg c,if_neg c];simp only [zD,zBx,zUe p.Hist h1 h2,zU9,zSu,zSi p.Hist h1 h2]
  cases hk : zKe p with
  | false=>
    rw [if_pos (show false = false from rfl)]
    by_cases a : p.Kind < 1 ∨ p.Kind > 5
    · rw [if_pos a]
    · rw [if_neg a,if_pos]
      unfold zKe at hk
      by_cases h3 : p.Kind = 3
      · rw [if_pos h3] at hk;exact Or.inl ⟨h3,of_decide_eq_false hk⟩
      · rw [if_neg h3,decide_eq_true (show 1 ≤ p.Kind ∧ p.Kind ≤ 5 by omega),Bool.true_and] at hk
        have:=of_decide_eq_false hk;exact Or.inr ⟨⟨h3,fun h=>this (Or.inl h)⟩,fun h=>this (Or.inr h)⟩
  | true=>
    rw [if_neg (show ¬ (true = false) by decide)]
    have k : 1 ≤ p.Kind ∧ p.Kind ≤ 5 ∧ (p.Kind = 3 → p.Temp = 0) ∧ (p.Kind ≠ 3 → p.Temp = 1 ∨ p.Temp = 2):=by
      unfold zKe at hk
      by_cases h3 : p.Kind = 3
      · rw [if_pos h3] at hk;have:=of_decide_eq_true hk;omega
      · rw [if_neg h3,Bool.and_eq_true] at hk
        have a:=of_decide_eq_true hk.1;have b:=of_decide_eq_true hk.2;exact ⟨a.1,a.2,fun h=>(h3 h).elim,fun _=>b⟩
    rw [if_neg (show ¬ (p.Kind < 1 ∨ p.Kind > 5) by omega),if_neg (show ¬ ((p.Kind = 3 ∧ p.Temp ≠ 0) ∨ ((p.Kind ≠ 3 ∧ p.Temp ≠ 1) ∧ p.Temp ≠ 2)) by omega)]
    by_cases hs : p.Mono = true ∧ p.Kind ≠ 1 ∧ p.Kind ≠ 2
    · rw [if_pos (show (p.Mono = true ∧ p.Kind ≠ 1) ∧ p.Kind ≠ 2 from ⟨⟨hs.1,hs.2.1⟩,hs.2.2⟩),if_pos hs]
    rw [if_neg (show ¬ ((p.Mono = true ∧ p.Kind ≠ 1) ∧ p.Kind ≠ 2) from fun h=>hs ⟨h.1.1,h.1.2,h.2⟩),if_neg hs]
    have ht : ((((p.Start < 0) ∨ (p.Time > 4503599627370496)) ∨ ((p.Kind = 3) ∧ (p.Start ≠ p.Time))) ∨ ((p.Kind ≠ 3) ∧ (p.Start ≥ p.Time))) ↔ zJa p = false:=by
      unfold zJa;rw [decide_eq_false_iff_not]
      by_cases h3 : p.Kind = 3
      · rw [if_pos h3];omega
      · rw [if_neg h3];omega
    by_cases t : zJa p = false
    · rw [if_pos (ht.2 t),if_pos t]
    rw [if_neg (fun h=>t (ht.1 h)),if_neg t]
    have ho : zR p = false ↔ ((((p.Kind ≠ 1) ∧ (p.Int_ ≠ 0)) ∨ ((p.Kind ≠ 5) ∧ (((p.Im).toNat : Int) ≠ 0))) ∨ (p.Kind ≠ 4 ∧ zLa p.Hist = false) ∨ (((((p.Kind = 1) ∨ (p.Kind = 4)) ∧ (((p.Re).toNat : Int) ≠ 0)) ∨ (p.Flags < 0)) ∨ (p.Flags > 31))):=by
      unfold zR;rw [decide_eq_false_iff_not,ne_eq,ne_eq (((p.Im).toNat : Int)),ne_eq (((p.Re).toNat : Int)),zVg,zVg]
      have e : zLa p.Hist = false ↔ ¬ zLa p.Hist = true:=by cases zLa p.Hist<;>simp
      rw [e]
      by_cases z1 : p.Re = 0<;>by_cases z2 : p.Im = 0<;>by_cases z3 : zLa p.Hist = true<;>(simp [z1,z2,z3];try omega)
    by_cases ab : ((p.Kind ≠ 1) ∧ (p.Int_ ≠ 0)) ∨ ((p.Kind ≠ 5) ∧ (((p.Im).toNat : Int) ≠ 0))
    · rw [if_pos (ho.2 (Or.inl ab)),if_pos ab,if_pos (by first | trivial | rfl)]
    rw [if_neg ab]
    by_cases hb : p.Kind ≠ 4 ∧ zLa p.Hist = false
    · rw [if_pos (ho.2 (Or.inr (Or.inl hb))),if_pos hb.1,if_pos (by rw [hb.2];rfl)]
    have go : ∀ (X : Option Int),(if p.Kind ≠ 4 then (if (!zLa p.Hist) = true then some 3 else X) else (if false = true then some 3 else X)) = X:=by
      intro X
      by_cases k4 : p.Kind ≠ 4
      · have : zLa p.Hist = true:=by cases h : zLa p.Hist with | true=>rfl | false=>exact (hb ⟨k4,h⟩).elim
        rw [if_pos k4,if_neg (by rw [this];decide)]
      · rw [if_neg k4,if_neg (by decide)]
    refine (go _).trans ?_
    by_cases c3 : ((((p.Kind = 1) ∨ (p.Kind = 4)) ∧ (((p.Re).toNat : Int) ≠ 0)) ∨ (p.Flags < 0)) ∨ (p.Flags > 31)
    · rw [if_pos (ho.2 (Or.inr (Or.inr c3))),if_pos c3]
    have oT : ¬ zR p = false:=fun h=>(ho.1 h).elim ab fun h=>h.elim hb c3
    rw [if_neg oT,if_neg c3]
    by_cases m2 : p.Mono = true ∧ p.Kind = 2
    · rw [if_pos m2,if_pos m2]
      have i0 : ¬ p.Int_ < 0:=by omega
      cases hf : zSk p.Re with
      | false=>rw [if_pos (by rfl),if_pos (show (p.Mono = true ∧ p.Kind = 2) ∧ false = false from ⟨m2,rfl⟩)]
      | true=>
        rw [if_neg (by decide),if_neg (show ¬ ((p.Mono = true ∧ p.Kind = 2) ∧ true = false) by simp)]
        cases hl : ltZ p.Re with
        | true=>rw [if_pos (Or.inl rfl),if_pos ⟨m2.1,Or.inr rfl⟩]
        | false=>rw [if_neg (show ¬ (false = true ∨ (p.Mono = true ∧ p.Kind = 1) ∧ p.Int_ < 0) by simp [i0]),if_neg (show ¬ (p.Mono = true ∧ (p.Int_ < 0 ∨ false = true)) by simp [i0])];split<;>rfl
    · rw [if_neg m2,if_neg (show ¬ (false = true) by decide),if_neg m2,if_neg (show ¬ ((p.Mono = true ∧ p.Kind = 2) ∧ zSk p.Re = false) from fun h=>m2 h.1)]
      by_cases m1 : p.Mono = true ∧ p.Kind = 1
      · have r0 : p.Re = 0:=by apply (zVg _).1;omega
        have l0 : ltZ p.Re = false:=by rw [r0];decide
        rw [l0]
        by_cases hi : p.Int_ < 0
        · rw [if_pos (Or.inr ⟨m1,hi⟩),if_pos ⟨m1.1,Or.inl hi⟩]
        · rw [if_neg (show ¬ (false = true ∨ (p.Mono = true ∧ p.Kind = 1) ∧ p.Int_ < 0) by simp [hi]),if_neg (show ¬ (p.Mono = true ∧ (p.Int_ < 0 ∨ false = true)) by simp [hi])];split<;>rfl
      · have hm : ¬ p.Mono = true:=by
          intro hm;exact hs ⟨hm,fun h=>m1 ⟨hm,h⟩,fun h=>m2 ⟨hm,h⟩⟩
        rw [if_neg (show ¬ (false = true ∨ (p.Mono = true ∧ p.Kind = 1) ∧ p.Int_ < 0) by simp [hm]),if_neg (show ¬ (p.Mono = true ∧ (p.Int_ < 0 ∨ ltZ p.Re = true)) from fun h=>hm h.1)];split<;>rfl
structure PtR (p : Pt) : Prop where
  c : zIo p.Name p.Attrs = 0
  k : zKe p = true
  t : zJa p = true
  o : zR p = true
  h : p.Kind = 4 → hcE p.Hist = 0
theorem zRr {p : Pt} (h : pcE p = 0) : PtR p:=by
  unfold pcE at h
  by_cases c : zIo p.Name p.Attrs ≠ 0
  · rw [if_pos c] at h;exact (c h).elim
  rw [if_neg c] at h
  by_cases k : zKe p = false
  · rw [if_pos k] at h;exact absurd h (by decide)
  rw [if_neg k] at h
  by_cases s : p.Mono = true ∧ p.Kind ≠ 1 ∧ p.Kind ≠ 2
  · rw [if_pos s] at h;exact absurd h (by decide)
  rw [if_neg s] at h
  by_cases t : zJa p = false
  · rw [if_pos t] at h;exact absurd h (by decide)
  rw [if_neg t] at h
  by_cases o : zR p = false
  · rw [if_pos o] at h;exact absurd h (by decide)
  rw [if_neg o] at h
  by_cases f : (p.Mono = true ∧ p.Kind = 2) ∧ zSk p.Re = false
  · rw [if_pos f] at h;exact absurd h (by decide)
  rw [if_neg f] at h
  by_cases l : p.Mono = true ∧ (p.Int_ < 0 ∨ ltZ p.Re = true)
  · rw [if_pos l] at h;exact absurd h (by decide)
  rw [if_neg l] at h;refine ⟨Classical.not_not.1 c,by simpa using k,by simpa using t,by simpa using o,fun h4=>?_⟩;rw [if_pos h4] at h;exact h
end Go.Proofs.YthjhejgjcdajdaaGreatDoor
set_option maxRecDepth 20000
set_option linter.unusedVariables false
set_option linter.unusedSimpArgs false
namespace Go.Proofs.YthjhejgjcdajdaaGreatDoor
open Go Go.RowKit Go.Wk
theorem zUg (p : Pt) : zDp p = some (decide (p.Name.length ≤ 100) && zPc p.Attrs && decide (p.Hist.Pos.Counts.length ≤ 300 ∧ p.Hist.Neg.Counts.length ≤ 300)):=by
  unfold zDp zF7;rw [zD,zT3]
  have e1 : ((p.Hist.Pos.Counts.length : Int) ≤ 300) ↔ p.Hist.Pos.Counts.length ≤ 300:=by omega
  have e2 : ((p.Hist.Neg.Counts.length : Int) ≤ 300) ↔ p.Hist.Neg.Counts.length ≤ 300:=by omega
  simp only [zD,zBx,e1,e2]
  by_cases h1 : (p.Name.length : Int) ≤ 100
  · rw [if_pos h1,decide_eq_true (by omega : p.Name.length ≤ 100)]
    cases zPc p.Attrs with
    | false=>simp
    | true=>simp
  · rw [if_neg h1,decide_eq_false (by omega : ¬ p.Name.length ≤ 100)];simp
theorem zS4 {p : Pt} (h : (decide (p.Name.length ≤ 100) && zPc p.Attrs && decide (p.Hist.Pos.Counts.length ≤ 300 ∧ p.Hist.Neg.Counts.length ≤ 300)) = true) : Few p ∧ p.Hist.Pos.Counts.length ≤ 300 ∧ p.Hist.Neg.Counts.length ≤ 300:=by
  simp only [Bool.and_eq_true,decide_eq_true_iff] at h;obtain ⟨⟨_,h2⟩,h3,h4⟩:=h;exact ⟨⟨zS3 h2,by omega,by omega⟩,h3,h4⟩
def mono (b : Bool) : Nat:=if b = true then 1 else 0
theorem zRp {p : Pt} (h : PtR p) : 1 ≤ p.Kind ∧ p.Kind ≤ 5 ∧ 0 ≤ p.Temp ∧ p.Temp ≤ 2 ∧ 0 ≤ p.Flags ∧ p.Flags ≤ 31 ∧ 0 ≤ p.Start ∧ p.Start ≤ p.Time ∧ p.Time ≤ 4503599627370496:=by
  obtain ⟨_,hk,ht,ho,_⟩:=h;unfold zKe at hk;unfold zJa at ht;unfold zR at ho;rw [decide_eq_true_iff] at ht ho;obtain ⟨t1,t2,t3⟩:=ht;obtain ⟨_,_,_,_,o1,o2⟩:=ho
  by_cases h3 : p.Kind = 3
  · rw [if_pos h3] at hk t3
    rw [decide_eq_true_iff] at hk
    omega
  · rw [if_neg h3] at hk t3
    simp only [Bool.and_eq_true,decide_eq_true_iff] at hk
    omega
def zUj (p : Pt) : List UInt8:=(p.Name ++ zJt (srt p.Attrs)) ++ ([32] ++ [UInt8.ofNat (48 + p.Kind.toNat),UInt8.ofNat (48 + p.Temp.toNat),UInt8.ofNat (48 + mono p.Mono)])
theorem zOj {x : Int} (h0 : 0 ≤ x) (h1 : x ≤ 100) : zKz (W64 (48 + x)) = UInt8.ofNat (48 + x.toNat):=by
  rw [zDn (by omega) (by omega),show 48 + x = ((48 + x.toNat : Nat) : Int) by omega,zSo,Nat.mod_eq_of_lt (by omega)]
def keyR (p : Pt) : List UInt8 × Int:=if pcE p = 0 then (zUj p,0) else ([],pcE p)
theorem zU8 (p : Pt) (h1 : p.Hist.Pos.Counts.length ≤ 1000000) (h2 : p.Hist.Neg.Counts.length ≤ 1000000) : zEl p = some (keyR p):=by
  unfold zEl keyR zCq;rw [zPk p h1 h2,zBx]
  by_cases h0 : pcE p = 0
  · rw [if_neg (by simpa using h0),if_pos h0]
    have hp:=zRr h0;obtain ⟨k1,k2,t1,t2,f1,f2,s1,s2,s3⟩:=zRp hp;have htl:=zQ8 hp.c
    have hT : zCw p.Name p.Attrs = some (p.Name ++ zJt (srt p.Attrs),0):=by rw [zQw,text,if_pos hp.c]
    have hbit : zEk p.Mono = some (mono p.Mono : Int):=by unfold zEk mono;cases p.Mono<;>rfl
    have hm1 : mono p.Mono ≤ 1:=by unfold mono;split<;>omega
    rw [hT,zBx];dsimp only;rw [zJ3 (by simp only [List.length_append,List.length_cons,List.length_nil] at htl ⊢;omega),zBx,zBx,zJ3 (by simp only [List.length_append,List.length_cons,List.length_nil] at htl ⊢;omega),zBx,zBx,zJ3 (by simp only [List.length_append,List.length_cons,List.length_nil] at htl ⊢;omega),zBx,hbit,zBx,zBx,zJ3 (by simp only [List.length_append,List.length_cons,List.length_nil] at htl ⊢;omega),zBx];rw [zOj (by omega) (by omega),zOj (by omega) (by omega),zOj (by omega) (by omega),Int.toNat_natCast];unfold zUj;simp only [List.append_assoc];rfl
  · rw [if_pos h0,if_neg h0]
end Go.Proofs.YthjhejgjcdajdaaGreatDoor
set_option maxRecDepth 20000
set_option linter.unusedVariables false
set_option linter.unusedSimpArgs false
namespace Go.Proofs.YthjhejgjcdajdaaGreatDoor
open Go Go.RowKit Go.Wk
abbrev zPt : Pt:=⟨[],[],0,0,false,0,0,0,0,0,h00,0⟩
def sPt (nm : Txt) (l : List Pr) (a b c : UInt8) : Pt:=⟨nm,l,W64 ((a.toNat : Int) - 48),W64 ((b.toNat : Int) - 48),decide (((c).toNat : Int) = 49),if W64 ((a.toNat : Int) - 48) = 3 then 1 else 0,1,0,0,0,h00,0⟩
def oPt (nm : Txt) (l : List Pr) (a b c : UInt8) : Pt:=⟨nm,l,W64 ((a.toNat : Int) - 48),W64 ((b.toNat : Int) - 48),decide (((c).toNat : Int) = 49),0,0,0,0,0,h00,0⟩
def zSj (s : Txt) : Pt × Int:=
  if (((zD3 32 s).2.2 = true ∧ (zD3 32 s).2.1.length = 3) ∧ (zL5 (zD3 32 s).1).2.2.2 = 0) ∧ ((zD3 32 s).2.1.getD 2 0 = 48 ∨ (zD3 32 s).2.1.getD 2 0 = 49) ∧
      pcE (sPt (zL5 (zD3 32 s).1).1 (zL5 (zD3 32 s).1).2.1 ((zD3 32 s).2.1.getD 0 0) ((zD3 32 s).2.1.getD 1 0) ((zD3 32 s).2.1.getD 2 0)) = 0
  then (oPt (zL5 (zD3 32 s).1).1 (zL5 (zD3 32 s).1).2.1 ((zD3 32 s).2.1.getD 0 0) ((zD3 32 s).2.1.getD 1 0) ((zD3 32 s).2.1.getD 2 0),0) else (zPt,3)
theorem zSe (c : UInt8) (k : Nat) (hk : k < 256) : ((c.toNat : Nat) : Int) = (k : Int) ↔ c = UInt8.ofNat k:=by
  constructor
  · intro h;apply UInt8.toNat_inj.1;rw [UInt8.toNat_ofNat'];omega
  · rintro rfl;rw [UInt8.toNat_ofNat'];omega
theorem zVi {l : List UInt8} (h : l.length = 3) : ∃ a b c,l = [a,b,c]:=by
  match l,h with
  | [a,b,c],_=>exact ⟨a,b,c,rfl⟩
theorem zP (s : Txt) (hs : s.length ≤ 10000) : zFe s = some (zSj s):=by
  unfold zFe zSj;have hl:=zK3 (c:=32) (s:=s);rw [zLp s 32 (by omega),zBx];generalize hc : zD3 32 s = t at *;obtain ⟨p,q,f⟩:=t;dsimp only at hl ⊢;rw [zT p (by omega),zBx];generalize zL5 p = r;obtain ⟨nm,l,at_,e⟩:=r;dsimp only;simp only [zD]
  by_cases h : (f = true ∧ q.length = 3) ∧ e = 0
  · obtain ⟨⟨hf,hq⟩,he⟩:=h
    obtain ⟨a,b,c,rfl⟩:=zVi hq;subst hf he;rw [if_neg (show ¬ (((!true) = true ∨ (0 : Int) ≠ 0) ∨ (([a,b,c] : List UInt8).length : Int) ≠ 3) by simp),show idx [a,b,c] 2 = some c from rfl,zBx,zBx,show idx [a,b,c] 0 = some a from rfl,zBx,show idx [a,b,c] 1 = some b from rfl,zBx,zBx];rw [show ([a,b,c] : List UInt8).getD 0 0 = a from rfl,show ([a,b,c] : List UInt8).getD 1 0 = b from rfl,show ([a,b,c] : List UInt8).getD 2 0 = c from rfl]
    have fin : (if W64 ((a.toNat : Int) - 48) = 3 then (zEi ⟨nm,l,W64 ((a.toNat : Int) - 48),W64 ((b.toNat : Int) - 48),decide (((c).toNat : Int) = 49),1,1,0,0,0,h00,0⟩).bind fun p54=>if p54 ≠ 0 then some (zPt,(3 : Int)) else some (oPt nm l a b c,0) else (zEi ⟨nm,l,W64 ((a.toNat : Int) - 48),W64 ((b.toNat : Int) - 48),decide (((c).toNat : Int) = 49),0,1,0,0,0,h00,0⟩).bind fun p54=>if p54 ≠ 0 then some (zPt,(3 : Int)) else some (oPt nm l a b c,0)) = some (if pcE (sPt nm l a b c) = 0 then (oPt nm l a b c,0) else (zPt,3)):=by
      have e1 : pcE (sPt nm l a b c) = pcE ⟨nm,l,W64 ((a.toNat : Int) - 48),W64 ((b.toNat : Int) - 48),decide (((c).toNat : Int) = 49),if W64 ((a.toNat : Int) - 48) = 3 then 1 else 0,1,0,0,0,h00,0⟩:=rfl;rw [e1]
      by_cases h3 : W64 ((a.toNat : Int) - 48) = 3
      · rw [if_pos h3,if_pos h3,zPl _ (by simp) (by simp),zBx]
        by_cases hh : pcE ⟨nm,l,W64 ((a.toNat : Int) - 48),W64 ((b.toNat : Int) - 48),decide (((c).toNat : Int) = 49),1,1,0,0,0,h00,0⟩ = 0
        · rw [if_neg (fun k=>k hh),if_pos hh]
        · rw [if_pos hh,if_neg hh]
      · rw [if_neg h3,if_neg h3,zPl _ (by simp) (by simp),zBx]
        by_cases hh : pcE ⟨nm,l,W64 ((a.toNat : Int) - 48),W64 ((b.toNat : Int) - 48),decide (((c).toNat : Int) = 49),0,1,0,0,0,h00,0⟩ = 0
        · rw [if_neg (fun k=>k hh),if_pos hh]
        · rw [if_pos hh,if_neg hh]
    by_cases h48 : c = 48
    · rw [if_neg (show ¬ ((c.toNat : Int) ≠ 48) by rw [h48];decide),if_neg (show ¬ (false = true) by decide)]
      refine fin.trans ?_
      congr 1
      exact zQj ⟨fun h=>⟨⟨⟨rfl,rfl⟩,rfl⟩,Or.inl h48,h⟩,fun h=>h.2.2⟩ (fun _=>rfl) (fun _=>rfl)
    · rw [if_pos (show (c.toNat : Int) ≠ 48 from fun h=>h48 ((zSe c 48 (by omega)).1 h))]
      by_cases h49 : c = 49
      · rw [if_neg (by rw [h49];decide)]
        refine fin.trans ?_
        congr 1
        exact zQj ⟨fun h=>⟨⟨⟨rfl,rfl⟩,rfl⟩,Or.inr h49,h⟩,fun h=>h.2.2⟩ (fun _=>rfl) (fun _=>rfl)
      · rw [if_pos (decide_eq_true (show (c.toNat : Int) ≠ 49 from fun h=>h49 ((zSe c 49 (by omega)).1 h))),if_neg (fun h=>h.2.1.elim h48 h49)]
  · rw [if_neg (c:=((f = true ∧ q.length = 3) ∧ e = 0) ∧ _) (fun k=>h k.1),if_pos,if_pos (by first | trivial | rfl)]
    cases f with
    | false=>exact Or.inl (Or.inl rfl)
    | true=>
      by_cases hq : q.length = 3
      · exact Or.inl (Or.inr fun he=>h ⟨⟨rfl,hq⟩,he⟩)
      · exact Or.inr (by omega)
theorem zUo (s : Txt) : ∀ (i : Nat),i < (zD3 32 s).1.length → ∃ x,s[i]? = some x ∧ x ≠ 32:=by
  intro i hi
  have e : ∃ t,s = (zD3 32 s).1 ++ t:=by
    by_cases h : (zD3 32 s).2.2 = true
    · exact ⟨_,zI2 h⟩
    · have:=zLm (c:=32) (s:=s) (by simpa using h)
      exact ⟨[],by rw [this];simp⟩
  obtain ⟨t,ht⟩:=e;refine ⟨(zD3 32 s).1[i],?_,zM _ (List.getElem_mem hi)⟩;exact (congrArg (fun z : Txt=>z[i]?) ht).trans (by rw [List.getElem?_append_left hi,List.getElem?_eq_getElem hi])
theorem zP2 (s : Txt) (hs : s.length ≤ 10000) (j : Int → Option (Pt × Int)) : ∀ (r i f : Nat),i + r = (zD3 32 s).1.length → r < f → zBi s j f (i : Int) = j (((zD3 32 s).1.length : Nat) : Int):=by
  have hl:=zK3 (c:=32) (s:=s);intro r
  induction r with
  | zero=>
    intro i f hi hf;obtain ⟨f,rfl⟩ : ∃ k,f = k + 1:=⟨f - 1,by omega⟩;rw [zBi];simp only [zD]
    have hi' : i = (zD3 32 s).1.length:=by omega
    by_cases h : (zD3 32 s).2.2 = true
    · have e:=zI2 h
      have hx : idx s (i : Int) = some 32:=by rw [hi'];exact (congrArg (fun z : Txt=>idx z (((zD3 32 s).1.length : Nat) : Int)) e).trans (zLl _ _ _)
      have hlt : i < s.length:=by have:=congrArg List.length e;simp at this;omega
      rw [if_pos (by omega),hx,zBx,if_neg (by decide),hi']
    · have e:=zLm (c:=32) (s:=s) (by simpa using h)
      rw [if_neg (by rw [hi',e];simp),if_neg (by decide),hi']
  | succ r ih=>
    intro i f hi hf;obtain ⟨f,rfl⟩ : ∃ k,f = k + 1:=⟨f - 1,by omega⟩;obtain ⟨x,hx,h32⟩:=zUo s i (by omega)
    have hlt : i < s.length:=by omega
    rw [zBi];simp only [zD];rw [if_pos (by omega),zJ8,hx,zBx,if_pos (decide_eq_true (show (x.toNat : Int) ≠ 32 from fun h=>h32 ((zSe x 32 (by omega)).1 h))),zG7 (by omega)];exact ih (i + 1) f (by omega) (by omega)
end Go.Proofs.YthjhejgjcdajdaaGreatDoor
set_option maxRecDepth 20000
set_option pp.deepTerms true
set_option linter.unusedVariables false
set_option linter.unusedSimpArgs false
namespace Go.Proofs.YthjhejgjcdajdaaGreatDoor
open Go Go.RowKit Go.Wk
theorem zQu (s : Txt) (hs : s.length ≤ 10000) : zDi s = some (zSj s):=by
  unfold zDi zSj;have hl:=zK3 (c:=32) (s:=s);obtain ⟨ff,hf⟩:=zT7 20001 (by omega);rw [zD];refine (zP2 s hs _ (zD3 32 s).1.length 0 fuel (by omega) (by rw [hf];omega)).trans ?_;rw [zDn (z:=(s.length : Int) - _) (by omega) (by omega)]
  by_cases h : (zD3 32 s).2.2 = true ∧ (zD3 32 s).2.1.length = 3
  · obtain ⟨h1,h3⟩:=h
    have e:=zI2 h1;have el:=congrArg List.length e;simp only [List.length_append,List.length_cons] at el;obtain ⟨a,b,c,hq⟩:=zVi h3;generalize hp : (zD3 32 s).1 = p at *;rw [hq] at e el;simp only [List.length_cons,List.length_nil] at el;rw [if_neg (by omega),h1,hq]
    have c1 : zJ9 s 0 (p.length : Int) = some p:=by rw [e];exact zMh p _
    have w1 : W64 ((p.length : Int) + 1) = ((p.length + 1 : Nat) : Int):=zG7 (by omega)
    have w2 : W64 ((p.length : Int) + 2) = ((p.length + 2 : Nat) : Int):=by rw [zDn (by omega) (by omega)];rfl
    have w3 : W64 ((p.length : Int) + 3) = ((p.length + 3 : Nat) : Int):=by rw [zDn (by omega) (by omega)];rfl
    have i1 : idx s ((p.length + 1 : Nat) : Int) = some a:=by rw [zJ8,e,List.getElem?_append_right (by omega),Nat.add_sub_cancel_left];rfl
    have i2 : idx s ((p.length + 2 : Nat) : Int) = some b:=by rw [zJ8,e,List.getElem?_append_right (by omega),Nat.add_sub_cancel_left];rfl
    have i3 : idx s ((p.length + 3 : Nat) : Int) = some c:=by rw [zJ8,e,List.getElem?_append_right (by omega),Nat.add_sub_cancel_left];rfl
    rw [c1,zBx,zPo p (by omega),zBx,w1,w2,w3,i1,zBx,i2,zBx,i3,zBx];simp only [zD,zBx,if_true,Bool.false_eq_true,if_false];rw [show ([a,b,c] : List UInt8).getD 0 0 = a from rfl,show ([a,b,c] : List UInt8).getD 1 0 = b from rfl,show ([a,b,c] : List UInt8).getD 2 0 = c from rfl];unfold got;generalize zL5 p = r;obtain ⟨nm,l,at_,er⟩:=r;dsimp only;have key : ∀ st : Int,(st = if W64 ((a.toNat : Int) - 48) = 3 then 1 else 0) → ∀ X : Pt,X = ⟨nm,l,W64 ((a.toNat : Int) - 48),W64 ((b.toNat : Int) - 48),decide (((c).toNat : Int) = 49),st,1,0,0,0,h00,0⟩ →
        (if er ≠ 0 then some (zPt,(3 : Int)) else (zC8 X).bind fun p65=>if decide (p65 ≠ 0) = true then some (zPt,(3 : Int)) else if (c.toNat : Int) ≠ 48 then (if decide ((c.toNat : Int) ≠ 49) = true then some (zPt,(3 : Int)) else some (oPt nm l a b c,0)) else some (oPt nm l a b c,0)) =
        some (if ((True ∧ (3 : Nat) = 3) ∧ er = 0) ∧ (c = 48 ∨ c = 49) ∧ pcE (sPt nm l a b c) = 0 then (oPt nm l a b c,0) else (zPt,3)):=by
      intro st hst X hX
      have e1 : sPt nm l a b c = X:=by rw [hX,hst];rfl
      rw [e1]
      by_cases h0 : er = 0
      · rw [if_neg (fun k=>k h0),zPk X (by rw [hX];simp) (by rw [hX];simp),zBx]
        by_cases hc : pcE X = 0
        · rw [if_neg (by rw [decide_eq_false (fun k=>k hc)];decide)]
          by_cases h48 : c = 48
          · rw [if_neg (show ¬ ((c.toNat : Int) ≠ 48) by rw [h48];decide),if_pos ⟨⟨⟨trivial,rfl⟩,h0⟩,Or.inl h48,hc⟩]
          · rw [if_pos (show (c.toNat : Int) ≠ 48 from fun h=>h48 ((zSe c 48 (by omega)).1 h))]
            by_cases h49 : c = 49
            · rw [if_neg (by rw [h49];decide),if_pos ⟨⟨⟨trivial,rfl⟩,h0⟩,Or.inr h49,hc⟩]
            · rw [if_pos (decide_eq_true (show (c.toNat : Int) ≠ 49 from fun h=>h49 ((zSe c 49 (by omega)).1 h))),if_neg (fun h=>h.2.1.elim h48 h49)]
        · rw [if_pos (decide_eq_true hc),if_neg (fun k=>hc k.2.2)]
      · rw [if_pos h0,if_neg (fun k=>h0 k.1.2)]
    by_cases h3' : W64 ((a.toNat : Int) - 48) = 3
    · rw [if_pos h3']
      refine (key 1 (by rw [if_pos h3']) _ rfl).trans ?_
      congr 1
    · rw [if_neg h3']
      refine (key 0 (by rw [if_neg h3']) _ rfl).trans ?_
      congr 1
  · rw [if_pos,if_neg (fun k=>h k.1.1)]
    by_cases h1 : (zD3 32 s).2.2 = true
    · have e:=zI2 h1
      have el:=congrArg List.length e;simp only [List.length_append,List.length_cons] at el;intro k;exact h ⟨h1,by omega⟩
    · have e:=zLm (c:=32) (s:=s) (by simpa using h1)
      rw [e];dsimp only;omega
end Go.Proofs.YthjhejgjcdajdaaGreatDoor
set_option maxRecDepth 20000
set_option linter.unusedVariables false
set_option linter.unusedSimpArgs false
namespace Go.Proofs.YthjhejgjcdajdaaGreatDoor
open Go Go.RowKit Go.Wk
theorem zTo : zF8 = some true:=by decide +kernel
theorem zPj {name : Txt} {l : List Pr} (h : zIo name l = 0) : zIo name (srt l) = 0:=by
  obtain ⟨h1,h2,h3⟩:=zM0 h;unfold zIo;rw [if_pos h1,if_neg (by rw [zM3];omega)];exact zQ2 h3
theorem zRz {s : Txt} (h : zGf s = true) : ∀ x ∈ s,x ≠ 32:=by
  intro x hx;unfold zGf at h
  match s,h,hx with
  | c :: t,h,hx=>
    simp only [Bool.and_eq_true,List.all_eq_true] at h;rintro rfl
    rcases List.mem_cons.1 hx with e|e
    · have:=h.2.1;rw [← e] at this;exact absurd this (by decide)
    · exact absurd (h.2.2 _ e) (by decide)
theorem zVe {s : Txt} (h : zO2 s = true) : ∀ x ∈ s,x ≠ 32:=by
  intro x hx;unfold zO2 at h;simp only [Bool.and_eq_true,List.all_eq_true] at h;rintro rfl;exact absurd (h.2 _ hx) (by decide)
theorem zU2 {name : Txt} {l : List Pr} (h : zIo name l = 0) : ∀ x ∈ name ++ zJt (srt l),x ≠ 32:=by
  obtain ⟨h1,h2,h3⟩:=zM0 (zPj h);have hk:=zSd _ _ h3;intro x hx
  rcases List.mem_append.1 hx with e|e
  · exact zRz h1 x e
  · unfold zJt at e
    obtain ⟨a,ha,hxa⟩:=List.mem_flatMap.1 e;obtain ⟨k1,k2,_⟩:=hk a ha;unfold at1 at hxa;simp only [List.mem_append,List.mem_singleton] at hxa
    rcases hxa with ((e|e)|e)|e
    · rw [e];decide
    · exact zRz k1 x e
    · rw [e];decide
    · exact zVe k2 x e
theorem zNx : ∀ (p q : Txt),(∀ x ∈ p,x ≠ 32) → zD3 32 (p ++ 32 :: q) = (p,q,true)
  | [],q,_=>by rw [List.nil_append,zD3,if_pos rfl]
  | c :: p,q,h=>by
    rw [List.cons_append,zD3,if_neg (h c (by simp)),zNx p q (fun x hx=>h x (by simp [hx]))]
theorem zUk : hcE h00 = 0:=by decide
theorem zQy {p : Pt} (h : PtR p) (st : Int) (hst : st = if p.Kind = 3 then 1 else 0) (hm : p.Mono = true → p.Kind = 1 ∨ p.Kind = 2) : pcE ⟨p.Name,srt p.Attrs,p.Kind,p.Temp,p.Mono,st,1,0,0,0,h00,0⟩ = 0:=by
  have hk:=h.k;unfold pcE
  have f0 : zSk 0 = true:=by decide
  have l0 : ltZ 0 = false:=by decide
  have b0 : zLa h00 = true:=by decide
  have hkb : zKe ⟨p.Name,srt p.Attrs,p.Kind,p.Temp,p.Mono,st,1,0,0,0,h00,0⟩ = true:=hk
  have htb : zJa ⟨p.Name,srt p.Attrs,p.Kind,p.Temp,p.Mono,st,1,0,0,0,h00,0⟩ = true:=by
    unfold zJa;rw [decide_eq_true_iff];dsimp only
    by_cases h3 : p.Kind = 3
    · rw [if_pos h3] at hst ⊢;omega
    · rw [if_neg h3] at hst ⊢;omega
  have hob : zR ⟨p.Name,srt p.Attrs,p.Kind,p.Temp,p.Mono,st,1,0,0,0,h00,0⟩ = true:=by
    unfold zR;rw [decide_eq_true_iff];exact ⟨fun _=>rfl,fun _=>rfl,fun _=>rfl,fun _=>b0,show (0 : Int) ≤ 0 by decide,show (0 : Int) ≤ 31 by decide⟩
  rw [hkb,htb,hob];dsimp only;rw [zPj h.c,if_neg (by decide),if_neg (by decide),if_neg (fun k=>by have:=hm k.1;omega),if_neg (by decide),if_neg (by decide),f0,if_neg (by simp),l0,if_neg (by simp),zUk]
  split<;>rfl
theorem zSz {p : Pt} (h : pcE p = 0) : p.Mono = true → p.Kind = 1 ∨ p.Kind = 2:=by
  intro hm;unfold pcE at h
  by_cases c : zIo p.Name p.Attrs ≠ 0
  · rw [if_pos c] at h;exact (c h).elim
  rw [if_neg c] at h
  by_cases k : zKe p = false
  · rw [if_pos k] at h;exact absurd h (by decide)
  rw [if_neg k] at h
  by_cases s : p.Mono = true ∧ p.Kind ≠ 1 ∧ p.Kind ≠ 2
  · rw [if_pos s] at h;exact absurd h (by decide)
  by_cases a : p.Kind = 1
  · exact Or.inl a
  · by_cases b : p.Kind = 2
    · exact Or.inr b
    · exact (s ⟨hm,a,b⟩).elim
theorem zQn {k : Nat} (h : k ≤ 9) : W64 (((UInt8.ofNat (48 + k)).toNat : Int) - 48) = (k : Int):=by
  rw [UInt8.toNat_ofNat',zDn (by omega) (by omega)];omega
theorem zSs {p : Pt} (h : pcE p = 0) : zSj (zUj p) = (⟨p.Name,srt p.Attrs,p.Kind,p.Temp,p.Mono,0,0,0,0,0,h00,0⟩,0):=by
  have r:=zRr h;obtain ⟨k1,k2,t1,t2,_⟩:=zRp r
  have hc : zD3 32 (zUj p) = (p.Name ++ zJt (srt p.Attrs),[UInt8.ofNat (48 + p.Kind.toNat),UInt8.ofNat (48 + p.Temp.toNat),UInt8.ofNat (48 + mono p.Mono)],true):=by
    unfold zUj;exact zNx _ _ (zU2 r.c)
  have hd : decide (((UInt8.ofNat (48 + mono p.Mono)).toNat : Int) = 49) = p.Mono:=by unfold mono;cases p.Mono<;>decide
  have e1 : W64 (((UInt8.ofNat (48 + p.Kind.toNat)).toNat : Int) - 48) = p.Kind:=by rw [zQn (by omega)];omega
  have e2 : W64 (((UInt8.ofNat (48 + p.Temp.toNat)).toNat : Int) - 48) = p.Temp:=by rw [zQn (by omega)];omega
  unfold zSj;rw [hc];dsimp only;rw [zQz r.c];dsimp only;rw [show ∀ a b c : UInt8,([a,b,c] : List UInt8).getD 0 0 = a from fun _ _ _=>rfl,show ∀ a b c : UInt8,([a,b,c] : List UInt8).getD 1 0 = b from fun _ _ _=>rfl,show ∀ a b c : UInt8,([a,b,c] : List UInt8).getD 2 0 = c from fun _ _ _=>rfl];unfold sPt oPt;rw [e1,e2,hd,if_pos];refine ⟨⟨⟨rfl,rfl⟩,rfl⟩,?_,zQy r _ rfl (zSz h)⟩;unfold mono;cases p.Mono
  · exact Or.inl rfl
  · exact Or.inr rfl
theorem zSt (s : Txt) : Few (zSj s).1:=by
  unfold zSj
  split
  · exact ⟨by have:=zRs (zD3 32 s).1;show (zL5 (zD3 32 s).1).2.1.length ≤ 20;omega,by simp [oPt],by simp [oPt]⟩
  · exact ⟨by simp,by simp,by simp⟩
theorem zQs (s : List UInt8) (p : Pt) : zDk s p = some true:=by
  unfold zDk;rw [zTo,zBx,if_neg (by decide)];simp only [zD]
  by_cases hl : (s.length : Int) > 600
  · rw [if_pos hl];rfl
  rw [if_neg hl,zUg,zBx];generalize hb : (decide (p.Name.length ≤ 100) && zPc p.Attrs && decide (p.Hist.Pos.Counts.length ≤ 300 ∧ p.Hist.Neg.Counts.length ≤ 300)) = b
  cases b with
  | false=>rfl
  | true=>
    obtain ⟨hf,hp,hn⟩:=zS4 hb;have fw:=zSt s;have fl:=fw.a;rw [if_neg (by decide),zP s (by omega),zBx,zQu s (by omega),zBx,zSx fw fw,zBx,decide_eq_true (show zRl (zSj s).1 (zSj s).1 from ⟨rfl,rfl,rfl,rfl,rfl,rfl,rfl,rfl,rfl,rfl,rfl,rfl⟩),if_neg (by simp),zPn _ _ (by omega),zBx,decide_eq_true (rfl),if_neg (by decide),zU8 p (by omega) (by omega),zBx];unfold keyR
    by_cases hc : pcE p = 0
    · have r:=zRr hc
      have hkl : (zUj p).length ≤ 10000:=by
        have:=zQ8 r.c;unfold zUj;simp only [List.length_append,List.length_cons,List.length_nil] at this ⊢;omega
      have ha:=hf.a;rw [if_pos hc,if_neg (show ¬ (0 : Int) ≠ 0 by decide),zP _ hkl,zBx,zSs hc,if_pos (by rfl),if_pos (by rfl),if_pos (by rfl),if_pos (by rfl),if_pos (by rfl),zIp _ (by omega),zBx,zPn _ _ (by rw [zM3];omega),zBx,decide_eq_true rfl]
    · rw [if_neg hc,if_pos hc]
end Go.Proofs.YthjhejgjcdajdaaGreatDoor
