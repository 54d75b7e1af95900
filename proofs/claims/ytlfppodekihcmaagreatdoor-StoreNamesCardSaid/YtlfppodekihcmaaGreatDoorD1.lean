/-
  Decimal digits: rows of k digits, and their order; plain Lean.
-/
import Derived.Test.YtlfppodekihcmaaGreatDoorMB
import Derived.Test.YtlfppodekihcmaaGreatDoorWx
set_option linter.unusedVariables false
set_option linter.unusedSimpArgs false
namespace Go.Proofs.YtlfppodekihcmaaGreatDoor
open Go Go.RowKit Go.Wk
def dg : Nat → Nat → List UInt8
  | 0, _ => []
  | k + 1, n => dg k (n / 10) ++ [UInt8.ofNat (48 + n % 10)]
theorem dg_len : ∀ k n, (dg k n).length = k
  | 0, _ => rfl
  | k + 1, n => by rw [dg, List.length_append, dg_len k]; rfl
theorem dg_add : ∀ (k j n : Nat), dg (j + k) n = dg j (n / 10 ^ k) ++ dg k n
  | 0, j, n => by rw [Nat.add_zero, Nat.pow_zero, Nat.div_one]; simp [dg]
  | k + 1, j, n => by
    rw [← Nat.add_assoc, dg, dg_add k j (n / 10), dg, List.append_assoc, Nat.div_div_eq_div_mul, Nat.pow_succ, Nat.mul_comm 10]
theorem dg_zero : ∀ k, dg k 0 = List.replicate k 48
  | 0 => rfl
  | k + 1 => by rw [dg, Nat.zero_div, dg_zero k, List.replicate_succ']; rfl
theorem lt_snoc {u v : List UInt8} (x y : UInt8) (h : u.length = v.length) : (u ++ [x] < v ++ [y]) ↔ (u < v ∨ (u = v ∧ x < y)) := by
  induction u generalizing v with
  | nil =>
    have hv : v = [] := List.eq_nil_of_length_eq_zero h.symm
    subst hv
    simp [List.cons_lt_cons_iff]
  | cons a u ih =>
    cases v with
    | nil => simp at h
    | cons b v =>
      rw [List.cons_append, List.cons_append, List.cons_lt_cons_iff, List.cons_lt_cons_iff, ih (by simpa using h)]
      constructor
      · rintro (h1 | ⟨rfl, h1 | ⟨rfl, h1⟩⟩)
        · exact .inl (.inl h1)
        · exact .inl (.inr ⟨rfl, h1⟩)
        · exact .inr ⟨rfl, h1⟩
      · rintro ((h1 | ⟨rfl, h1⟩) | ⟨h1, h2⟩)
        · exact .inl h1
        · exact .inr ⟨rfl, .inl h1⟩
        · injection h1 with h3 h4
          subst h3 h4
          exact .inr ⟨rfl, .inr ⟨rfl, h2⟩⟩
theorem digit_nat {d : Nat} (h : d < 10) : (UInt8.ofNat (48 + d)).toNat = 48 + d := by rw [UInt8.toNat_ofNat']; omega
theorem dg_eq : ∀ (k a b : Nat), a < 10 ^ k → b < 10 ^ k → dg k a = dg k b → a = b
  | 0, a, b, ha, hb, _ => by rw [Nat.pow_zero] at ha hb; omega
  | k + 1, a, b, ha, hb, h => by
    rw [dg, dg] at h
    obtain ⟨h1, h2⟩ := List.append_inj h (by rw [dg_len, dg_len])
    have e1 := dg_eq k (a / 10) (b / 10) (by rw [Nat.pow_succ] at ha; omega) (by rw [Nat.pow_succ] at hb; omega) h1
    injection h2 with h3 _
    have e2 := congrArg UInt8.toNat h3
    rw [digit_nat (by omega), digit_nat (by omega)] at e2
    omega
theorem dg_lt : ∀ (k a b : Nat), a < 10 ^ k → b < 10 ^ k → (dg k a < dg k b ↔ a < b)
  | 0, a, b, ha, hb => by
    rw [Nat.pow_zero] at ha hb
    constructor
    · intro h; exact absurd h (by simp [dg])
    · intro h; omega
  | k + 1, a, b, ha, hb => by
    have ha' : a / 10 < 10 ^ k := by rw [Nat.pow_succ] at ha; omega
    have hb' : b / 10 < 10 ^ k := by rw [Nat.pow_succ] at hb; omega
    rw [dg, dg, lt_snoc _ _ (by rw [dg_len, dg_len]), dg_lt k _ _ ha' hb', UInt8.lt_iff_toNat_lt, digit_nat (by omega), digit_nat (by omega)]
    constructor
    · rintro (h | ⟨h, h'⟩)
      · omega
      · have := dg_eq k _ _ ha' hb' h
        omega
    · intro h
      by_cases h1 : a / 10 < b / 10
      · exact .inl h1
      · have h2 : a / 10 = b / 10 := by omega
        exact .inr ⟨by rw [h2], by omega⟩
theorem pre_lt (p u v : List UInt8) : (p ++ u < p ++ v) ↔ u < v := by
  induction p with
  | nil => rfl
  | cons a p ih =>
    rw [List.cons_append, List.cons_append, List.cons_lt_cons_iff, ih]
    constructor
    · rintro (h | ⟨_, h⟩)
      · exact absurd h (UInt8.lt_irrefl a)
      · exact h
    · intro h; exact .inr ⟨rfl, h⟩
end Go.Proofs.YtlfppodekihcmaaGreatDoor
