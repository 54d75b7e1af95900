/-
  Chapter 35: sets of bytes, bit by bit; plain Lean.
-/
import Derived.Test.YtpcpfjpcfcbopaaDoorX3
set_option linter.unusedVariables false
set_option linter.unusedSimpArgs false
namespace Go.Proofs.YtpcpfjpcfcbopaaDoor
open Go Go.RowKit Go.Wk
def wd (s : T_glob_set) (j : Nat) : UInt64 := if j = 0 then s.a0 else if j = 1 then s.a1 else if j = 2 then s.a2 else s.a3
def hasB (s : T_glob_set) (c : UInt8) : Bool := (wd s (c.toNat / 64)).toNat.testBit (c.toNat % 64)
theorem u8lt (c : UInt8) : c.toNat < 256 := c.toNat_lt
theorem quo64c (c : UInt8) : quo8 c 64 = some (c / 64) := rfl
theorem rem64c (c : UInt8) : rem8 c 64 = some (c % 64) := rfl
theorem div64c (c : UInt8) : (c / 64).toNat = c.toNat / 64 := by rw [UInt8.toNat_div]; rfl
theorem mod64c (c : UInt8) : (c % 64).toNat = c.toNat % 64 := by rw [UInt8.toNat_mod]; rfl
theorem sh64c (c : UInt8) : (toU64 (((c % 64).toNat : Nat) : Int)).toNat = c.toNat % 64 := by
  rw [mod64c]; unfold toU64; rw [UInt64.toNat_ofNat']; omega
theorem idx_wd (s : T_glob_set) (c : UInt8) : idx ([s.a0, s.a1, s.a2, s.a3] : List UInt64) (((c / 64).toNat : Nat) : Int) = some (wd s (c.toNat / 64)) := by
  rw [idx_nat, div64c]
  have h : c.toNat / 64 < 4 := by have := u8lt c; omega
  generalize c.toNat / 64 = j at h
  match j, h with
  | 0, _ => rfl
  | 1, _ => rfl
  | 2, _ => rfl
  | 3, _ => rfl
theorem one_and (x : UInt64) : ((((x &&& (1 : UInt64)).toNat : Nat) : Int) = 1) ↔ x.toNat % 2 = 1 := by
  rw [UInt64.toNat_and, show (1 : UInt64).toNat = 1 from rfl, Nat.and_one_is_mod]; omega
theorem has_eq (s : T_glob_set) (c : UInt8) : m_glob_set_has s c = some (hasB s c) := by
  unfold m_glob_set_has hasB
  rw [quo64c, bndS, idx_wd, bndS, rem64c, bndS, sh64c]
  congr 1
  rw [Nat.testBit_eq_decide_div_mod_eq]
  refine decide_eq_decide.2 ?_
  rw [one_and, shr64_nat]
def addS (s : T_glob_set) (c : UInt8) : T_glob_set :=
  { a0 := (if (((c / 64).toNat : Nat) : Int) = 0 then (wd s (c.toNat / 64)) ||| (shl64 (1 : UInt64) ((toU64 (((c % 64).toNat : Nat) : Int)).toNat)) else s.a0)
    a1 := (if (((c / 64).toNat : Nat) : Int) = 1 then (wd s (c.toNat / 64)) ||| (shl64 (1 : UInt64) ((toU64 (((c % 64).toNat : Nat) : Int)).toNat)) else s.a1)
    a2 := (if (((c / 64).toNat : Nat) : Int) = 2 then (wd s (c.toNat / 64)) ||| (shl64 (1 : UInt64) ((toU64 (((c % 64).toNat : Nat) : Int)).toNat)) else s.a2)
    a3 := (if (((c / 64).toNat : Nat) : Int) = 3 then (wd s (c.toNat / 64)) ||| (shl64 (1 : UInt64) ((toU64 (((c % 64).toNat : Nat) : Int)).toNat)) else s.a3) }
theorem add_step {R : Type} (s : T_glob_set) (c : UInt8) (J : UInt8 → UInt64 → UInt8 → Option R) :
    ((quo8 c (64 : UInt8)).bind fun z => (idx ([s.a0, s.a1, s.a2, s.a3] : List UInt64) ((z.toNat : Nat) : Int)).bind fun w => (rem8 c (64 : UInt8)).bind fun r => J z w r) = J (c / 64) (wd s (c.toNat / 64)) (c % 64) := by
  rw [quo64c, bndS, idx_wd, bndS, rem64c, bndS]
theorem wd_add (s : T_glob_set) (c : UInt8) (j : Nat) (hj : j < 4) : wd (addS s c) j = if c.toNat / 64 = j then wd s j ||| shl64 1 (c.toNat % 64) else wd s j := by
  have h : c.toNat / 64 < 4 := by have := u8lt c; omega
  unfold addS
  simp only [div64c, sh64c]
  generalize c.toNat / 64 = i at h
  match j, hj with
  | 0, _ => match i, h with
    | 0, _ | 1, _ | 2, _ | 3, _ => simp [wd]
  | 1, _ => match i, h with
    | 0, _ | 1, _ | 2, _ | 3, _ => simp [wd]
  | 2, _ => match i, h with
    | 0, _ | 1, _ | 2, _ | 3, _ => simp [wd]
  | 3, _ => match i, h with
    | 0, _ | 1, _ | 2, _ | 3, _ => simp [wd]
theorem bit_nat {m : Nat} (h : m < 64) : (shl64 1 m).toNat = 2 ^ m := by
  rw [shl64_mod, show (1 : UInt64).toNat = 1 from rfl, Nat.one_mul, Nat.mod_eq_of_lt]
  have : (2 : Nat) ^ m ≤ 2 ^ 63 := Nat.pow_le_pow_right (by omega) (by omega)
  have e : (2 : Nat) ^ 63 < 18446744073709551616 := by decide
  omega
theorem hasB_add (s : T_glob_set) (c d : UInt8) : hasB (addS s c) d = (hasB s d || decide (d = c)) := by
  unfold hasB
  rw [wd_add s c _ (by have := u8lt d; omega)]
  by_cases h : c.toNat / 64 = d.toNat / 64
  · rw [if_pos h, UInt64.toNat_or, Nat.testBit_or, bit_nat (by omega), Nat.testBit_two_pow]
    congr 1
    refine decide_eq_decide.2 ?_
    rw [← UInt8.toNat_inj]
    omega
  · rw [if_neg h]
    have : ¬ d = c := fun hh => h (by rw [hh])
    simp [this]
def spanS : Nat → Nat → T_glob_set → T_glob_set
  | 0, _, s => s
  | m + 1, i, s => spanS m (i + 1) (addS s (UInt8.ofNat i))
theorem hasB_span (d : UInt8) : ∀ (m i : Nat) (s : T_glob_set), i + m ≤ 256 → hasB (spanS m i s) d = (hasB s d || decide (i ≤ d.toNat ∧ d.toNat < i + m))
  | 0, i, s, _ => by
    have : ¬ (i ≤ d.toNat ∧ d.toNat < i + 0) := by omega
    rw [spanS, decide_eq_false this, Bool.or_false]
  | m + 1, i, s, h => by
    rw [spanS, hasB_span d m (i + 1) _ (by omega), hasB_add, Bool.or_assoc]
    congr 1
    have e : (d = UInt8.ofNat i) ↔ d.toNat = i := by
      rw [← UInt8.toNat_inj, UInt8.toNat_ofNat']
      have : i % 2 ^ 8 = i := Nat.mod_eq_of_lt (by omega)
      rw [this]
    rw [← Bool.decide_or]
    refine decide_eq_decide.2 ?_
    rw [e]; omega
def notS (s : T_glob_set) : T_glob_set := ⟨~~~ s.a0, ~~~ s.a1, ~~~ s.a2, ~~~ s.a3⟩
theorem hasB_not (s : T_glob_set) (d : UInt8) : hasB (notS s) d = !hasB s d := by
  unfold hasB
  have h : d.toNat / 64 < 4 := by have := u8lt d; omega
  have e : wd (notS s) (d.toNat / 64) = ~~~ wd s (d.toNat / 64) := by
    unfold notS
    generalize d.toNat / 64 = i at h
    match i, h with
    | 0, _ | 1, _ | 2, _ | 3, _ => rfl
  rw [e]
  generalize wd s (d.toNat / 64) = w
  have e2 : (~~~ w).toNat = 2 ^ 64 - (w.toNat + 1) := by
    rw [UInt64.toNat_not]; have := w.toNat_lt; simp only [UInt64.size] at *; omega
  rw [e2, Nat.testBit_two_pow_sub_succ w.toNat_lt]
  have h2 : d.toNat % 64 < 64 := Nat.mod_lt _ (by omega)
  simp [h2]
def s0 : T_glob_set := ⟨0, 0, 0, 0⟩
theorem hasB_s0 (d : UInt8) : hasB s0 d = false := by
  unfold hasB
  have h : d.toNat / 64 < 4 := by have := u8lt d; omega
  have e : wd s0 (d.toNat / 64) = 0 := by
    generalize d.toNat / 64 = i at h
    match i, h with
    | 0, _ | 1, _ | 2, _ | 3, _ => rfl
  rw [e]; simp
theorem toU8_nat (i : Nat) : toU8 ((i : Nat) : Int) = UInt8.ofNat i := by
  apply UInt8.toNat_inj.1; unfold toU8; rw [UInt8.toNat_ofNat', UInt8.toNat_ofNat']; omega
abbrev Pc := T_glob_piece
theorem spanL (hi : UInt8) (j : Pc → Option (Pc × Int × T_glob_fault)) : ∀ (m n i : Nat) (y : Pc), m < n → i + m = hi.toNat + 1 → m_glob_class_L3 hi j n (i : Int) y = j ⟨y.kind, spanS m i y.set, y.plain, y.c⟩
  | 0, n + 1, i, y, _, h => by rw [m_glob_class_L3, if_neg (by omega)]; rfl
  | m + 1, n + 1, i, y, hn, h => by
    have h256 := u8lt hi
    rw [m_glob_class_L3, if_pos (by omega), jn_eq]
    refine (add_step y.set (toU8 (i : Int)) _).trans ?_
    rw [toU8_nat, W64_id (by omega) (by omega)]
    exact spanL hi j m n (i + 1) ⟨y.kind, addS y.set (UInt8.ofNat i), y.plain, y.c⟩ (by omega) (by omega)
theorem fullL (j : Pc → Option (Pc × Int × T_glob_fault)) : ∀ (m n i : Nat) (y : Pc), m < n → i + m = 256 → m_glob_next_L1 j n (i : Int) y = j ⟨y.kind, spanS m i y.set, y.plain, y.c⟩
  | 0, n + 1, i, y, _, h => by rw [m_glob_next_L1, if_neg (by simp; omega)]; rfl
  | m + 1, n + 1, i, y, hn, h => by
    rw [m_glob_next_L1, if_pos (by simp; omega), jn_eq]
    refine (add_step y.set (toU8 (i : Int)) _).trans ?_
    rw [toU8_nat, W64_id (by omega) (by omega)]
    exact fullL j m n (i + 1) ⟨y.kind, addS y.set (UInt8.ofNat i), y.plain, y.c⟩ (by omega) (by omega)
theorem notL (j : Pc → Option (Pc × Int × T_glob_fault)) (n : Nat) (y : Pc) : m_glob_class_L1 j (n + 5) 0 y = j ⟨y.kind, notS y.set, y.plain, y.c⟩ := by
  obtain ⟨k, ⟨a, b, c, d⟩, p, q⟩ := y
  rw [m_glob_class_L1, if_pos (by decide), show idx ([a, b, c, d] : List UInt64) 0 = some a from rfl, bndS, show W64 (0 + 1) = 1 by decide]
  rw [m_glob_class_L1, if_pos (by decide)]
  simp only [if_true, show ¬ (0 : Int) = 1 by decide, show ¬ (0 : Int) = 2 by decide, show ¬ (0 : Int) = 3 by decide, if_false]
  rw [show idx ([~~~ a, b, c, d] : List UInt64) 1 = some b from rfl, bndS, show W64 (1 + 1) = 2 by decide]
  rw [m_glob_class_L1, if_pos (by decide)]
  simp only [if_true, show ¬ (1 : Int) = 0 by decide, show ¬ (1 : Int) = 2 by decide, show ¬ (1 : Int) = 3 by decide, if_false]
  rw [show idx ([~~~ a, ~~~ b, c, d] : List UInt64) 2 = some c from rfl, bndS, show W64 (2 + 1) = 3 by decide]
  rw [m_glob_class_L1, if_pos (by decide)]
  simp only [if_true, show ¬ (2 : Int) = 0 by decide, show ¬ (2 : Int) = 1 by decide, show ¬ (2 : Int) = 3 by decide, if_false]
  rw [show idx ([~~~ a, ~~~ b, ~~~ c, d] : List UInt64) 3 = some d from rfl, bndS, show W64 (3 + 1) = 4 by decide]
  rw [m_glob_class_L1, if_neg (by decide)]
  simp only [if_true, show ¬ (3 : Int) = 0 by decide, show ¬ (3 : Int) = 1 by decide, show ¬ (3 : Int) = 2 by decide, if_false, notS]
end Go.Proofs.YtpcpfjpcfcbopaaDoor
