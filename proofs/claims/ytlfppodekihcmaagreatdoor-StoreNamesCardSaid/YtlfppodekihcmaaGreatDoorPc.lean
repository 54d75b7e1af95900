/-
  Fixed numbers as eight bytes, and what a reader of bytes does. Plain Lean.
-/
import Derived.Test.YtlfppodekihcmaaGreatDoorPb
set_option linter.unusedVariables false
set_option linter.unusedSimpArgs false
namespace Go.Wk
open Go Go.RowKit
/-- The number of bytes, the low ones first. -/
def numL : List UInt8 → Nat
  | [] => 0
  | a :: r => a.toNat + 256 * numL r
theorem numL_append : ∀ (l : List UInt8) (a : UInt8), numL (l ++ [a]) = numL l + a.toNat * 256 ^ l.length
  | [], a => by simp [numL]
  | b :: r, a => by
    simp only [List.cons_append, numL, numL_append r a, List.length_cons, Nat.pow_succ]
    rw [Nat.mul_add, Nat.mul_left_comm, Nat.mul_comm 256 (256 ^ _), Nat.add_assoc]
theorem numL_lt : ∀ (l : List UInt8), numL l < 256 ^ l.length
  | [] => by simp [numL]
  | a :: r => by
    have := numL_lt r
    have := a.toNat_lt
    simp only [numL, List.length_cons, Nat.pow_succ]; omega
theorem numL_lt8 (l : List UInt8) (h : l.length ≤ 8) : numL l < 18446744073709551616 := Nat.lt_of_lt_of_le (numL_lt l) (Nat.le_trans (Nat.pow_le_pow_right (by omega) h) (by decide))
theorem numL_drop (l : List UInt8) (i : Nat) (z : UInt8) (h : l[i]? = some z) : numL (l.drop i) = z.toNat + 256 * numL (l.drop (i + 1)) := by
  have hi : i < l.length := lt_of_get h
  rw [List.drop_eq_getElem_cons hi]
  have : l[i] = z := by rw [List.getElem?_eq_getElem hi] at h; exact Option.some.inj h
  rw [this]; rfl
theorem shl_or64 (a b : UInt64) (k : Nat) (hk : k < 64) (ha : a.toNat < 2 ^ k) (hb : b.toNat * 2 ^ k < 18446744073709551616) : (a ||| b <<< UInt64.ofNat k).toNat = a.toNat + b.toNat * 2 ^ k := by
  rw [UInt64.toNat_or, UInt64.toNat_shiftLeft]
  have h1 : (UInt64.ofNat k).toNat % 64 = k := by rw [UInt64.toNat_ofNat']; omega
  rw [h1]
  have h2 : b.toNat <<< k % 2 ^ 64 = b.toNat <<< k := by rw [Nat.shiftLeft_eq]; omega
  rw [h2, Nat.or_comm, ← Nat.shiftLeft_add_eq_or_of_lt ha, Nat.shiftLeft_eq]
  omega
/-- One round of taking a fixed number. -/
theorem fix_step (l : List UInt8) (i : Nat) (z : UInt8) (hi : i < 8) (h : l[i]? = some z) : UInt64.ofNat (numL (l.take i)) ||| z.toUInt64 <<< UInt64.ofNat (8 * i) = UInt64.ofNat (numL (l.take (i + 1))) := by
  have hlt := lt_of_get h
  have hl : (l.take i).length = i := by rw [List.length_take]; omega
  have h1 : numL (l.take i) < 2 ^ (8 * i) := by
    have := numL_lt (l.take i)
    rw [hl, show (256 : Nat) = 2 ^ 8 from rfl, ← Nat.pow_mul] at this
    exact this
  have hz := z.toNat_lt
  have hp : 2 ^ (8 * i) ≤ 2 ^ 56 := Nat.pow_le_pow_right (by omega) (by omega)
  have hzp : z.toNat * 2 ^ (8 * i) ≤ 255 * 2 ^ 56 := Nat.mul_le_mul (by omega) hp
  have ht : (UInt64.ofNat (numL (l.take i))).toNat = numL (l.take i) := by rw [UInt64.toNat_ofNat', Nat.mod_eq_of_lt]; omega
  have ez : z.toUInt64.toNat = z.toNat := by simp
  apply UInt64.toNat_inj.1
  rw [shl_or64 _ _ _ (by omega) (by rw [ht]; exact h1) (by rw [ez]; omega), ht, ez, UInt64.toNat_ofNat', List.take_add_one, h]
  show _ = numL (l.take i ++ [z]) % _
  rw [numL_append, hl, show (256 : Nat) = 2 ^ 8 from rfl, ← Nat.pow_mul, Nat.mod_eq_of_lt]
  omega
/-- A reader: its bytes, the place, the error. -/
structure RS where
  l : List UInt8
  p : Nat
  e : Nat
def RS.fail (s : RS) (e : Nat) : RS := if s.e = 0 then { s with e := e } else s
/-- Taking bytes. -/
def RS.raw (s : RS) (n : Int) : List UInt8 × RS :=
  if s.e ≠ 0 then ([], s) else if n < 0 then ([], s.fail 1) else if n > s.l.length - s.p then ([], s.fail 2)
  else ((s.l.take (s.p + n.toNat)).drop s.p, { s with p := s.p + n.toNat })
def RS.fix (s : RS) : Nat × RS := (numL (s.raw 8).1, (s.raw 8).2)
def RS.done (s : RS) : Nat := if s.e = 0 ∧ s.l.length > s.p then 3 else s.e
def RS.ok (s : RS) : Prop := s.p ≤ s.l.length ∧ s.l.length ≤ 4294967296 ∧ s.e < 1000
theorem RS.raw_ok (s : RS) (n : Int) (h : s.ok) : (s.raw n).2.ok := by
  obtain ⟨h1, h2, h3⟩ := h
  unfold RS.raw RS.fail
  split
  · exact ⟨h1, h2, h3⟩
  · split
    · split <;> exact ⟨h1, h2, by first | exact h3 | exact (show 1 < 1000 by decide) | exact (show 2 < 1000 by decide)⟩
    · split
      · split <;> exact ⟨h1, h2, by first | exact h3 | exact (show 1 < 1000 by decide) | exact (show 2 < 1000 by decide)⟩
      · exact ⟨by show s.p + n.toNat ≤ s.l.length; omega, h2, h3⟩
theorem RS.raw_len (s : RS) (n : Int) (h : s.ok) : (s.raw n).1.length ≤ n.toNat := by
  obtain ⟨h1, h2, h3⟩ := h
  unfold RS.raw
  split
  · simp
  · split
    · simp
    · split
      · simp
      · simp only [List.length_drop, List.length_take]; omega
end Go.Wk
namespace Go.Wk
/-- A fixed number's bytes. -/
def fix8 (v : UInt64) : List UInt8 := (List.range 8).map fun i => (v >>> UInt64.ofNat (8 * i)).toUInt8
theorem fix8_take (v : UInt64) (i : Nat) (hi : i < 8) : (fix8 v).take (i + 1) = (fix8 v).take i ++ [(v >>> UInt64.ofNat (8 * i)).toUInt8] := by
  rw [List.take_add_one]
  unfold fix8
  simp [hi]
@[simp] theorem fix8_length (v : UInt64) : (fix8 v).length = 8 := rfl
end Go.Wk
