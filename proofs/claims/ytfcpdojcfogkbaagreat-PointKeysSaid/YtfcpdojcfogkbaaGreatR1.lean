/-
  Chapter 12: what a point's check tells, as plain forms; plain Lean.
-/
import Derived.Test.YtfcpdojcfogkbaaGreatQ8
import Derived.Test.YtfcpdojcfogkbaaGreatP4
set_option linter.unusedVariables false
set_option linter.unusedSimpArgs false
namespace Go.Proofs.YtfcpdojcfogkbaaGreat
open Go Go.RowKit Go.Wk
abbrev Pt := T_api_Point
def kindsB (p : Pt) : Bool := if p.Kind = 3 then decide (p.Temp = 0) else decide (1 ≤ p.Kind ∧ p.Kind ≤ 5) && decide (p.Temp = 1 ∨ p.Temp = 2)
theorem kinds_eq (p : Pt) : m_point_kinds p = some (kindsB p) := by
  unfold m_point_kinds kindsB
  rw [jn_eq]
  by_cases h3 : p.Kind = 3
  · rw [if_pos h3, if_pos h3]
  · rw [if_neg h3, if_neg h3]
    by_cases h1 : p.Kind = 1
    · simp [h1]
    · by_cases h2 : p.Kind = 2
      · simp [h2]
      · by_cases h4 : p.Kind = 4
        · simp [h4]
        · by_cases h5 : p.Kind = 5
          · simp [h5]
          · have : ¬ (1 ≤ p.Kind ∧ p.Kind ≤ 5) := by omega
            simp [h1, h2, h4, h5, this]
def timesB (p : Pt) : Bool := decide (0 ≤ p.Start ∧ p.Time ≤ 4503599627370496 ∧ (if p.Kind = 3 then p.Start = p.Time else p.Start < p.Time))
theorem times_eq (p : Pt) : m_point_times p = some (timesB p) := by
  unfold m_point_times timesB
  by_cases h : p.Start < 0 ∨ p.Time > 4503599627370496
  · rw [if_pos h]; congr 1; symm; rw [decide_eq_false_iff_not]; omega
  · rw [if_neg h]
    split <;> (congr 1; apply decide_eq_decide.2; omega)
def bareB (h : T_api_Hist) : Bool := decide (h.Scale = 0 ∧ h.Zero = 0 ∧ h.Pos.Offset = 0 ∧ h.Neg.Offset = 0 ∧ h.Pos.Counts = [] ∧ h.Neg.Counts = [])
theorem u64z (x : UInt64) : ((x.toNat : Nat) : Int) = 0 ↔ x = 0 := by
  constructor
  · intro h; apply UInt64.toNat_inj.1; simp; omega
  · rintro rfl; rfl
theorem bare_eq (h : T_api_Hist) (h1 : h.Pos.Counts.length ≤ 1000000) (h2 : h.Neg.Counts.length ≤ 1000000) : m_point_bare h = some (bareB h) := by
  unfold m_point_bare bareB
  rw [jn_eq, W64_id (by omega) (by omega)]
  simp only [u64z]
  have e : ((h.Pos.Counts.length : Int) + (h.Neg.Counts.length : Int) = 0) ↔ h.Pos.Counts = [] ∧ h.Neg.Counts = [] := by
    rw [← List.length_eq_zero_iff, ← List.length_eq_zero_iff]; omega
  simp only [e]
  split
  · rename_i hh; congr 1; apply decide_eq_decide.2; simp [hh]
  · rename_i hh; congr 1; symm; rw [decide_eq_false_iff_not]; intro hc; exact hh ⟨⟨⟨hc.1, hc.2.1⟩, hc.2.2.1⟩, hc.2.2.2.1⟩
def ownB (p : Pt) : Bool := decide ((p.Kind ≠ 1 → p.Int_ = 0) ∧ (¬ (p.Kind = 2 ∨ p.Kind = 3 ∨ p.Kind = 5) → p.Re = 0) ∧ (p.Kind ≠ 5 → p.Im = 0) ∧ (p.Kind ≠ 4 → bareB p.Hist = true) ∧ 0 ≤ p.Flags ∧ p.Flags ≤ 31)
theorem own_eq (p : Pt) (h1 : p.Hist.Pos.Counts.length ≤ 1000000) (h2 : p.Hist.Neg.Counts.length ≤ 1000000) : m_point_own p = some (ownB p) := by
  unfold m_point_own ownB
  rw [jn_eq, bare_eq _ h1 h2, jn_eq]
  simp only [u64z, ne_eq]
  by_cases a1 : ¬ p.Kind = 1 ∧ ¬ p.Int_ = 0
  · rw [if_pos a1, decide_eq_true a1, if_pos rfl]; congr 1; symm; rw [decide_eq_false_iff_not]; intro hc; exact a1.2 (hc.1 a1.1)
  · rw [if_neg a1]
    by_cases a2 : (¬ ((p.Kind = 2 ∨ p.Kind = 3) ∨ p.Kind = 5)) ∧ ¬ p.Re = 0
    · rw [if_pos a2, decide_eq_true a2, if_pos rfl]; congr 1; symm; rw [decide_eq_false_iff_not]; intro hc; exact a2.2 (hc.2.1 (by intro h; exact a2.1 (by omega)))
    · rw [if_neg a2]
      by_cases a3 : ¬ p.Kind = 5 ∧ ¬ p.Im = 0
      · rw [if_pos a3, decide_eq_true a3, if_pos rfl]; congr 1; symm; rw [decide_eq_false_iff_not]; intro hc; exact a3.2 (hc.2.2.1 a3.1)
      · rw [if_neg a3]
        have b1 : ¬ p.Kind = 1 → p.Int_ = 0 := fun h => Classical.byContradiction fun h' => a1 ⟨h, h'⟩
        have b2 : ¬ (p.Kind = 2 ∨ p.Kind = 3 ∨ p.Kind = 5) → p.Re = 0 := fun h => Classical.byContradiction fun h' => a2 ⟨by omega, h'⟩
        have b3 : ¬ p.Kind = 5 → p.Im = 0 := fun h => Classical.byContradiction fun h' => a3 ⟨h, h'⟩
        by_cases a4 : p.Kind = 4
        · rw [if_neg (by simpa using a4)]
          simp only [Bool.false_eq_true, if_false]
          by_cases a5 : p.Flags < 0 ∨ p.Flags > 31
          · rw [decide_eq_true a5, if_pos rfl]; congr 1; symm; rw [decide_eq_false_iff_not]; omega
          · rw [decide_eq_false a5]; simp only [Bool.false_eq_true, if_false]; congr 1; symm; rw [decide_eq_true_iff]; exact ⟨b1, b2, b3, fun h => (h a4).elim, by omega, by omega⟩
        · rw [if_pos a4, bndS]
          cases hb : bareB p.Hist with
          | false => simp only [Bool.not_false, if_true]; congr 1; symm; rw [decide_eq_false_iff_not]; intro hc; have := hc.2.2.2.1 a4; cases this
          | true =>
            simp only [Bool.not_true, Bool.false_eq_true, if_false]
            by_cases a5 : p.Flags < 0 ∨ p.Flags > 31
            · rw [decide_eq_true a5, if_pos rfl]; congr 1; symm; rw [decide_eq_false_iff_not]; omega
            · rw [decide_eq_false a5]; simp only [Bool.false_eq_true, if_false]; congr 1; symm; rw [decide_eq_true_iff]; exact ⟨b1, b2, b3, fun _ => by first | rfl | trivial, by omega, by omega⟩
end Go.Proofs.YtfcpdojcfogkbaaGreat
