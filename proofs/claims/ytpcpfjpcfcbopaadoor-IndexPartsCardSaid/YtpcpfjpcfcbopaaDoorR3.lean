/-
  Chapter 35: the law IndexRows holds, as plain forms; plain Lean.
-/
import Derived.Test.YtpcpfjpcfcbopaaDoorR2
set_option linter.unusedVariables false
set_option linter.unusedSimpArgs false
namespace Go.Proofs.YtpcpfjpcfcbopaaDoor
open Go Go.RowKit Go.Wk
theorem awake_eq : m_limnographlaw35_awake = some true := by decide +kernel
theorem rowB_asc {l : List Int} : rowB none l = true ↔ Asc l ∧ ∀ x ∈ l, 0 ≤ x := by rw [rowB_iff]; simp
theorem mg_row {K : Bool → Bool → Bool} {a b : List Int} (ha : rowB none a = true) (hb : rowB none b = true) : rowB none (mgE K a b) = true := by
  obtain ⟨h1, h2⟩ := rowB_asc.1 ha
  obtain ⟨h3, h4⟩ := rowB_asc.1 hb
  exact rowB_asc.2 ⟨mg_asc a b h1 h3, fun x hx => (mg_sub x a b hx).elim (h2 x) (h4 x)⟩
theorem mg_in {K : Bool → Bool → Bool} {a b : List Int} (ha : rowB none a = true) (hb : rowB none b = true) (z : Int) : inB z (mgE K a b) = ((inB z a || inB z b) && K (inB z a) (inB z b)) := by
  have h := mg_mem (K := K) z a b (rowB_asc.1 ha).1 (rowB_asc.1 hb).1
  by_cases hz : z ∈ mgE K a b
  · obtain ⟨h1, h2⟩ := h.1 hz
    rw [h2, show inB z (mgE K a b) = true from decide_eq_true hz, Bool.and_true]
    rcases h1 with h1 | h1
    · rw [show inB z a = true from decide_eq_true h1]; rfl
    · rw [show inB z b = true from decide_eq_true h1]; simp
  · rw [show inB z (mgE K a b) = false from decide_eq_false hz]
    cases hh : ((inB z a || inB z b) && K (inB z a) (inB z b)) with
    | false => rfl
    | true =>
      rw [Bool.and_eq_true, Bool.or_eq_true] at hh
      exact (hz (h.2 ⟨hh.1.imp of_decide_eq_true of_decide_eq_true, hh.2⟩)).elim
theorem rows_law (x0 x1 : List Int) (x2 : Int) : m_limnographlaw35_IndexRows x0 x1 x2 = some true := by
  unfold m_limnographlaw35_IndexRows
  rw [awake_eq, bndS, if_neg (by decide)]
  by_cases hl : ((x0.length : Int) > 60) ∨ ((x1.length : Int) > 60)
  · rw [if_pos hl]
  rw [if_neg hl, ixAnd_eq (by omega), bndS, ixOr_eq (by omega), bndS, ixLess_eq (by omega), bndS, ref_row (by omega), bndS, jn_eq]
  obtain ⟨l1, l2⟩ := mg_len x0 x1
  have l3 : (mgE kAnd x0 x1).length ≤ 60 := by omega
  have l4 : (mgE kLess x0 x1).length ≤ 60 := by omega
  have l5 : (mgE kOr x0 x1).length ≤ 120 := by omega
  cases h0 : rowB none x0 with
  | false => rfl
  | true =>
    rw [if_neg (by decide), ref_row (by omega), bndS]
    cases h1 : rowB none x1 with
    | false => rfl
    | true =>
      simp only [Bool.not_true, Bool.false_eq_true, if_false]
      rw [ref_row (by omega), bndS, ref_row (by omega), ref_row (by omega)]
      simp only [jn_eq, bndS, mg_row h0 h1, Bool.not_true, Bool.false_eq_true, if_false]
      rw [W64_id (by omega) (by omega), W64_id (by omega) (by omega)]
      rw [decide_eq_false (by omega : ¬ (((mgE kAnd x0 x1).length : Int) + ((mgE kLess x0 x1).length : Int) ≠ (x0.length : Int)))]
      rw [decide_eq_false (by omega : ¬ ((mgE kOr x0 x1).length : Int) ≠ ((mgE kLess x0 x1).length : Int) + (x1.length : Int))]
      rw [if_neg (by decide), if_neg (by decide), app_some (by simp; omega), bndS, app_some (by simp; omega), bndS, m_limnographlaw35_IndexRows_L1_scan _ _ _ _ _ _ _ (by simp; omega)]
      refine Eq.trans (scanL_all (fun _ => true) none fun i x k _ => ?_) (by simp)
      simp only [bndS, jn_eq]
      rw [ref_in (by omega), bndS, ref_in (by omega), bndS, ref_in (by omega), bndS, ref_in (by omega), bndS, ref_in (by omega), bndS]
      rw [mg_in h0 h1, mg_in h0 h1, mg_in h0 h1]
      cases inB x x0 <;> cases inB x x1 <;> rfl
end Go.Proofs.YtpcpfjpcfcbopaaDoor
