/-
  Chapter 12: what a histogram's check and a point's check tell, as plain forms; plain Lean.
-/
import Derived.Test.YtfcpdojcfogkbaaGreatR1
set_option linter.unusedVariables false
set_option linter.unusedSimpArgs false
namespace Go.Proofs.YtfcpdojcfogkbaaGreat
open Go Go.RowKit Go.Wk
def sideOk (s : T_api_Side) : Prop := s.Counts.length ≤ 160 ∧ -1073741824 ≤ s.Offset ∧ s.Offset ≤ 1073741824 ∧ (s.Counts = [] → s.Offset = 0)
theorem hcheck_ok (s : T_api_Side) : ∃ e, m_hist_check s = some e ∧ (e = 0 → sideOk s) := by
  unfold m_hist_check
  by_cases h1 : (s.Counts.length : Int) > 160
  · rw [if_pos h1]; exact ⟨4, rfl, fun h => absurd h (by decide)⟩
  rw [if_neg h1]
  by_cases h2 : (s.Counts.length : Int) = 0 ∧ s.Offset ≠ 0
  · rw [if_pos h2]; exact ⟨3, rfl, fun h => absurd h (by decide)⟩
  rw [if_neg h2]
  by_cases h3 : (s.Counts.length : Int) = 0
  · rw [if_pos h3]
    have h4 : s.Offset = 0 := Classical.byContradiction fun h => h2 ⟨h3, h⟩
    exact ⟨0, rfl, fun _ => ⟨by omega, by omega, by omega, fun _ => h4⟩⟩
  rw [if_neg h3]
  obtain ⟨x, hx⟩ := idx_lt (l := s.Counts) (i := 0) (by omega) (by omega)
  have hne : s.Counts ≠ [] := by intro h; rw [h] at h3; simp at h3
  rw [hx, bndS]
  refine jn_ind (fun o : Option Int => ∃ e, o = some e ∧ (e = 0 → sideOk s)) (fun j => ∀ b, ∃ e, j b = some e ∧ (e = 0 → sideOk s)) (fun b => ?_) fun j hj => ?_
  · cases b with
    | true => exact ⟨3, rfl, fun h => absurd h (by decide)⟩
    | false =>
      simp only [Bool.false_eq_true, if_false]
      rw [jn_eq, W64_id (z := (s.Counts.length : Int) - 1) (by omega) (by omega), W64_id (by omega) (by omega)]
      by_cases h5 : s.Offset < -1073741824
      · rw [if_pos h5]; exact ⟨1, rfl, fun h => absurd h (by decide)⟩
      · rw [if_neg h5]
        by_cases h6 : s.Offset > 1073741824 - ((s.Counts.length : Int) - 1)
        · rw [decide_eq_true h6]; exact ⟨1, rfl, fun h => absurd h (by decide)⟩
        · rw [decide_eq_false h6]; exact ⟨0, rfl, fun _ => ⟨by omega, by omega, by omega, fun h => (hne h).elim⟩⟩
  · by_cases h4 : ((x.toNat : Nat) : Int) = 0
    · rw [if_pos h4]; exact hj true
    · rw [if_neg h4, W64_id (by omega) (by omega)]
      obtain ⟨y, hy⟩ := idx_lt (l := s.Counts) (i := (s.Counts.length : Int) - 1) (by omega) (by omega)
      rw [hy, bndS]; exact hj _
theorem totL2 (z : T_api_Side) (j : UInt64 → UInt64 → Option (UInt64 × Bool)) (hj : ∀ a b, ∃ r, j a b = some r) (h : z.Counts.length ≤ 1000000) (a b : UInt64) : ∃ r, m_hist_Total_L2 z j fuel a b 0 = some r := by
  rw [m_hist_Total_L2_scan _ _ _ _ (by omega), scanL_fold (fun (s : UInt64 × UInt64) x => (s.1 + x, s.2 ||| cry s.1 x)) (fun i x s k _ => by rw [bndS])]
  exact hj _ _
theorem total_ok (h : T_api_Hist) (h1 : h.Pos.Counts.length ≤ 1000000) (h2 : h.Neg.Counts.length ≤ 1000000) : ∃ r, m_hist_Total h = some r := by
  unfold m_hist_Total m_hist_sides
  rw [bndS]
  refine jn_ind (fun o : Option (UInt64 × Bool) => ∃ r, o = some r) (fun j => ∀ a b, ∃ r, j a b = some r) (fun a b => ?_) fun j hj => ?_
  · split <;> exact ⟨_, rfl⟩
  · obtain ⟨m, hm⟩ := fuelS 3 (by omega)
    rw [hm, m_hist_Total_L1, if_pos (by omega), show idx [h.Pos, h.Neg] 0 = some h.Pos from rfl, bndS]
    refine jn_ind (fun o : Option (UInt64 × Bool) => ∃ r, o = some r) (fun j => ∀ a b, ∃ r, j a b = some r) (fun a b => ?_) fun j' hj' => ?_
    · rw [W64_id (by omega) (by omega), show (0 : Int) + 1 = 1 from rfl, m_hist_Total_L1, if_pos (by omega), show idx [h.Pos, h.Neg] 1 = some h.Neg from rfl, bndS]
      refine jn_ind (fun o : Option (UInt64 × Bool) => ∃ r, o = some r) (fun j => ∀ a b, ∃ r, j a b = some r) (fun a b => ?_) fun j' hj' => ?_
      · rw [W64_id (by omega) (by omega), show (1 : Int) + 1 = 2 from rfl, m_hist_Total_L1, if_neg (by omega)]
        exact hj _ _
      · exact totL2 _ _ hj' h2 _ _
    · exact totL2 _ _ hj' h1 _ _
def hcheckOk (h : T_api_Hist) : Prop := -10 ≤ h.Scale ∧ h.Scale ≤ 20 ∧ sideOk h.Pos ∧ sideOk h.Neg
theorem hc_ok (h : T_api_Hist) (h1 : h.Pos.Counts.length ≤ 1000000) (h2 : h.Neg.Counts.length ≤ 1000000) : ∃ e, m_hist_Check h = some e ∧ (e = 0 → hcheckOk h) := by
  unfold m_hist_Check m_hist_sides
  by_cases hs : h.Scale < -10 ∨ h.Scale > 20
  · rw [if_pos hs]; exact ⟨1, rfl, fun h => absurd h (by decide)⟩
  rw [if_neg hs, bndS]
  obtain ⟨e1, he1, o1⟩ := hcheck_ok h.Pos
  obtain ⟨e2, he2, o2⟩ := hcheck_ok h.Neg
  obtain ⟨t, ht⟩ := total_ok h h1 h2
  rw [jn_eq]
  obtain ⟨m, hm⟩ := fuelS 3 (by omega)
  rw [hm, m_hist_Check_L1, if_pos (by omega), show idx [h.Pos, h.Neg] 0 = some h.Pos from rfl, bndS, he1, bndS]
  by_cases c1 : e1 ≠ 0
  · rw [if_pos c1]; exact ⟨e1, rfl, fun h => (c1 h).elim⟩
  rw [if_neg c1, W64_id (by omega) (by omega), show (0 : Int) + 1 = 1 from rfl, m_hist_Check_L1, if_pos (by omega), show idx [h.Pos, h.Neg] 1 = some h.Neg from rfl, bndS, he2, bndS]
  by_cases c2 : e2 ≠ 0
  · rw [if_pos c2]; exact ⟨e2, rfl, fun h => (c2 h).elim⟩
  rw [if_neg c2, W64_id (by omega) (by omega), show (1 : Int) + 1 = 2 from rfl, m_hist_Check_L1, if_neg (by omega), ht, bndS]
  split
  · exact ⟨4, rfl, fun h => absurd h (by decide)⟩
  · exact ⟨0, rfl, fun _ => ⟨by omega, by omega, o1 (by omega), o2 (by omega)⟩⟩
/-- What a right point keeps to. -/
def ptOk (p : Pt) : Prop := check p.Name p.Attrs = 0 ∧ kindsB p = true ∧ timesB p = true ∧ ownB p = true ∧ (p.Kind = 4 → hcheckOk p.Hist)
theorem pcheck_ok (p : Pt) (h1 : p.Hist.Pos.Counts.length ≤ 1000000) (h2 : p.Hist.Neg.Counts.length ≤ 1000000) : ∃ e, m_point_Check p = some e ∧ (e = 0 → ptOk p) := by
  unfold m_point_Check
  rw [check_eq, bndS]
  by_cases c : check p.Name p.Attrs ≠ 0
  · rw [if_pos c]; exact ⟨_, rfl, fun h => (c h).elim⟩
  rw [if_neg c, kinds_eq, bndS]
  cases hk : kindsB p with
  | false => exact ⟨14, rfl, fun h => absurd h (by decide)⟩
  | true =>
    simp only [Bool.not_true, Bool.false_eq_true, if_false]
    have key : ∀ b : Bool, ∃ e, ((m_point_times p).bind fun _ => some (0 : Int)) = some e := fun b => by rw [times_eq]; exact ⟨_, rfl⟩
    refine jn_ind (fun o : Option Int => ∃ e, o = some e ∧ (e = 0 → ptOk p)) (fun j => ∀ b, ∃ e, j b = some e ∧ (e = 0 → ptOk p)) (fun b => ?_) fun j hj => ?_
    · refine jn_ind (fun o : Option Int => ∃ e, o = some e ∧ (e = 0 → ptOk p)) (fun j => j true = some 1 ∧ (timesB p = true → ∃ e, j false = some e ∧ (e = 0 → ptOk p))) ⟨rfl, fun ht => ?_⟩ fun j hj => ?_
      · simp only [Bool.false_eq_true, if_false]
        rw [own_eq p h1 h2, bndS]
        cases ho : ownB p with
        | false => exact ⟨3, rfl, fun h => absurd h (by decide)⟩
        | true =>
          simp only [Bool.not_true, Bool.false_eq_true, if_false]
          have hok : (p.Kind = 4 → hcheckOk p.Hist) → ptOk p := fun h => ⟨by omega, hk, ht, ho, h⟩
          refine jn_ind (fun o : Option Int => ∃ e, o = some e ∧ (e = 0 → ptOk p)) (fun j => ∀ b, ∃ e, j b = some e ∧ (e = 0 → ptOk p)) (fun b => ?_) fun j hj => ?_
          · cases b with
            | true => exact ⟨11, rfl, fun h => absurd h (by decide)⟩
            | false =>
              simp only [Bool.false_eq_true, if_false]
              refine jn_ind (fun o : Option Int => ∃ e, o = some e ∧ (e = 0 → ptOk p)) (fun j => ∀ b, ∃ e, j b = some e ∧ (e = 0 → ptOk p)) (fun b => ?_) fun j hj => ?_
              · cases b with
                | true => exact ⟨1, rfl, fun h => absurd h (by decide)⟩
                | false =>
                  simp only [Bool.false_eq_true, if_false]
                  by_cases h4 : p.Kind = 4
                  · rw [if_pos h4]
                    obtain ⟨e, he, ok⟩ := hc_ok p.Hist h1 h2
                    rw [he, bndS]; exact ⟨e, rfl, fun h => hok fun _ => ok h⟩
                  · rw [if_neg h4]; exact ⟨0, rfl, fun _ => hok fun h => (h4 h).elim⟩
              · split
                · rw [jn_eq]
                  split
                  · exact hj _
                  · unfold m_num_Less m_num_of
                    simp only [bndS]; exact hj _
                · exact hj _
          · split
            · unfold m_num_Finite; rw [bndS]; exact hj _
            · exact hj _
      · cases b with
        | true => rw [if_pos rfl]; exact ⟨1, hj.1, fun h => absurd h (by decide)⟩
        | false =>
          simp only [Bool.false_eq_true, if_false]
          rw [times_eq, bndS]
          cases ht : timesB p with
          | false => exact ⟨1, hj.1, fun h => absurd h (by decide)⟩
          | true => exact hj.2 ht
    · split
      · unfold m_point_sum; rw [bndS]; exact hj _
      · exact hj _
end Go.Proofs.YtfcpdojcfogkbaaGreat
