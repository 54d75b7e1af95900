/-
  Chapter 18: the laws DiskPlays, DiskSure and DiskMost; plain Lean.
-/
import Derived.Test.YtboelmiicbcjiaaQ5
namespace Go.Proofs.Ytboelmiicbcjiaa
open Go Go.RowKit Go.Wk
theorem awake_eq : m_limnographlaw18_awake = some true := by
  unfold m_limnographlaw18_awake
  decide +kernel
theorem plays_law (x0 : List T_api_File) (x1 : Int) (x2 : List Act) {p : Prop} (_ : p) (k1 : (Lit.int .i64 x1).wf = true)
    (k2 : x2.length ≤ maxLen ∧ ∀ z ∈ x2, ((Lit.int .i64 z.Kind).wf = true) ∧ (z.A.length ≤ maxLen) ∧ (z.B.length ≤ maxLen) ∧ ((Lit.int .i64 z.N).wf = true) ∧ ((Lit.int .i64 z.Code).wf = true) ∧ (z.Keep.length ≤ maxLen ∧ ∀ y ∈ z.Keep, (Lit.int .i64 y).wf = true)) :
    m_limnographlaw18_DiskPlays x0 x1 x2 = some true := by
  unfold m_limnographlaw18_DiskPlays
  rw [awake_eq, bndS, if_neg (by simp)]
  obtain ⟨n, hn⟩ := bulk_some x0
  rw [hn, bndS, jn_eq]
  by_cases hb : (n > 3000) ∨ ((x0.length : Int) > 30)
  · rw [if_pos hb]; rfl
  rw [if_neg hb]
  obtain ⟨b, hfe, hf⟩ := few_eq x2
  rw [hfe, bndS]
  cases b with
  | false => rfl
  | true =>
    obtain ⟨f1, f2⟩ := hf rfl
    dsimp only
    rw [if_neg (by simp)]
    unfold m_disk_New
    rw [if_pos (by omega), bndS]
    rcases new_eq x0 x1 (by omega) with ⟨h1, h2⟩ | ⟨s, d, h1, h2, h3, h4⟩
    · rw [h1, h2]; rfl
    · rw [h1, h2, bndS]
      simp only [jn_eq, Option.isNone_some, bndS]
      rw [if_neg (by simp), if_neg (by simp), same_eq h3, bndS, if_neg (by simp), m_limnographlaw18_DiskPlays_L1_scan _ _ _ _ _ (by omega)]
      refine scanL_post (fun p st => ∃ c, c ≤ p.length ∧ Rel c st.1 st.2 ∧ (st.1.cap : Int) = x1) (fun _ _ r => r = some true) ⟨0, Nat.le_refl _, h3, h4⟩ (fun _ _ => rfl) ?_
      rintro p a q st k hp ⟨c, g1, g2, g3⟩ hk
      have ha : a ∈ x2 := by rw [← hp]; simp
      have hpl : p.length < x2.length := by rw [← hp]; simp
      obtain ⟨l1, l2, l3⟩ := f2 a ha
      obtain ⟨d', q1, q2⟩ := do_eq g2 g2 (by omega) (wf64 (k2.2 a ha).2.2.2.1).2 l2 l3
      rw [bndS, q1, bndS, decide_eq_true rfl]
      simp only [jn_eq]
      rw [if_neg (show ¬ ((!true) = true) by simp), same_eq q2, bndS, if_neg (show ¬ ((!true) = true) by simp), used_m q2, bndS]
      have hcap := stepE_cap st.1 a
      have hu := q2.used
      rw [decide_eq_false (by split <;> omega), if_neg (by simp)]
      exact hk _ ⟨c + 1, by rw [List.length_append, List.length_singleton]; omega, q2, by rw [hcap]; exact g3⟩
end Go.Proofs.Ytboelmiicbcjiaa
