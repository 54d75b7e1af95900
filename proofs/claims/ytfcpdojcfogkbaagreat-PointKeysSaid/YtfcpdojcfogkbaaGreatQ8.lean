/-
  The laws LabelBack and LabelMatches, as plain forms; plain Lean.
-/
import Derived.Test.YtfcpdojcfogkbaaGreatQ7
set_option linter.unusedVariables false
set_option linter.unusedSimpArgs false
namespace Go.Proofs.YtfcpdojcfogkbaaGreat
open Go Go.RowKit Go.Wk
theorem light_len {l : List Pr} (h : light l = true) : l.length ≤ 20 := by unfold light at h; simp at h; exact h.1
theorem text_len {name : Txt} {l : List Pr} (h : check name l = 0) : (name ++ texts (srt l)).length ≤ 32 + 66 * 4 := by
  obtain ⟨h1, h2, h3⟩ := check_ok h
  have := nameB_len h1
  have ht : ∀ m : List Pr, (∀ a ∈ m, a.Key.length ≤ 32 ∧ a.Val.length ≤ 32) → (texts m).length ≤ 66 * m.length := by
    intro m
    induction m with
    | nil => intro _; simp [texts]
    | cons a m ih => intro hm; have := ih fun b hb => hm b (by simp [hb]); have := hm a (by simp); rw [texts_cons, List.length_append, at1_len, List.length_cons]; omega
  have hs := (chk_iff _ _).1 (chk_srt h3)
  have := ht (srt l) fun a ha => ⟨nameB_len (hs.1 a ha).1, valB_len (hs.1 a ha).2⟩
  rw [srt_len] at this
  rw [List.length_append]; omega
theorem same_srt {l1 l2 : List Pr} (h1 : chk [] l1 = 0) (h2 : chk [] l2 = 0) (h12 : ∀ a ∈ l2, a ∈ l1) (h21 : ∀ a ∈ l1, a ∈ l2) : srt l1 = srt l2 := by
  have d1 := ((chk_iff _ _).1 h1).2.2
  have d2 := ((chk_iff _ _).1 h2).2.2
  have nd : ∀ {l : List Pr}, l.Pairwise (fun a b => a.Key ≠ b.Key) → l.Nodup := fun h => h.imp fun h e => h (by rw [e])
  have hp : l1.Perm l2 := (List.perm_ext_iff_of_nodup (nd d1) (nd d2)).2 fun a => ⟨h21 a, h12 a⟩
  refine List.Perm.eq_of_pairwise ?_ (srt_le l1) (srt_le l2) (((srt_perm l1).trans hp).trans (srt_perm l2).symm)
  intro a b ha hb hab hba
  have hk := le_anti hab hba
  have ha := (srt_mem a l1).1 ha
  have hb := h12 b ((srt_mem b l2).1 hb)
  exact List.Pairwise.forall_of_forall_of_flip (R := fun a b : Pr => a.Key = b.Key → a = b) (fun _ _ _ => rfl) (d1.imp fun h e => absurd e h) (d1.imp fun h e => absurd e.symm h) ha hb hk
end Go.Proofs.YtfcpdojcfogkbaaGreat
