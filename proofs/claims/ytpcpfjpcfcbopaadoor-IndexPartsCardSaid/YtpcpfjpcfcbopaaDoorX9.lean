/-
  Chapter 35: the law IndexParts holds, as plain forms; plain Lean.
-/
import Derived.Test.YtpcpfjpcfcbopaaDoorX8
set_option linter.unusedVariables false
set_option linter.unusedSimpArgs false
namespace Go.Proofs.YtpcpfjpcfcbopaaDoor
open Go Go.RowKit Go.Wk
theorem firstE_app (a b : List Mt) : firstE 0 (a ++ b) = none ↔ firstE 0 a = none ∧ firstE 0 b = none := by
  rw [firstE_none, firstE_none, firstE_none]
  constructor
  · intro h; exact ⟨fun m hm => h m (by simp [hm]), fun m hm => h m (by simp [hm])⟩
  · rintro ⟨h1, h2⟩ m hm
    rcases List.mem_append.1 hm with hm | hm
    · exact h1 m hm
    · exact h2 m hm
theorem selE_ok {ks : List Txt} {l : List Mt} (h : firstE 0 l = none) : selE ks l = (rowF (fun k => l.all fun m => yesQ m k) 0 ks, 0, 0) := by unfold selE; rw [h]
theorem selE_bad {ks : List Txt} {l : List Mt} (h : firstE 0 l ≠ none) : (selE ks l).2.2 ≠ 0 := by
  unfold selE
  cases he : firstE 0 l with
  | none => exact (h he).elim
  | some x => exact firstE_err 0 l x.1 x.2 he
theorem parts_law (x0 : List Txt) (x1 x2 : List Mt) : m_limnographlaw35_IndexParts x0 x1 x2 = some true := by
  unfold m_limnographlaw35_IndexParts
  rw [awake_eq, bndS, if_neg (by decide), fewK_eq _ _ (by omega), bndS, jn_eq, fewM_eq, fewM_eq]
  cases hK : fewK x0 40 with
  | false => rfl
  | true =>
  simp only [Bool.not_true, Bool.false_eq_true, if_false, bndS, jn_eq]
  cases hA : fewM x1 with
  | false => rfl
  | true =>
  cases hB : fewM x2 with
  | false => rfl
  | true =>
  simp only [Bool.not_true, Bool.false_eq_true, if_false]
  unfold fewK at hK
  unfold fewM at hA hB
  rw [Bool.and_eq_true, decide_eq_true_iff] at hK hA hB
  have hks : ∀ k ∈ x0, k.length ≤ 10000 := fun k hk => by
    have := of_decide_eq_true (List.all_eq_true.1 hK.2 k hk); omega
  have hn : x0.length ≤ 1000 := by omega
  rw [new_eq x0 hn hks, bndS]
  cases hg : (goN [] x0 []).1 with
  | none => rfl
  | some x =>
  rw [if_neg (by simp), bndS]
  have hx : IxOk x x0 := IxOk.of (a := (goN [] x0 []).2.1) (e := (goN [] x0 []).2.2) hn (by rw [← hg])
  have rl := fun P : Txt → Bool => rowF_len P 0 x0
  rw [hx.select x1 (by omega), bndS, hx.select x2 (by omega), bndS, app_some (by simp; omega), bndS, app_some (by simp; omega), bndS, List.nil_append, hx.select (x1 ++ x2) (by simp; omega), bndS]
  by_cases h1 : firstE 0 x1 = none
  · by_cases h2 : firstE 0 x2 = none
    · have h3 := (firstE_app x1 x2).2 ⟨h1, h2⟩
      rw [selE_ok h1, selE_ok h2, selE_ok h3]
      dsimp only
      rw [if_neg (by simp), if_neg (by simp), ixAnd_eq (by have := rl (fun k => x1.all fun m => yesQ m k); have := rl (fun k => x2.all fun m => yesQ m k); omega), bndS, and_rowF]
      rw [rowF_ext (P := fun k => (x1 ++ x2).all fun m => yesQ m k) (Q := fun k => (x1.all fun m => yesQ m k) && (x2.all fun m => yesQ m k)) (fun k _ => List.all_append)]
      rw [same_refl _ (by have := rl (fun k => (x1.all fun m => yesQ m k) && (x2.all fun m => yesQ m k)); omega), bndS]
      simp only [Bool.not_true, Bool.false_eq_true, if_false]
      by_cases hl : (x1.length : Int) ≠ 1
      · rw [if_pos hl]
      · rw [if_neg hl]
        obtain ⟨m, rfl⟩ : ∃ m, x1 = [m] := by
          match x1, hl with
          | [m], _ => exact ⟨m, rfl⟩
          | [], hl => simp at hl
          | a :: b :: r, hl => simp at hl; omega
        rw [show idx [m] 0 = some m from rfl, bndS, hx.select _ (by simp), bndS]
        have e1 : errQ (⟨m.Key, m.Glob, !m.Not⟩ : Mt) = errQ m := rfl
        have h4 : firstE 0 [(⟨m.Key, m.Glob, !m.Not⟩ : Mt)] = none := by
          rw [firstE_none] at h1 ⊢
          intro y hy
          simp at hy; subst hy
          rw [e1]; exact h1 m (by simp)
        rw [selE_ok h4]
        dsimp only
        have e2 : rowF (fun k => [(⟨m.Key, m.Glob, !m.Not⟩ : Mt)].all fun m => yesQ m k) 0 x0 = rowF (fun k => !([m].all fun m => yesQ m k)) 0 x0 := rowF_ext fun k _ => by
          simp only [List.all_cons, List.all_nil, Bool.and_true, yesQ, yes35]
          cases mM (cmpE m.Glob).2 ((look35 k m.Key).getD []) <;> cases m.Not <;> rfl
        rw [e2, if_pos rfl, ixAnd_eq (by have := rl (fun k => [m].all fun m => yesQ m k); have := rl (fun k => !([m].all fun m => yesQ m k)); omega), bndS, and_rowF]
        rw [rowF_ext (P := fun k => ([m].all fun m => yesQ m k) && !([m].all fun m => yesQ m k)) (Q := fun _ => false) (fun k _ => by simp), rowF_none]
        rw [ixOr_eq (by have := rl (fun k => [m].all fun m => yesQ m k); have := rl (fun k => !([m].all fun m => yesQ m k)); omega), or_rowF]
        rw [rowF_ext (P := fun k => ([m].all fun m => yesQ m k) || !([m].all fun m => yesQ m k)) (Q := fun _ => true) (fun k _ => by simp)]
        unfold m_index_Index_Len
        rw [hx.keys, bndS, bndS, rowF_all]
        simp
    · have h3 : firstE 0 (x1 ++ x2) ≠ none := fun h => h2 ((firstE_app x1 x2).1 h).2
      rw [if_pos (.inr (selE_bad h2)), decide_eq_true (selE_bad h3)]
  · have h3 : firstE 0 (x1 ++ x2) ≠ none := fun h => h1 ((firstE_app x1 x2).1 h).1
    rw [if_pos (.inl (selE_bad h1)), decide_eq_true (selE_bad h3)]
end Go.Proofs.YtpcpfjpcfcbopaaDoor
