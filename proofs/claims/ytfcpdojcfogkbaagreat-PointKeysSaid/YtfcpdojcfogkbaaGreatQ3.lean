/-
  The document's check, texts, and what is the same; plain Lean.
-/
import Derived.Test.YtfcpdojcfogkbaaGreatQ2
set_option linter.unusedVariables false
set_option linter.unusedSimpArgs false
namespace Go.Proofs.YtfcpdojcfogkbaaGreat
open Go Go.RowKit Go.Wk
def light (l : List Pr) : Bool := decide (l.length ≤ 20) && l.all fun a => decide (a.Key.length ≤ 100) && decide (a.Val.length ≤ 100)
theorem light_eq (l : List Pr) : m_limnographref11_Light l = some (light l) := by
  unfold m_limnographref11_Light light
  by_cases h : l.length ≤ 20
  · rw [if_neg (by omega), jn_eq, m_limnographref11_Light_L1_scan _ _ (by omega), scanL_all (fun a => decide (a.Key.length ≤ 100) && decide (a.Val.length ≤ 100)) (some false)]
    · simp [h]; grind
    · intro i x k _
      simp only [jn_eq, bndS]
      grind
  · rw [if_pos (by omega)]; simp [h]
/- texts -/
def at1 (a : Pr) : Txt := [59] ++ a.Key ++ [61] ++ a.Val
def texts (l : List Pr) : Txt := l.flatMap at1
theorem texts_cons (a : Pr) (l : List Pr) : texts (a :: l) = at1 a ++ texts l := by simp [texts]
theorem at1_len (a : Pr) : (at1 a).length = a.Key.length + a.Val.length + 2 := by simp [at1]; omega
theorem textL (l : List Pr) (h : l.length ≤ 4) (hs : ∀ a ∈ l, a.Key.length ≤ 32 ∧ a.Val.length ≤ 32) (s : Txt) (hs0 : s.length ≤ 1000) (j : Txt → Option (Txt × Int)) (hj : ∀ s, j s = some (s, 0)) :
    m_label_Text_L1 l j fuel 0 s = some (s ++ texts l, 0) := by
  rw [m_label_Text_L1_scan _ _ _ (by omega)]
  refine scanL_inv (fun p t => t.length ≤ 1000 + 66 * p.length) (fun _ q t => some (t ++ texts q, 0)) (by simp; omega) (fun s _ => by simp [hj, texts]) ?_
  intro p x q t k hp ht hk
  have hx := hs x (by simp [← hp])
  have hpl : p.length ≤ 4 := by rw [← hp] at h; simp at h; omega
  rw [bndS, cat_some (by simp; omega), bndS, cat_some (by simp; omega), bndS, cat_some (by simp; omega), bndS, app_some (by simp; omega), bndS, hk]
  · rw [texts_cons]; simp [at1]
  · simp; omega
theorem nameB_len {s : Txt} (h : nameB s = true) : s.length ≤ 32 := by unfold nameB at h; simp at h; exact h.1
theorem valB_len {s : Txt} (h : valB s = true) : s.length ≤ 32 := by unfold valB at h; simp at h; exact h.1.1
theorem chk_ok : ∀ (l p : List Pr), chk p l = 0 → ∀ a ∈ l, nameB a.Key = true ∧ valB a.Val = true ∧ ∀ b ∈ p, b.Key ≠ a.Key
  | [], p, _, a, ha => by cases ha
  | x :: l, p, h, a, ha => by
    rw [chk] at h
    split at h
    · rename_i hx
      split at h
      · cases h
      · rename_i hp
        rcases List.mem_cons.1 ha with rfl | ha
        · simp at hx hp; exact ⟨hx.1, hx.2, hp⟩
        · have := chk_ok l (p ++ [x]) h a ha
          exact ⟨this.1, this.2.1, fun b hb => this.2.2 b (by simp [hb])⟩
    · cases h
theorem check_ok {name : Txt} {l : List Pr} (h : check name l = 0) : nameB name = true ∧ l.length ≤ 4 ∧ chk [] l = 0 := by
  unfold check at h
  split at h
  · split at h
    · cases h
    · exact ⟨by assumption, by omega, h⟩
  · cases h
theorem insR_mem (x a : Pr) : ∀ p : List Pr, a ∈ insR x p ↔ a = x ∨ a ∈ p
  | [] => by simp [insR]
  | b :: p => by unfold insR; split <;> simp [insR_mem x a p]; grind
theorem srt_mem (a : Pr) (l : List Pr) : a ∈ srt l ↔ a ∈ l := by
  have : ∀ (l p : List Pr), a ∈ (l.foldl (fun acc a => insR a acc) p) ↔ a ∈ p ∨ a ∈ l := by
    intro l
    induction l with
    | nil => intro p; simp
    | cons x l ih => intro p; rw [List.foldl_cons, ih, insR_mem]; simp; grind
  unfold srt; rw [List.mem_reverse, this]; simp
def text (name : Txt) (l : List Pr) : Txt × Int := if check name l = 0 then (name ++ texts (srt l), 0) else ([], check name l)
theorem text_eq (name : Txt) (l : List Pr) : m_label_Text name l = some (text name l) := by
  unfold m_label_Text text
  rw [check_eq, bndS]
  by_cases h : check name l = 0
  · rw [if_neg (by omega), if_pos h]
    obtain ⟨h1, h2, h3⟩ := check_ok h
    have h4 := nameB_len h1
    rw [app_some (by simp; omega), bndS, sorted_eq l (by omega), bndS, jn_eq, List.nil_append]
    refine textL _ (by rw [srt_len]; exact h2) (fun a ha => ?_) name (by omega) _ fun _ => rfl
    have := chk_ok l [] h3 a ((srt_mem a l).1 ha)
    exact ⟨nameB_len this.1, valB_len this.2.1⟩
  · rw [if_pos h, if_neg h]
theorem same_eq (a b : List Pr) (h : a.length < 4611686018427387904) : m_limnographref11_Same a b = some (decide (a = b)) := by
  unfold m_limnographref11_Same
  by_cases hl : a.length = b.length
  · rw [if_neg (by omega), jn_eq, m_limnographref11_Same_L1_scan _ _ _ h]
    rw [scanL_pre (fun p q _ => some (decide (q = b.drop p.length))) ?_ ?_]
    · simp
    · intro s; simp [hl]
    · intro p x q _ k hp hk
      rw [hk]
      have : p.length < b.length := by rw [← hl, ← hp]; simp
      rw [idx_at this, bndS, bndS, List.drop_eq_getElem_cons this, List.length_append, List.length_singleton]
      by_cases hx : x = b[p.length]
      · rw [if_neg (fun h => h hx)]; congr 1; apply decide_eq_decide.2; rw [List.cons.injEq]; exact ⟨fun h => ⟨hx, h⟩, fun h => h.2⟩
      · rw [if_pos hx, decide_eq_false]; rw [List.cons.injEq]; exact fun h => hx h.1
  · rw [if_pos (by omega)]
    have : a ≠ b := fun h => hl (by rw [h])
    simp [this]
end Go.Proofs.YtfcpdojcfogkbaaGreat
