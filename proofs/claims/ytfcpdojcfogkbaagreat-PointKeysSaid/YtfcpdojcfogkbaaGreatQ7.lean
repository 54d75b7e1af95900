/-
  LabelBack and LabelMatches hold, as plain forms; plain Lean.
-/
import Derived.Test.YtfcpdojcfogkbaaGreatQ6
set_option linter.unusedVariables false
set_option linter.unusedSimpArgs false
namespace Go.Proofs.YtfcpdojcfogkbaaGreat
open Go Go.RowKit Go.Wk
theorem lt_asymm {x y : Txt} (h : Op.bytesLess x y = true) : Op.bytesLess y x = false := by
  rw [bytesLess_eq] at h ⊢
  simp at h ⊢
  exact List.le_of_lt h
theorem le_trans {x y z : Txt} (h : Op.bytesLess y x = false) (h' : Op.bytesLess z y = false) : Op.bytesLess z x = false := by
  rw [bytesLess_eq] at h h' ⊢
  simp at h h' ⊢
  exact List.le_trans h h'
theorem le_anti {x y : Txt} (h : Op.bytesLess y x = false) (h' : Op.bytesLess x y = false) : x = y := by
  rw [bytesLess_eq] at h h'
  simp at h h'
  exact List.le_antisymm h h'
def ge (a b : Pr) : Prop := Op.bytesLess a.Key b.Key = false
theorem insR_perm (x : Pr) : ∀ p : List Pr, (insR x p).Perm (x :: p)
  | [] => .refl _
  | b :: p => by
    unfold insR; split
    · exact ((insR_perm x p).cons b).trans (.swap x b p)
    · exact .refl _
theorem insR_ge (x : Pr) : ∀ p : List Pr, p.Pairwise ge → (insR x p).Pairwise ge
  | [], _ => by simp [insR]
  | b :: p, h => by
    obtain ⟨h1, h2⟩ := List.pairwise_cons.1 h
    unfold insR; split
    · rename_i hx
      refine List.pairwise_cons.2 ⟨fun a ha => ?_, insR_ge x p h2⟩
      rcases (insR_mem x a p).1 ha with rfl | ha
      · exact lt_asymm hx
      · exact h1 a ha
    · rename_i hx
      simp only [Bool.not_eq_true] at hx
      refine List.pairwise_cons.2 ⟨fun a ha => ?_, h⟩
      rcases List.mem_cons.1 ha with rfl | ha
      · exact hx
      · exact le_trans (h1 a ha) hx
theorem fold_ge : ∀ (l p : List Pr), p.Pairwise ge → (l.foldl (fun acc a => insR a acc) p).Pairwise ge ∧ (l.foldl (fun acc a => insR a acc) p).Perm (l.reverse ++ p)
  | [], p, h => ⟨h, .refl _⟩
  | x :: l, p, h => by
    obtain ⟨h1, h2⟩ := fold_ge l (insR x p) (insR_ge x p h)
    refine ⟨h1, h2.trans ?_⟩
    rw [List.reverse_cons, List.append_assoc]
    exact (insR_perm x p).append_left _
theorem srt_perm (l : List Pr) : (srt l).Perm l := by
  have := (fold_ge l [] .nil).2
  rw [List.append_nil] at this
  exact (List.reverse_perm _).trans (this.trans (List.reverse_perm l))
def le (a b : Pr) : Prop := Op.bytesLess b.Key a.Key = false
theorem srt_le (l : List Pr) : (srt l).Pairwise le := by
  have := (fold_ge l [] .nil).1
  unfold srt
  rw [List.pairwise_reverse]; exact this
theorem chk_iff : ∀ (l p : List Pr), chk p l = 0 ↔ (∀ a ∈ l, nameB a.Key = true ∧ valB a.Val = true) ∧ (∀ a ∈ l, ∀ b ∈ p, b.Key ≠ a.Key) ∧ l.Pairwise (fun a b => a.Key ≠ b.Key)
  | [], p => by simp [chk]
  | x :: l, p => by
    rw [chk]
    by_cases hx : (nameB x.Key && valB x.Val) = true
    · rw [if_pos hx]
      by_cases hp : p.any (fun b => decide (b.Key = x.Key)) = true
      · rw [if_pos hp]
        simp at hp
        obtain ⟨b, hb, hk⟩ := hp
        constructor
        · intro h; cases h
        · intro h; exact absurd hk (h.2.1 x (by simp) b hb)
      · rw [if_neg hp, chk_iff l (p ++ [x])]
        simp at hx hp ⊢
        grind
    · rw [if_neg hx]
      simp at hx ⊢
      grind
theorem chk_srt {l : List Pr} (h : chk [] l = 0) : chk [] (srt l) = 0 := by
  rw [chk_iff] at h ⊢
  refine ⟨fun a ha => h.1 a ((srt_mem a l).1 ha), fun _ _ _ hb => (by cases hb), ?_⟩
  exact ((srt_perm l).pairwise_iff (fun {x y} h => h.symm)).2 h.2.2
theorem spl_body : ∀ (p : Txt) (ps : List Txt), (∀ x ∈ p, x ≠ 59) → (∀ p ∈ ps, ∀ x ∈ p, x ≠ 59) → spl (p ++ ps.flatMap (fun p => 59 :: p)) = (p, ps)
  | x :: p, ps, h, hs => by
    rw [List.cons_append, spl, if_neg (h x (by simp)), spl_body p ps (fun y hy => h y (by simp [hy])) hs]
  | [], [], _, _ => rfl
  | [], q :: ps, _, hs => by
    rw [List.nil_append, List.flatMap_cons, List.cons_append, spl, if_pos rfl, spl_body q ps (hs q (by simp)) (fun p hp => hs p (by simp [hp]))]
termination_by p ps => (ps.length, p.length)
def body (a : Pr) : Txt := a.Key ++ 61 :: a.Val
theorem texts_body (l : List Pr) : texts l = (l.map body).flatMap (fun p => 59 :: p) := by
  unfold texts
  induction l with
  | nil => rfl
  | cons a l ih => rw [List.flatMap_cons, ih, List.map_cons, List.flatMap_cons]; simp [at1, body]
theorem nmC_free {c : UInt8} (h : nmC c = true) : c ≠ 59 ∧ c ≠ 61 := by
  constructor
  · intro e; subst e; revert h; decide
  · intro e; subst e; revert h; decide
theorem nameB_free {s : Txt} (h : nameB s = true) : ∀ x ∈ s, x ≠ 59 ∧ x ≠ 61 := by
  intro x hx
  unfold nameB at h
  match s, h, hx with
  | c :: t, h, hx =>
    simp at h
    rcases List.mem_cons.1 hx with rfl | hx
    · exact nmC_free (by simp [nmC, h.2.1])
    · exact nmC_free (h.2.2 x hx)
theorem valB_free {s : Txt} (h : valB s = true) : ∀ x ∈ s, x ≠ 59 := by
  intro x hx e
  subst e
  unfold valB at h
  simp at h
  have := h.2 _ hx
  revert this; decide
theorem cut1_body : ∀ (k v : Txt), (∀ x ∈ k, x ≠ 61) → cut1 61 (k ++ 61 :: v) = (k, v, true)
  | [], v, _ => rfl
  | x :: k, v, h => by rw [List.cons_append, cut1, if_neg (h x (by simp)), cut1_body k v fun y hy => h y (by simp [hy])]
theorem pairOf_body {a : Pr} (hn : nameB a.Key = true) (hv : valB a.Val = true) : pairOf (body a) = some a := by
  unfold pairOf body
  rw [cut1_body _ _ fun x hx => (nameB_free hn x hx).2]
  simp [hn, hv]
theorem pgo_text (name : Txt) : ∀ (q p : List Pr) (at_ : Int), (p ++ q).length ≤ 4 → chk [] (p ++ q) = 0 → (p ++ q).Pairwise le → pgo name p at_ (q.map body) = (name, p ++ q, 0, 0)
  | [], p, at_, _, _, _ => by simp [pgo]
  | a :: q, p, at_, h4, hc, hl => by
    have hc' := (chk_iff _ _).1 hc
    obtain ⟨hn, hv⟩ := hc'.1 a (by simp)
    have ih := pgo_text name q (p ++ [a]) (at_ + (body a).length + 1) (by simpa using h4) (by simpa using hc) (by simpa using hl)
    have hfo : foll p a.Key = 0 := by
      unfold foll
      rw [if_neg]
      · cases hb : p.getLast? with
        | none => rfl
        | some b =>
          have : le b a := (List.pairwise_append.1 hl).2.2 b (List.mem_of_getLast? hb) a (by simp)
          dsimp only
          rw [if_neg (by rw [this]; simp)]
      · simp
        intro b hb
        exact (List.pairwise_append.1 hc'.2.2).2.2 b hb a (by simp)
    rw [List.map_cons, pgo, if_neg (by simp at h4; omega), pairOf_body hn hv]
    dsimp only
    rw [if_pos hfo, ih]; simp
theorem parse_text {name : Txt} {l : List Pr} (h : check name l = 0) : parse (name ++ texts (srt l)) = (name, srt l, 0, 0) := by
  obtain ⟨h1, h2, h3⟩ := check_ok h
  have hcs := chk_srt h3
  have hc := (chk_iff _ _).1 hcs
  have hsp : spl (name ++ texts (srt l)) = (name, (srt l).map body) := by
    rw [texts_body]
    refine spl_body _ _ (fun x hx => (nameB_free h1 x hx).1) fun p hp x hx => ?_
    obtain ⟨a, ha, rfl⟩ := List.mem_map.1 hp
    unfold body at hx
    rcases List.mem_append.1 hx with hx | hx
    · exact (nameB_free (hc.1 a ha).1 x hx).1
    · rcases List.mem_cons.1 hx with rfl | hx
      · decide
      · exact valB_free (hc.1 a ha).2 x hx
  unfold parse
  rw [hsp]
  dsimp only
  rw [if_pos h1]
  have := pgo_text name (srt l) [] (name.length + 1) (by rw [List.nil_append, srt_len]; exact h2) (by rw [List.nil_append]; exact hcs) (by rw [List.nil_append]; exact srt_le l)
  rw [this]; simp
theorem text_inj {n1 n2 : Txt} {l1 l2 : List Pr} (h1 : check n1 l1 = 0) (h2 : check n2 l2 = 0) : n1 ++ texts (srt l1) = n2 ++ texts (srt l2) ↔ n1 = n2 ∧ srt l1 = srt l2 := by
  constructor
  · intro h
    have e1 := parse_text h1
    have e2 := parse_text h2
    rw [h, e2] at e1
    simp at e1
    exact ⟨e1.1.symm, e1.2.symm⟩
  · rintro ⟨rfl, h⟩; rw [h]
end Go.Proofs.YtfcpdojcfogkbaaGreat
