/-
  The four laws of chapter 11 hold, as plain forms; plain Lean.
-/
import Derived.Test.YtjadbkfodoodaaaQ5
namespace Go.Proofs.Ytjadbkfodoodaaa
open Go Go.RowKit Go.Wk
theorem awake_eq : m_limnographlaw11_awake = some true := by
  unfold m_limnographlaw11_awake
  rw [text_eq, bndS, parse_eq _ (by decide), bndS]
  congr 1
theorem texts_law (name : Txt) (l : List Pr) : m_limnographlaw11_LabelTexts name l = some true := by
  unfold m_limnographlaw11_LabelTexts
  rw [awake_eq, bndS, if_neg (by simp)]
  simp only [jn_eq]
  by_cases h : (name.length : Int) > 100
  · rw [if_pos h]; rfl
  · rw [if_neg h, light_eq, bndS]
    cases hl : light l with
    | false => rfl
    | true =>
      have hl20 : l.length ≤ 20 := by unfold light at hl; simp at hl; exact hl.1
      rw [if_neg (by simp), text_eq, bndS, refText_eq, bndS, if_pos ⟨rfl, rfl⟩, check_eq, bndS]
      have : check name l = (text name l).2 := by unfold text; split <;> simp_all
      rw [if_pos (by simp [this]), sorted_eq l hl20, bndS, refSorted_eq l (by omega), bndS, same_eq _ _ (by rw [srt_len]; omega), bndS]
      simp
/- what is parsed is in order -/
def rising : List Pr → Prop
  | [] => True
  | [_] => True
  | a :: b :: l => Op.bytesLess b.Key a.Key = false ∧ rising (b :: l)
/-- the last first -/
def fall : List Pr → Prop
  | [] => True
  | [_] => True
  | a :: b :: l => Op.bytesLess a.Key b.Key = false ∧ fall (b :: l)
theorem srt_fall : ∀ (q p : List Pr), fall (q.reverse ++ p) → q.foldl (fun acc a => insR a acc) p = q.reverse ++ p
  | [], p, _ => rfl
  | x :: q, p, h => by
    rw [List.foldl_cons]
    have hx : insR x p = x :: p := by
      cases p with
      | nil => rfl
      | cons b p =>
        have : ∀ u : List Pr, fall (u ++ (x :: b :: p)) → Op.bytesLess x.Key b.Key = false := by
          intro u
          induction u with
          | nil => exact fun h => h.1
          | cons y u ih =>
            intro h
            cases u with
            | nil => exact h.2.1
            | cons z u => exact ih h.2
        rw [insR, if_neg (by rw [this q.reverse (by simpa using h)]; simp)]
    rw [hx, srt_fall q (x :: p) (by simpa using h)]; simp
theorem srt_id {l : List Pr} (h : fall l.reverse) : srt l = l := by unfold srt; rw [srt_fall l [] (by simpa using h)]; simp
theorem chk_snoc : ∀ (q p : List Pr) (a : Pr), chk p q = 0 → nameB a.Key = true → valB a.Val = true → (p ++ q).any (fun b => decide (b.Key = a.Key)) = false → chk p (q ++ [a]) = 0
  | [], p, a, _, h1, h2, h3 => by rw [List.append_nil] at h3; show chk p [a] = 0; rw [chk, h1, h2, h3]; rfl
  | x :: q, p, a, h, h1, h2, h3 => by
    rw [chk] at h
    rw [List.cons_append, chk]
    split at h
    · rename_i hx
      rw [if_pos hx]
      split at h
      · cases h
      · rename_i hp
        rw [if_neg hp]
        exact chk_snoc q (p ++ [x]) a h h1 h2 (by simpa using h3)
    · cases h
theorem pairOf_some {p : Txt} {a : Pr} (h : pairOf p = some a) : p = a.Key ++ 61 :: a.Val ∧ nameB a.Key = true ∧ valB a.Val = true := by
  unfold pairOf at h
  split at h
  · rename_i hh
    simp only [Bool.and_eq_true] at hh
    cases h
    exact ⟨cut1_yes hh.1.1, hh.1.2, hh.2⟩
  · cases h
theorem pgo_ok (name : Txt) : ∀ (ps : List Txt) (l : List Pr) (at_ : Int), l.length ≤ 4 → chk [] l = 0 → fall l.reverse → (pgo name l at_ ps).2.2.2 = 0 →
    ∃ m, pgo name l at_ ps = (name, m, 0, 0) ∧ m.length ≤ 4 ∧ chk [] m = 0 ∧ fall m.reverse ∧ texts m = texts l ++ ps.flatMap (fun p => 59 :: p)
  | [], l, at_, h4, hc, hf, _ => ⟨l, rfl, h4, hc, hf, by simp⟩
  | p :: ps, l, at_, h4, hc, hf, h => by
    rw [pgo] at h ⊢
    split at h
    · cases h
    · rename_i hl
      rw [if_neg hl]
      cases hp : pairOf p with
      | none => rw [hp] at h; cases h
      | some a =>
        rw [hp] at h
        dsimp only at h ⊢
        split at h
        · rename_i hfo
          rw [if_pos hfo]
          obtain ⟨e, hn, hv⟩ := pairOf_some hp
          have hfo' := hfo
          unfold foll at hfo
          split at hfo
          · cases hfo
          · rename_i hany
            have hfl : fall (l ++ [a]).reverse := by
              rw [List.reverse_append]
              cases hr : l.reverse with
              | nil => trivial
              | cons b r =>
                have hb : l.getLast? = some b := by rw [← List.head?_reverse, hr]; rfl
                rw [hb] at hfo
                dsimp only at hfo
                split at hfo
                · cases hfo
                · rename_i hlt
                  refine ⟨by simpa using hlt, ?_⟩
                  rw [← hr]; exact hf
            obtain ⟨m, h1, h2, h3, h5, h6⟩ := pgo_ok name ps (l ++ [a]) (at_ + p.length + 1) (by simp; omega) (chk_snoc l [] a hc hn hv (by simpa using hany)) hfl h
            refine ⟨m, h1, h2, h3, h5, ?_⟩
            rw [h6, e]
            simp [texts, at1]
        · rename_i hfo
          exact absurd h hfo
theorem parse_ok {s : Txt} (h : (parse s).2.2.2 = 0) : ∃ name m, parse s = (name, m, 0, 0) ∧ nameB name = true ∧ m.length ≤ 4 ∧ chk [] m = 0 ∧ srt m = m ∧ s = name ++ texts m := by
  unfold parse at h ⊢
  split at h
  · rename_i hn
    rw [if_pos hn]
    obtain ⟨m, h1, h2, h3, h4, h5⟩ := pgo_ok _ _ [] _ (by simp) rfl trivial h
    refine ⟨_, m, h1, hn, h2, h3, srt_id h4, ?_⟩
    rw [h5]
    simpa [texts] using spl_join s
  · cases h
theorem pgo_len (name : Txt) : ∀ (ps : List Txt) (l : List Pr) (at_ : Int), l.length ≤ 4 → (pgo name l at_ ps).2.1.length ≤ 4
  | [], l, at_, h => h
  | p :: ps, l, at_, h => by
    rw [pgo]
    split
    · simp
    · cases hp : pairOf p with
      | none => simp
      | some a =>
        dsimp only
        split
        · exact pgo_len name ps _ _ (by simp; omega)
        · simp
theorem parse_len (s : Txt) : (parse s).2.1.length ≤ 4 := by
  unfold parse
  split
  · exact pgo_len _ _ _ _ (by simp)
  · simp
theorem parses_law (s : Txt) : m_limnographlaw11_LabelParses s = some true := by
  unfold m_limnographlaw11_LabelParses
  rw [awake_eq, bndS, if_neg (by simp)]
  by_cases h : (s.length : Int) > 1000
  · rw [if_pos h]
  · rw [if_neg h, parse_eq s (by omega), bndS, refParse_eq s (by omega), bndS]
    simp only [jn_eq]
    rw [if_neg (by simp [got]), same_eq _ _ (by have := parse_len s; omega), bndS]
    rw [if_neg (by simp [got])]
    by_cases he : (parse s).2.2.2 = 0
    · rw [if_neg (by omega), text_eq, bndS]
      obtain ⟨name, m, h1, h2, h3, h4, h5, h6⟩ := parse_ok he
      rw [h1]
      have hck : check name m = 0 := by unfold check; rw [if_pos h2, if_neg (by omega), h4]
      unfold text
      rw [if_pos hck, h5, ← h6]
      simp
    · rw [if_pos he]
end Go.Proofs.Ytjadbkfodoodaaa
