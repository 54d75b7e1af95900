/-
  The four laws of chapter 11 hold, as plain forms; plain Lean.
-/
import Derived.Test.YtfcpdojcfogkbaaGreatQ5
set_option linter.unusedVariables false
set_option linter.unusedSimpArgs false
namespace Go.Proofs.YtfcpdojcfogkbaaGreat
open Go Go.RowKit Go.Wk
def rising : List Pr → Prop
  | [] => True
  | [_] => True
  | a :: b :: l => Op.bytesLess b.Key a.Key = false ∧ rising (b :: l)
/-- the last first -/
def fall : List Pr → Prop
  | [] => True
  | [_] => True
  | a :: b :: l => Op.bytesLess a.Key b.Key = false ∧ fall (b :: l)
theorem srt_fall : ∀ (q p : List Pr), fall (q.reverse ++ p) → q.foldl (fun acc a => insR a acc) p = q.reverse ++ p
  | [], p, _ => rfl
  | x :: q, p, h => by
    rw [List.foldl_cons]
    have hx : insR x p = x :: p := by
      cases p with
      | nil => rfl
      | cons b p =>
        have : ∀ u : List Pr, fall (u ++ (x :: b :: p)) → Op.bytesLess x.Key b.Key = false := by
          intro u
          induction u with
          | nil => exact fun h => h.1
          | cons y u ih =>
            intro h
            cases u with
            | nil => exact h.2.1
            | cons z u => exact ih h.2
        rw [insR, if_neg (by rw [this q.reverse (by simpa using h)]; simp)]
    rw [hx, srt_fall q (x :: p) (by simpa using h)]; simp
theorem srt_id {l : List Pr} (h : fall l.reverse) : srt l = l := by unfold srt; rw [srt_fall l [] (by simpa using h)]; simp
theorem chk_snoc : ∀ (q p : List Pr) (a : Pr), chk p q = 0 → nameB a.Key = true → valB a.Val = true → (p ++ q).any (fun b => decide (b.Key = a.Key)) = false → chk p (q ++ [a]) = 0
  | [], p, a, _, h1, h2, h3 => by rw [List.append_nil] at h3; show chk p [a] = 0; rw [chk, h1, h2, h3]; rfl
  | x :: q, p, a, h, h1, h2, h3 => by
    rw [chk] at h
    rw [List.cons_append, chk]
    split at h
    · rename_i hx
      rw [if_pos hx]
      split at h
      · cases h
      · rename_i hp
        rw [if_neg hp]
        exact chk_snoc q (p ++ [x]) a h h1 h2 (by simpa using h3)
    · cases h
theorem pairOf_some {p : Txt} {a : Pr} (h : pairOf p = some a) : p = a.Key ++ 61 :: a.Val ∧ nameB a.Key = true ∧ valB a.Val = true := by
  unfold pairOf at h
  split at h
  · rename_i hh
    simp only [Bool.and_eq_true] at hh
    cases h
    exact ⟨cut1_yes hh.1.1, hh.1.2, hh.2⟩
  · cases h
theorem pgo_ok (name : Txt) : ∀ (ps : List Txt) (l : List Pr) (at_ : Int), l.length ≤ 4 → chk [] l = 0 → fall l.reverse → (pgo name l at_ ps).2.2.2 = 0 →
    ∃ m, pgo name l at_ ps = (name, m, 0, 0) ∧ m.length ≤ 4 ∧ chk [] m = 0 ∧ fall m.reverse ∧ texts m = texts l ++ ps.flatMap (fun p => 59 :: p)
  | [], l, at_, h4, hc, hf, _ => ⟨l, rfl, h4, hc, hf, by simp⟩
  | p :: ps, l, at_, h4, hc, hf, h => by
    rw [pgo] at h ⊢
    split at h
    · cases h
    · rename_i hl
      rw [if_neg hl]
      cases hp : pairOf p with
      | none => rw [hp] at h; cases h
      | some a =>
        rw [hp] at h
        dsimp only at h ⊢
        split at h
        · rename_i hfo
          rw [if_pos hfo]
          obtain ⟨e, hn, hv⟩ := pairOf_some hp
          have hfo' := hfo
          unfold foll at hfo
          split at hfo
          · cases hfo
          · rename_i hany
            have hfl : fall (l ++ [a]).reverse := by
              rw [List.reverse_append]
              cases hr : l.reverse with
              | nil => trivial
              | cons b r =>
                have hb : l.getLast? = some b := by rw [← List.head?_reverse, hr]; rfl
                rw [hb] at hfo
                dsimp only at hfo
                split at hfo
                · cases hfo
                · rename_i hlt
                  refine ⟨by simpa using hlt, ?_⟩
                  rw [← hr]; exact hf
            obtain ⟨m, h1, h2, h3, h5, h6⟩ := pgo_ok name ps (l ++ [a]) (at_ + p.length + 1) (by simp; omega) (chk_snoc l [] a hc hn hv (by simpa using hany)) hfl h
            refine ⟨m, h1, h2, h3, h5, ?_⟩
            rw [h6, e]
            simp [texts, at1]
        · rename_i hfo
          exact absurd h hfo
theorem parse_ok {s : Txt} (h : (parse s).2.2.2 = 0) : ∃ name m, parse s = (name, m, 0, 0) ∧ nameB name = true ∧ m.length ≤ 4 ∧ chk [] m = 0 ∧ srt m = m ∧ s = name ++ texts m := by
  unfold parse at h ⊢
  split at h
  · rename_i hn
    rw [if_pos hn]
    obtain ⟨m, h1, h2, h3, h4, h5⟩ := pgo_ok _ _ [] _ (by simp) rfl trivial h
    refine ⟨_, m, h1, hn, h2, h3, srt_id h4, ?_⟩
    rw [h5]
    simpa [texts] using spl_join s
  · cases h
theorem pgo_len (name : Txt) : ∀ (ps : List Txt) (l : List Pr) (at_ : Int), l.length ≤ 4 → (pgo name l at_ ps).2.1.length ≤ 4
  | [], l, at_, h => h
  | p :: ps, l, at_, h => by
    rw [pgo]
    split
    · simp
    · cases hp : pairOf p with
      | none => simp
      | some a =>
        dsimp only
        split
        · exact pgo_len name ps _ _ (by simp; omega)
        · simp
theorem parse_len (s : Txt) : (parse s).2.1.length ≤ 4 := by
  unfold parse
  split
  · exact pgo_len _ _ _ _ (by simp)
  · simp
end Go.Proofs.YtfcpdojcfogkbaaGreat
