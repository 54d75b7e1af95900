/-
  Chapter 12: which points are the same, as plain forms; plain Lean.
-/
import Derived.Test.YtfcpdojcfogkbaaGreatR4
set_option linter.unusedVariables false
set_option linter.unusedSimpArgs false
namespace Go.Proofs.YtfcpdojcfogkbaaGreat
open Go Go.RowKit Go.Wk
theorem u64ne (x y : UInt64) : (((x.toNat : Nat) : Int) ≠ ((y.toNat : Nat) : Int)) ↔ x ≠ y := by
  constructor
  · rintro h rfl; exact h rfl
  · intro h hh; exact h (UInt64.toNat_inj.1 (by omega))
theorem u64eq (x y : UInt64) : (((x.toNat : Nat) : Int) = ((y.toNat : Nat) : Int)) ↔ x = y := by
  constructor
  · intro hh; exact UInt64.toNat_inj.1 (by omega)
  · rintro rfl; rfl
theorem scan_same {α : Type} [DecidableEq α] (a b : List α) (hl : a.length = b.length) (B : Nat → α → Unit → (Unit → Option Bool) → Option Bool) (J : Unit → Option Bool) (hJ : J () = some true)
    (hB : ∀ i x k, B i x () k = (idx b (i : Int)).bind fun y => if x ≠ y then some false else k ()) : scanL a () B J = some (decide (a = b)) := by
  rw [scanL_pre (fun p q _ => some (decide (q = b.drop p.length))) ?_ ?_]
  · simp
  · intro s; rw [hJ]; simp [hl]
  · intro p x q _ k hp hk
    rw [hB, hk]
    have : p.length < b.length := by rw [← hl, ← hp]; simp
    rw [idx_at this, bndS, List.drop_eq_getElem_cons this, List.length_append, List.length_singleton]
    by_cases hx : x = b[p.length]
    · rw [if_neg (fun h => h hx)]; congr 1; apply decide_eq_decide.2; rw [List.cons.injEq]; exact ⟨fun h => ⟨hx, h⟩, fun h => h.2⟩
    · rw [if_pos hx, decide_eq_false]; rw [List.cons.injEq]; exact fun h => hx h.1
theorem eqPair_eq (a b : List Pr) (h : a.length ≤ 1000000) : m_slices_Equal_api_Pair_api_Pair a b = some (decide (a = b)) := by
  unfold m_slices_Equal_api_Pair_api_Pair
  by_cases hl : a.length = b.length
  · rw [if_neg (by omega), jn_eq, m_slices_Equal_api_Pair_api_Pair_L1_scan _ _ _ (by omega)]
    exact scan_same a b hl _ _ rfl fun i x k => by rw [bndS]
  · rw [if_pos (by omega)]
    have : a ≠ b := fun h => hl (by rw [h])
    simp [this]
theorem eqU_eq (a b : List UInt64) (h : a.length ≤ 1000000) : m_slices_Equal_uint64_uint64 a b = some (decide (a = b)) := by
  unfold m_slices_Equal_uint64_uint64
  by_cases hl : a.length = b.length
  · rw [if_neg (by omega), jn_eq, m_slices_Equal_uint64_uint64_L1_scan _ _ _ (by omega)]
    exact scan_same a b hl _ _ rfl fun i x k => by rw [bndS]; simp only [u64ne]
  · rw [if_pos (by omega)]
    have : a ≠ b := fun h => hl (by rw [h])
    simp [this]
theorem side_ext (a b : T_api_Side) : a = b ↔ a.Offset = b.Offset ∧ a.Counts = b.Counts := by cases a; cases b; simp
theorem rsame_eq (a b : T_api_Side) (h : a.Counts.length ≤ 1000000) : m_limnographref08_SameSide a b = some (decide (a = b)) := by
  unfold m_limnographref08_SameSide
  by_cases hc : a.Offset ≠ b.Offset ∨ (a.Counts.length : Int) ≠ (b.Counts.length : Int)
  · rw [if_pos hc]; congr 1; symm; rw [decide_eq_false_iff_not, side_ext]; rintro ⟨h1, h2⟩; rw [h1, h2] at hc; simp at hc
  · rw [if_neg hc, jn_eq, m_limnographref08_SameSide_L1_scan _ _ _ (by omega)]
    have := scan_same a.Counts b.Counts (by omega) (fun ii xx ss kk => (some xx).bind fun z21 => (idx b.Counts (ii : Int)).bind fun z24 => if ((z21).toNat : Int) ≠ ((z24).toNat : Int) then (some false) else (kk ())) (fun _ => some true) rfl fun i x k => by rw [bndS]; simp only [u64ne]
    refine this.trans ?_
    congr 1; apply decide_eq_decide.2; rw [side_ext]; constructor
    · intro h; exact ⟨by omega, h⟩
    · exact fun h => h.2
theorem hsame_eq (a b : T_api_Side) (h : a.Counts.length ≤ 1000000) : m_hist_same a b = some (decide (a = b)) := by
  unfold m_hist_same
  rw [jn_eq]
  by_cases hc : a.Offset = b.Offset
  · rw [if_pos hc, eqU_eq _ _ h, bndS]; congr 1; apply decide_eq_decide.2; rw [side_ext]; simp [hc]
  · rw [if_neg hc]; congr 1; symm; rw [decide_eq_false_iff_not, side_ext]; exact fun h => hc h.1
theorem hist_ext (a b : T_api_Hist) : a = b ↔ (a.Scale = b.Scale ∧ a.Zero = b.Zero) ∧ a.Pos = b.Pos ∧ a.Neg = b.Neg := by cases a; cases b; simp [and_assoc]
theorem rHist_eq (a b : T_api_Hist) (h1 : a.Pos.Counts.length ≤ 1000000) (h2 : a.Neg.Counts.length ≤ 1000000) : m_limnographref08_Same a b = some (decide (a = b)) := by
  unfold m_limnographref08_Same
  rw [rsame_eq _ _ h1, rsame_eq _ _ h2]
  simp only [u64eq, bndS, jn_eq]
  by_cases hc : a.Scale = b.Scale ∧ a.Zero = b.Zero
  · rw [if_pos hc]
    by_cases hp : a.Pos = b.Pos
    · rw [decide_eq_true hp, if_pos rfl]; congr 1; apply decide_eq_decide.2; rw [hist_ext]; simp [hc, hp]
    · rw [decide_eq_false hp]; simp only [Bool.false_eq_true, if_false]; congr 1; symm; rw [decide_eq_false_iff_not, hist_ext]; exact fun h => hp h.2.1
  · rw [if_neg hc]; simp only [Bool.false_eq_true, if_false]; congr 1; symm; rw [decide_eq_false_iff_not, hist_ext]; exact fun h => hc h.1
theorem pHist_eq (a b : T_api_Hist) (h1 : a.Pos.Counts.length ≤ 1000000) (h2 : a.Neg.Counts.length ≤ 1000000) : m_hist_Same a b = some (decide (a = b)) := by
  unfold m_hist_Same
  rw [hsame_eq _ _ h1, hsame_eq _ _ h2]
  simp only [u64eq, bndS, jn_eq]
  by_cases hc : a.Scale = b.Scale ∧ a.Zero = b.Zero
  · rw [if_pos hc]
    by_cases hp : a.Pos = b.Pos
    · rw [decide_eq_true hp, if_pos rfl]; congr 1; apply decide_eq_decide.2; rw [hist_ext]; simp [hc, hp]
    · rw [decide_eq_false hp]; simp only [Bool.false_eq_true, if_false]; congr 1; symm; rw [decide_eq_false_iff_not, hist_ext]; exact fun h => hp h.2.1
  · rw [if_neg hc]; simp only [Bool.false_eq_true, if_false]; congr 1; symm; rw [decide_eq_false_iff_not, hist_ext]; exact fun h => hc h.1
/-- Which points are the same. -/
def sameP (a b : Pt) : Prop := a.Name = b.Name ∧ srt a.Attrs = srt b.Attrs ∧ a.Hist = b.Hist ∧ a.Kind = b.Kind ∧ a.Temp = b.Temp ∧ a.Mono = b.Mono ∧ a.Start = b.Start ∧ a.Time = b.Time ∧ a.Int_ = b.Int_ ∧ a.Re = b.Re ∧ a.Im = b.Im ∧ a.Flags = b.Flags
instance (a b : Pt) : Decidable (sameP a b) := by unfold sameP; infer_instance
structure Few (x : Pt) : Prop where
  a : x.Attrs.length ≤ 20
  p : x.Hist.Pos.Counts.length ≤ 1000000
  n : x.Hist.Neg.Counts.length ≤ 1000000
theorem pSame_eq {a b : Pt} (ha : Few a) (hb : Few b) : m_point_Same a b = some (decide (sameP a b)) := by
  unfold m_point_Same
  have e : ∀ l : List Pr, l.length ≤ 20 → (srt l).length ≤ 1000000 := fun l hl => by rw [srt_len]; omega
  rw [jn_eq, sorted_eq _ ha.a, sorted_eq _ hb.a, bndS, bndS, eqPair_eq _ _ (e _ ha.a), bndS, pHist_eq _ _ ha.p ha.n, bndS]
  unfold m_point_plain
  simp only [bndS]
  by_cases h1 : a.Name = b.Name
  · rw [if_neg (fun h => h h1)]
    by_cases h2 : srt a.Attrs = srt b.Attrs
    · rw [decide_eq_true h2]
      simp only [Bool.not_true, Bool.false_eq_true, if_false]
      by_cases h3 : a.Hist = b.Hist
      · rw [decide_eq_true h3]
        simp only [Bool.not_true, Bool.false_eq_true, if_false]
        congr 1; apply decide_eq_decide.2; unfold sameP; rw [T_point_what.mk.injEq]; constructor
        · rintro ⟨q1, q2, q3, q4, q5, q6, q7, q8, q9⟩; exact ⟨h1, h2, h3, q1, q2, q7, q3, q4, q5, q8, q9, q6⟩
        · rintro ⟨_, _, _, q1, q2, q7, q3, q4, q5, q8, q9, q6⟩; exact ⟨q1, q2, q3, q4, q5, q6, q7, q8, q9⟩
      · rw [decide_eq_false h3]; simp only [Bool.not_false, if_true]; congr 1; symm; rw [decide_eq_false_iff_not]; exact fun h => h3 h.2.2.1
    · rw [decide_eq_false h2]; simp only [Bool.not_false, if_true]; congr 1; symm; rw [decide_eq_false_iff_not]; exact fun h => h2 h.2.1
  · rw [if_pos h1, if_pos trivial]; congr 1; symm; rw [decide_eq_false_iff_not]; exact fun h => h1 h.1
theorem rSame_eq {a b : Pt} (ha : Few a) (hb : Few b) : m_limnographref12_Same a b = some (decide (sameP a b)) := by
  unfold m_limnographref12_Same
  have e : ∀ l : List Pr, l.length ≤ 20 → (srt l).length < 4611686018427387904 := fun l hl => by rw [srt_len]; omega
  have ea := ha.a
  have eb := hb.a
  rw [jn_eq, refSorted_eq _ (by omega), refSorted_eq _ (by omega), bndS, bndS, same_eq _ _ (e _ ha.a), bndS, rHist_eq _ _ ha.p ha.n]
  simp only [bndS, jn_eq, u64eq]
  by_cases h1 : a.Name = b.Name
  · rw [if_neg (fun h => h h1)]
    by_cases h2 : srt a.Attrs = srt b.Attrs
    · rw [decide_eq_true h2]
      simp only [Bool.not_true, Bool.false_eq_true, if_false]
      by_cases h3 : (((a.Kind ≠ b.Kind ∨ a.Temp ≠ b.Temp) ∨ a.Mono ≠ b.Mono) ∨ a.Start ≠ b.Start) ∨ a.Time ≠ b.Time
      · rw [if_pos h3]; congr 1; symm; rw [decide_eq_false_iff_not]; rintro ⟨_, _, _, q1, q2, q3, q4, q5, _⟩; rcases h3 with (((h | h) | h) | h) | h
        · exact h q1
        · exact h q2
        · exact h q3
        · exact h q4
        · exact h q5
      · rw [if_neg h3]
        simp only [not_or, ne_eq, Decidable.not_not] at h3
        obtain ⟨⟨⟨⟨q1, q2⟩, q3⟩, q4⟩, q5⟩ := h3
        by_cases h4 : ((a.Int_ = b.Int_ ∧ a.Re = b.Re) ∧ a.Im = b.Im) ∧ a.Flags = b.Flags
        · rw [if_pos h4]
          obtain ⟨⟨⟨r1, r2⟩, r3⟩, r4⟩ := h4
          congr 1; apply decide_eq_decide.2; simp [sameP, h1, h2, q1, q2, q3, q4, q5, r1, r2, r3, r4]
        · rw [if_neg h4]; congr 1; symm; rw [decide_eq_false_iff_not]; rintro ⟨_, _, _, _, _, _, _, _, r1, r2, r3, r4⟩; exact h4 ⟨⟨⟨r1, r2⟩, r3⟩, r4⟩
    · rw [decide_eq_false h2]; simp only [Bool.not_false, if_true]; congr 1; symm; rw [decide_eq_false_iff_not]; exact fun h => h2 h.2.1
  · rw [if_pos h1, if_pos trivial]; congr 1; symm; rw [decide_eq_false_iff_not]; exact fun h => h1 h.1
end Go.Proofs.YtfcpdojcfogkbaaGreat
