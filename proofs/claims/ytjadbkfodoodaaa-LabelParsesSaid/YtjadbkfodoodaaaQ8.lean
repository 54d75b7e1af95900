/-
  The laws LabelBack and LabelMatches, as plain forms; plain Lean.
-/
import Derived.Test.YtjadbkfodoodaaaQ7
namespace Go.Proofs.Ytjadbkfodoodaaa
open Go Go.RowKit Go.Wk
theorem light_len {l : List Pr} (h : light l = true) : l.length ≤ 20 := by unfold light at h; simp at h; exact h.1
theorem text_len {name : Txt} {l : List Pr} (h : check name l = 0) : (name ++ texts (srt l)).length ≤ 32 + 66 * 4 := by
  obtain ⟨h1, h2, h3⟩ := check_ok h
  have := nameB_len h1
  have ht : ∀ m : List Pr, (∀ a ∈ m, a.Key.length ≤ 32 ∧ a.Val.length ≤ 32) → (texts m).length ≤ 66 * m.length := by
    intro m
    induction m with
    | nil => intro _; simp [texts]
    | cons a m ih => intro hm; have := ih fun b hb => hm b (by simp [hb]); have := hm a (by simp); rw [texts_cons, List.length_append, at1_len, List.length_cons]; omega
  have hs := (chk_iff _ _).1 (chk_srt h3)
  have := ht (srt l) fun a ha => ⟨nameB_len (hs.1 a ha).1, valB_len (hs.1 a ha).2⟩
  rw [srt_len] at this
  rw [List.length_append]; omega
theorem back_law (n1 : Txt) (l1 : List Pr) (n2 : Txt) (l2 : List Pr) : m_limnographlaw11_LabelBack n1 l1 n2 l2 = some true := by
  unfold m_limnographlaw11_LabelBack
  rw [awake_eq, bndS, if_neg (by simp)]
  simp only [jn_eq, light_eq, bndS]
  by_cases h : (n1.length : Int) > 100 ∨ (n2.length : Int) > 100
  · rw [if_pos h]; rfl
  rw [if_neg h]
  cases hl1 : light l1 with
  | false => rfl
  | true =>
  cases hl2 : light l2 with
  | false => rfl
  | true =>
  have hn1 := light_len hl1
  have hn2 := light_len hl2
  simp only [Bool.not_true, Bool.false_eq_true, if_false, text_eq, bndS]
  by_cases h1 : check n1 l1 = 0
  · by_cases h2 : check n2 l2 = 0
    · have t1 : text n1 l1 = (n1 ++ texts (srt l1), 0) := by unfold text; rw [if_pos h1]
      have t2 : text n2 l2 = (n2 ++ texts (srt l2), 0) := by unfold text; rw [if_pos h2]
      have := text_len h1
      rw [t1, t2]
      rw [if_neg (by simp), parse_eq _ (by dsimp only; omega), bndS, sorted_eq l1 hn1, bndS, sorted_eq l2 hn2, bndS, parse_text h1]
      dsimp only
      rw [if_neg (by simp), same_eq _ _ (by rw [srt_len]; omega), bndS]
      rw [if_neg (by simp)]
      have hi := text_inj h1 h2
      by_cases hn : n1 = n2
      · rw [if_pos hn, same_eq _ _ (by rw [srt_len]; omega), bndS]
        congr 1
        subst hn
        simp at hi
        simp [hi]
      · rw [if_neg hn]
        congr 1
        simp [hi, hn]
    · have t2 : (text n2 l2).2 ≠ 0 := by unfold text; rw [if_neg h2]; exact h2
      have t1 : (text n1 l1).2 = 0 := by unfold text; rw [if_pos h1]
      rw [if_pos (.inr t2)]; simp [t1]
  · have t1 : (text n1 l1).2 ≠ 0 := by unfold text; rw [if_neg h1]; exact h1
    have t2 : (text n1 l1).1 = [] := by unfold text; rw [if_neg h1]
    rw [if_pos (.inl t1)]; simp [t2]
theorem contains2_eq (l : List Pr) (a : Pr) (h : l.length < 4611686018427387904) : m_slices_Contains_api_Pair_api_Pair l a = some (decide (a ∈ l)) := by
  unfold m_slices_Contains_api_Pair_api_Pair m_slices_Index_api_Pair_api_Pair
  rw [jn_eq, m_slices_Index_api_Pair_api_Pair_L1_scan _ _ _ h]
  rw [scanL_pre (fun p q _ => some (if a ∈ q then ((p.length + q.findIdx fun b => decide (a = b) : Nat) : Int) else -1)) ?_ ?_]
  · by_cases h : a ∈ l <;> simp [bndS, h]
  · intro s; rfl
  · intro p x q _ k _ hk
    simp only [bndS, hk]
    by_cases hx : a = x
    · simp [hx, List.findIdx_cons]
    · simp [hx, List.findIdx_cons]; congr 1; omega
def matchB (n1 : Txt) (l1 : List Pr) (n2 : Txt) (l2 : List Pr) : Bool := decide (check n1 l1 = 0) && decide (check n2 l2 = 0) && decide (n1 = n2) && l2.all fun a => decide (a ∈ l1)
theorem matches_eq (n1 : Txt) (l1 : List Pr) (n2 : Txt) (l2 : List Pr) (b1 : l1.length ≤ 20) (b2 : l2.length ≤ 20) : m_label_Matches n1 l1 n2 l2 = some (matchB n1 l1 n2 l2) := by
  unfold m_label_Matches matchB
  simp only [jn_eq, check_eq, bndS]
  rw [m_label_Matches_L1_scan _ _ _ (by omega), scanL_all (fun a => decide (a ∈ l1)) (some false)]
  · have : (if (l2.all fun a => decide (a ∈ l1)) = true then some true else some false) = some (l2.all fun a => decide (a ∈ l1)) := by cases (l2.all fun a => decide (a ∈ l1)) <;> rfl
    rw [this]
    by_cases h1 : check n1 l1 = 0 <;> by_cases h2 : check n2 l2 = 0 <;> by_cases h3 : n1 = n2 <;> simp_all
  · intro i x k _
    rw [bndS, contains2_eq _ _ (by omega), bndS]
    by_cases hx : x ∈ l1 <;> simp [hx]
theorem want_in (l1 l2 : List Pr) (x : Pr) (y : Nat) (hx : idx l2 (y : Int) = some x) (b1 : l1.length ≤ 20) (j : Bool → Option Bool) : m_limnographlaw11_LabelMatches_L2 l1 l2 (y : Int) j fuel false 0 = j (decide (x ∈ l1)) := by
  rw [m_limnographlaw11_LabelMatches_L2_scan _ _ _ _ _ (by omega), scanL_fold (fun s a => s || decide (a = x))]
  · congr 1
    have : ∀ (l : List Pr) (s : Bool), l.foldl (fun s a => s || decide (a = x)) s = (s || decide (x ∈ l)) := by
      intro l
      induction l with
      | nil => intro s; simp
      | cons a l ih => intro s; rw [List.foldl_cons, ih]; cases s <;> simp; by_cases h : a = x <;> simp [h]; grind
    rw [this]; simp
  · intro i a s k _
    simp only [jn_eq, bndS, hx]
    cases s <;> simp
theorem want_eq (l1 l2 : List Pr) (b1 : l1.length ≤ 20) (b2 : l2.length ≤ 20) (j : Bool → Option Bool) (w : Bool) : m_limnographlaw11_LabelMatches_L1 l1 l2 j fuel w 0 = j (w && l2.all fun a => decide (a ∈ l1)) := by
  rw [m_limnographlaw11_LabelMatches_L1_scan _ _ _ _ (by omega)]
  rw [scanL_pre (fun p q s => j (s && q.all fun a => decide (a ∈ l1))) ?_ ?_]
  · intro s; simp
  · intro p x q s k hp hk
    rw [jn_eq, want_in l1 l2 x p.length (by rw [← hp]; exact idx_mid _ _ _) b1, hk, List.all_cons]
    congr 1
    by_cases hx : x ∈ l1 <;> cases s <;> simp [hx]
theorem same_srt {l1 l2 : List Pr} (h1 : chk [] l1 = 0) (h2 : chk [] l2 = 0) (h12 : ∀ a ∈ l2, a ∈ l1) (h21 : ∀ a ∈ l1, a ∈ l2) : srt l1 = srt l2 := by
  have d1 := ((chk_iff _ _).1 h1).2.2
  have d2 := ((chk_iff _ _).1 h2).2.2
  have nd : ∀ {l : List Pr}, l.Pairwise (fun a b => a.Key ≠ b.Key) → l.Nodup := fun h => h.imp fun h e => h (by rw [e])
  have hp : l1.Perm l2 := (List.perm_ext_iff_of_nodup (nd d1) (nd d2)).2 fun a => ⟨h21 a, h12 a⟩
  refine List.Perm.eq_of_pairwise ?_ (srt_le l1) (srt_le l2) (((srt_perm l1).trans hp).trans (srt_perm l2).symm)
  intro a b ha hb hab hba
  have hk := le_anti hab hba
  have ha := (srt_mem a l1).1 ha
  have hb := h12 b ((srt_mem b l2).1 hb)
  exact List.Pairwise.forall_of_forall_of_flip (R := fun a b : Pr => a.Key = b.Key → a = b) (fun _ _ _ => rfl) (d1.imp fun h e => absurd e h) (d1.imp fun h e => absurd e.symm h) ha hb hk
theorem matches_law (n1 : Txt) (l1 : List Pr) (n2 : Txt) (l2 : List Pr) : m_limnographlaw11_LabelMatches n1 l1 n2 l2 = some true := by
  unfold m_limnographlaw11_LabelMatches
  rw [awake_eq, bndS, if_neg (by simp)]
  simp only [jn_eq, light_eq, bndS]
  by_cases h : (n1.length : Int) > 100 ∨ (n2.length : Int) > 100
  · rw [if_pos h]; rfl
  rw [if_neg h]
  cases hl1 : light l1 with
  | false => rfl
  | true =>
  cases hl2 : light l2 with
  | false => rfl
  | true =>
  have b1 := light_len hl1
  have b2 := light_len hl2
  simp only [Bool.not_true, Bool.false_eq_true, if_false, refCheck_eq, text_eq, bndS, want_eq l1 l2 b1 b2, matches_eq n1 l1 n2 l2 b1 b2, matches_eq n2 l2 n1 l1 b2 b1]
  have key : (matchB n1 l1 n2 l2 && matchB n2 l2 n1 l1) = decide (((text n1 l1).2 = 0 ∧ (text n2 l2).2 = 0) ∧ (text n1 l1).1 = (text n2 l2).1) := by
    unfold matchB text
    by_cases h1 : check n1 l1 = 0
    · by_cases h2 : check n2 l2 = 0
      · simp only [h1, h2, if_true]
        have hi := text_inj h1 h2
        by_cases hn : n1 = n2
        · have h3 : srt l1 = srt l2 ↔ (∀ a ∈ l2, a ∈ l1) ∧ (∀ a ∈ l1, a ∈ l2) := by
            constructor
            · intro e; exact ⟨fun a ha => (srt_mem a l1).1 (e ▸ (srt_mem a l2).2 ha), fun a ha => (srt_mem a l2).1 (e ▸ (srt_mem a l1).2 ha)⟩
            · intro e; exact same_srt (check_ok h1).2.2 (check_ok h2).2.2 e.1 e.2
          subst hn
          simp at hi
          rw [Bool.eq_iff_iff]
          simp [hi, h3]
        · simp [hi, hn]
      · simp [h1, h2]
    · simp [h1]
  have want : ∀ b : Bool, (b = (decide (check n1 l1 = 0) && decide (check n2 l2 = 0))) → decide (decide (b = true ∧ n1 = n2) && l2.all (fun a => decide (a ∈ l1))) = matchB n1 l1 n2 l2 := by
    intro b hb; subst hb; unfold matchB; rw [Bool.eq_iff_iff]; simp
  by_cases h1 : check n1 l1 = 0
  · rw [if_pos h1]
    have w := want (decide (check n2 l2 = 0)) (by simp [h1])
    congr 1
    simp only [decide_eq_true_eq] at w ⊢
    rw [← key]
    exact ⟨by rw [← w, Bool.eq_iff_iff]; simp, by simp⟩
  · rw [if_neg h1]
    have w := want false (by simp [h1])
    congr 1
    simp only [decide_eq_true_eq] at w ⊢
    rw [← key]
    exact ⟨by rw [← w, Bool.eq_iff_iff]; simp, by simp⟩
end Go.Proofs.Ytjadbkfodoodaaa
