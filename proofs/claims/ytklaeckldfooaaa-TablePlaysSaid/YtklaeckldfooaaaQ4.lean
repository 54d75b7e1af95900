/-
  Chapter 14: the law TableOldest, as a plain form; plain Lean.
-/
import Derived.Test.YtklaeckldfooaaaQ3
namespace Go.Proofs.Ytklaeckldfooaaa
open Go Go.RowKit Go.Wk
theorem L3_eq (x0 : List Act) (order : List (List UInt8)) (i : Nat) (x : Act) (hx : x0[i]? = some x) (j : List (List UInt8) → Option Bool) (ho : order.length < 1000000) :
    m_limnographlaw14_TableOldest_L3 x0 order (i : Int) j fuel ([] : List (List UInt8)) 0 = j (order.filter fun k => decide (k ≠ x.Key)) := by
  rw [m_limnographlaw14_TableOldest_L3_scan _ _ _ _ _ (by omega)]
  refine (scanL_inv (fun p s => s = p.filter fun k => decide (k ≠ x.Key)) (fun p q s => j (s ++ q.filter fun k => decide (k ≠ x.Key))) rfl (fun s _ => by simp) fun p z q s k' hp hs hk => ?_).trans (by simp)
  have hsl : s.length ≤ p.length := by rw [hs]; exact List.length_filter_le _ _
  have hpl : p.length < order.length := by rw [← hp]; simp
  have hz : z ≠ x.Key → k' (s ++ [z]) = j ((s ++ [z]) ++ q.filter fun k => decide (k ≠ x.Key)) := fun h => hk _ (by rw [hs, List.filter_append, List.filter_cons_of_pos (by simpa using h)]; rfl)
  have hn : z = x.Key → k' s = j (s ++ q.filter fun k => decide (k ≠ x.Key)) := fun h => hk _ (by rw [hs, List.filter_append, List.filter_cons_of_neg (by simp [h])]; simp)
  rw [jn_eq, bndS, idx_nat, hx, bndS]
  by_cases h : z = x.Key
  · rw [if_neg (fun hh => hh h)]; dsimp only
    rw [hn h, List.filter_cons_of_neg (by simp [h])]
  · rw [if_pos h, bndS, app_some (by simp; omega), bndS]; dsimp only
    rw [hz h, List.filter_cons_of_pos (by simpa using h)]; simp
theorem keys_filter (l : List Th) (k : List UInt8) : (l.filter fun x => decide (x.Key ≠ k)).map (·.Key) = (l.map (·.Key)).filter fun x => decide (x ≠ k) := by
  induction l with
  | nil => rfl
  | cons w r ih =>
    by_cases hw : w.Key = k
    · rw [List.filter_cons_of_neg (by simp [hw]), List.map_cons, List.filter_cons_of_neg (by simp [hw]), ih]
    · rw [List.filter_cons_of_pos (by simp [hw]), List.map_cons, List.map_cons, List.filter_cons_of_pos (by simp [hw]), ih]
/-- What the first part of the law leaves: the keys in order, in the table and in the row. -/
theorem oldest_law (x0 : List Act) {p : Prop} (_ : p) : m_limnographlaw14_TableOldest x0 = some true := by
  unfold m_limnographlaw14_TableOldest
  rw [awake_eq, bndS, if_neg (by simp), few_eq, bndS]
  by_cases hf : x0.length ≤ 60 ∧ ∀ z ∈ x0, z.Key.length ≤ 60
  · obtain ⟨hf1, hf2⟩ := hf
    rw [if_neg (by simp; exact ⟨hf1, hf2⟩), (new_inv 100).1, bndS, jn_eq, m_limnographlaw14_TableOldest_L2_scan _ _ _ _ (by omega)]
    refine scanL_inv (fun p s => s.1.length ≤ p.length ∧ ∃ l a, l.map (·.Key) = s.1 ∧ InvA 100 l s.2 p.length a) (fun _ _ _ => some true) ⟨by simp, [], [], rfl, (new_inv 100).2⟩ (fun s hs => ?_) fun p x q s k hp hs hk => ?_
    · -- what was put down is taken away
      obtain ⟨hsl, l, a, hlk, h⟩ := hs
      unfold m_table_Table_int_Clone
      have hll : l.length = s.1.length := by rw [← hlk, List.length_map]
      rw [bndS, jn_eq, m_limnographlaw14_TableOldest_L1_scan _ _ _ (by omega)]
      refine scanL_inv (fun p' t => ∃ l' a', s.1 = p' ++ l'.map (·.Key) ∧ InvA 100 l' t x0.length a') (fun _ _ _ => some true) ⟨l, a, by simp [hlk], h⟩ (fun t ht => ?_) fun p' z q' t k' hp' ht hk' => ?_
      · obtain ⟨l', a', hl', h'⟩ := ht
        have hl0 : l' = [] := by
          have := congrArg List.length hl'
          simp at this
          exact this
        subst hl0
        have ho := h'.oldest
        have hlen := h'.len
        have hlen0 := h.len
        have hk0 : keysG s.2.m = some (sortK s.2.m) := by
          unfold keysG
          rw [if_pos ⟨fun k hk => by
            obtain ⟨p, hp, rfl⟩ := List.mem_map.1 hk
            have := h.short p (h.perm.mem_iff.1 hp); omega, by omega⟩]
        have hkl : (sortK s.2.m).length = s.1.length := by unfold sortK; rw [List.length_mergeSort, List.length_map]; omega
        unfold m_table_Table_int_Keys m_table_Table_int_Len
        rw [ho, bndS, jn_eq, if_pos (by rfl), bndS]
        dsimp only
        rw [jn_eq, if_pos (by rw [hlen]; simp), bndS]
        dsimp only
        rw [jn_eq, if_pos (by simp; omega), hk0, bndS, bndS]
        dsimp only
        rw [hkl]; simp
      · obtain ⟨l', a', hl', h'⟩ := ht
        cases l' with
        | nil => rw [← hp'] at hl'; simp at hl'
        | cons y r =>
          have hpq := hp'.trans hl'
          have hz : z :: q' = y.Key :: r.map (·.Key) := by simpa using hpq
          obtain ⟨rfl, rfl⟩ := List.cons.inj hz
          have ho : m_table_Table_int_Oldest t = some (y.Key, true) := h'.oldest
          have hlen := h'.len
          have hq : s.1.length = p'.length + (r.length + 1) := by rw [hl']; simp
          obtain ⟨is, l1, t1, hd1, hd2, hdi, hI⟩ := h'.del (by rw [List.length_cons]; omega) y.Key
          have hin : y.Key ∈ a'.map (·.1) := by
            have : y ∈ a'.map thOf := by rw [h'.list]; simp
            obtain ⟨w, hw, rfl⟩ := List.mem_map.1 this
            exact List.mem_map_of_mem hw
          rw [hdi.2 hin] at hd1
          have hl1 : l1 = r := by
            rw [del_eq _ _ (by rw [List.length_cons]; omega)] at hd2
            cases hd2
            have hnd := h'.lkeys
            rw [List.map_cons, List.nodup_cons] at hnd
            rw [List.filter_cons_of_neg (by simp)]
            exact List.filter_eq_self.2 fun w hw => by simpa using fun hh : w.Key = y.Key => hnd.1 (by rw [← hh]; exact List.mem_map_of_mem hw)
          subst hl1
          obtain ⟨is2, l2, t2, hd3, hd4, hdi2, hI2⟩ := hI.del (by omega) y.Key
          have hnot : is2 = false := by
            cases his : is2 with
            | false => rfl
            | true =>
              have := hdi2.1 his
              obtain ⟨w, hw, hwk⟩ := List.mem_map.1 this
              have := (List.mem_filter.1 hw).2
              simp at this
              exact absurd hwk this
          subst hnot
          have hl2 : l2 = l1 := by
            rw [del_eq _ _ (by omega)] at hd4
            cases hd4
            have hnd := h'.lkeys
            rw [List.map_cons, List.nodup_cons] at hnd
            exact List.filter_eq_self.2 fun w hw => by simpa using fun hh : w.Key = y.Key => hnd.1 (by rw [← hh]; exact List.mem_map_of_mem hw)
          subst hl2
          unfold m_table_Table_int_Len
          rw [ho, bndS, bndS, jn_eq]
          rw [if_neg (by simp), bndS, hlen]
          rw [W64_id (by omega) (by omega)]
          dsimp only
          rw [jn_eq, if_neg (by simp; omega), hd1, bndS]
          dsimp only
          rw [jn_eq, if_neg (by simp), hd3, bndS]
          dsimp only
          rw [if_neg (by simp)]
          exact hk' _ ⟨l2, _, by simp [hl'], hI2⟩
    · obtain ⟨hsl, l, a, hlk, h⟩ := hs
      have hpl : p.length < x0.length := by rw [← hp]; simp
      have hxk := hf2 x (by rw [← hp]; simp)
      have hll : l.length = s.1.length := by rw [← hlk, List.length_map]
      obtain ⟨may, l', t', hp1, _, ⟨a', hI⟩, hl1, hl2, hl3⟩ := h.put (by omega) (by omega) (by omega) (by omega) hxk (p.length : Int)
      obtain rfl : may = true := hl3 (by omega)
      rw [bndS, hp1, bndS, if_neg (by simp), jn_eq, L3_eq x0 s.1 p.length x (by rw [← hp]; simp) _ (by omega), bndS]
      have hfl := List.length_filter_le (fun k => decide (k ≠ x.Key)) s.1
      rw [app_some (by simp only [List.length_append, List.length_cons, List.length_nil]; omega), bndS]
      refine hk _ ⟨by simp only [List.length_append, List.length_cons, List.length_nil]; omega, l', a', ?_, by simpa using hI⟩
      dsimp only
      rw [hl2 rfl, List.map_append, ← hlk]
      rw [keys_filter]; rfl
  · rw [if_pos (by rw [decide_eq_false hf]; rfl)]
end Go.Proofs.Ytklaeckldfooaaa
