/-
  Chapter 14: the document's list of things, told shorter; plain Lean.
-/
import Derived.Test.YtklaeckldfooaaaLA
import Derived.Test.YtklaeckldfooaaaWx
namespace Go.Proofs.Ytklaeckldfooaaa
open Go Go.RowKit Go.Wk
abbrev Th := T_limnographref14_Thing
abbrev Sl := T_table_slot_int_
abbrev Tb := T_table_Table_int_
abbrev Act := T_limnographlaw14_Act
theorem find_none {l : List Th} {k : List UInt8} (hl : l.length < 1000000) (h : ∀ x ∈ l, x.Key ≠ k) : m_limnographref14_find l k = some (-1) := by
  unfold m_limnographref14_find
  rw [jn_eq, m_limnographref14_find_L1_scan _ _ _ (by omega)]
  exact scanL_inv (fun _ _ => True) (fun _ _ _ => some (-1)) trivial (fun _ _ => rfl) fun p x q s k' hp _ hk => by
    rw [bndS, if_neg (h x (by rw [← hp]; simp)), hk () trivial]
theorem find_some {a : List Th} {x : Th} {b : List Th} {k : List UInt8} (hl : (a ++ x :: b).length < 1000000) (h : ∀ y ∈ a, y.Key ≠ k) (hx : x.Key = k) : m_limnographref14_find (a ++ x :: b) k = some (a.length : Int) := by
  unfold m_limnographref14_find
  rw [jn_eq, m_limnographref14_find_L1_scan _ _ _ (by omega)]
  unfold scanL
  have key : ∀ (q p : List Th), p ++ q = a → ∀ (J : Unit → Option Int), scan (fun ii (xx : Th) ss kk => (some xx).bind fun z7 => if z7.Key = k then some (ii : Int) else kk ()) J p.length (q ++ x :: b) () = some (a.length : Int) := by
    intro q
    induction q with
    | nil => intro p hp J; rw [List.append_nil] at hp; subst hp; rw [List.nil_append, scan_cons, bndS, if_pos hx]
    | cons y q ih =>
      intro p hp J
      rw [List.cons_append, scan_cons, bndS, if_neg (h y (by rw [← hp]; simp))]
      have := ih (p ++ [y]) (by simpa using hp) J
      simpa using this
  exact key a [] rfl _
theorem split_key (l : List Th) (k : List UInt8) : (∀ x ∈ l, x.Key ≠ k) ∨ ∃ a x b, l = a ++ x :: b ∧ (∀ y ∈ a, y.Key ≠ k) ∧ x.Key = k := by
  rcases splitF (fun x : Th => decide (x.Key = k)) l with h | ⟨a, x, b, h0, h1, h2⟩
  · exact .inl fun x hx => by simpa using h x hx
  · exact .inr ⟨a, x, b, h0, fun y hy => by simpa using h1 y hy, by simpa using h2⟩
theorem get_none {l : List Th} {k : List UInt8} (hl : l.length < 1000000) (h : ∀ x ∈ l, x.Key ≠ k) : m_limnographref14_Get l k = some (0, false) := by
  unfold m_limnographref14_Get
  rw [find_none hl h, bndS, if_neg (by omega)]
theorem get_some {l : List Th} {x : Th} (hl : l.length < 1000000) (hn : (l.map (·.Key)).Nodup) (hx : x ∈ l) : m_limnographref14_Get l x.Key = some (x.V, true) := by
  rcases split_key l x.Key with h | ⟨a, y, b, rfl, h1, h2⟩
  · exact absurd rfl (h x hx)
  · have : y = x := nodup_el hn (by simp) hx h2
    subst this
    unfold m_limnographref14_Get
    rw [find_some hl h1 rfl, bndS, if_pos (by omega), idx_mid, bndS]
theorem del_eq (l : List Th) (k : List UInt8) (hl : l.length < 1000000) : m_limnographref14_Del l k = some (l.filter fun x => decide (x.Key ≠ k)) := by
  unfold m_limnographref14_Del
  rw [jn_eq, m_limnographref14_Del_L1_scan _ _ _ _ (by omega)]
  refine (scanL_inv (fun p s => s = p.filter fun x => decide (x.Key ≠ k)) (fun p q s => some (s ++ q.filter fun x => decide (x.Key ≠ k))) rfl (fun s _ => by simp) fun p x q s k' hp hs hk => ?_).trans (by simp)
  rw [jn_eq, bndS, bndS]
  have hsl : s.length ≤ p.length := by rw [hs]; exact List.length_filter_le _ _
  have hpl : p.length < l.length := by rw [← hp]; simp
  by_cases hx : x.Key = k
  · rw [if_neg (fun h => h hx)]; dsimp only; rw [hk s (by rw [hs, List.filter_append]; simp [hx]), List.filter_cons_of_neg (by simp [hx])]
  · rw [if_pos hx, app_some (by simp; omega), bndS]; dsimp only; rw [hk _ (by rw [hs, List.filter_append]; simp [hx]), List.filter_cons_of_pos (by simp [hx])]
    simp
theorem sorted_L2 (l : List Th) (s : List Th) (i : Nat) (x : Th) (hx : l[i]? = some x) (hs : s.length < 1000000) (j : Int → Option (List Th)) :
    ∃ k : Nat, k ≤ s.length ∧ m_limnographref14_Sorted_L2 l s (i : Int) j fuel (s.length : Int) = j k ∧ (∀ q, k ≤ q → (h : q < s.length) → x.Key < s[q].Key) ∧ (k = 0 ∨ ∃ h : k - 1 < s.length, ¬ x.Key < s[k - 1].Key) := by
  obtain ⟨k, h1, h2, h3, h4⟩ := back_scan (fun n z => m_limnographref14_Sorted_L2 l s (i : Int) j n z) j (fun q => ((s[q]?).map fun y => decide (x.Key < y.Key)).getD false) s.length hs (fun n k hk => by
    show m_limnographref14_Sorted_L2 l s (i : Int) j (n + 1) (k : Int) = _
    rw [m_limnographref14_Sorted_L2]
    rw [jn_eq]
    by_cases h0 : 0 < k
    · have hlt : k - 1 < s.length := by omega
      have hw : W64 ((k : Int) - 1) = ((k - 1 : Nat) : Int) := by rw [W64_id (by omega) (by omega)]; omega
      rw [if_pos (by omega), hw, idx_at hlt, bndS, idx_nat, hx, bndS, bl_eq]
      have hg : s[k - 1]? = some s[k - 1] := List.getElem?_eq_getElem hlt
      simp only [hg, Option.map_some, Option.getD_some, h0, true_and]
    · rw [if_neg (show ¬ ((k : Int) > 0) by omega)]
      dsimp only
      rw [if_neg (by simp), if_neg (fun hh => h0 hh.1)])
  refine ⟨k, h1, h2, fun q hq hlt => ?_, ?_⟩
  · have := h3 q hq hlt
    rw [List.getElem?_eq_getElem hlt] at this
    simpa using this
  · rcases Nat.eq_zero_or_pos k with h0 | h0
    · exact .inl h0
    · rcases h4 with h4 | h4
      · omega
      · have hlt : k - 1 < s.length := by omega
        refine .inr ⟨hlt, ?_⟩
        rw [List.getElem?_eq_getElem hlt] at h4
        simpa using h4
theorem sorted_ok (l : List Th) (hl : l.length ≤ 1000) : ∃ s, m_limnographref14_Sorted l = some s ∧ s.Perm l ∧ Rising (·.Key) s := by
  unfold m_limnographref14_Sorted
  rw [jn_eq, m_limnographref14_Sorted_L1_scan _ _ _ (by omega)]
  unfold scanL
  have key : ∀ (q p s : List Th), p ++ q = l → s.Perm p → Rising (·.Key) s → ∃ s', scan (fun ii (xx : Th) ss kk =>
      jn (fun (y15 : Int) =>
      ((cutL ss 0 y15).bind fun z17 =>
        (appL ([] : List T_limnographref14_Thing) z17).bind fun z21 =>
        (some xx).bind fun z25 =>
        (appL z21 [z25]).bind fun z27 =>
        (cutL ss y15 ((ss).length)).bind fun z29 =>
        (appL z27 z29).bind fun z31 =>
        kk z31)) fun j2 =>
    m_limnographref14_Sorted_L2 l ss (ii : Int) j2 fuel (ss.length : Int)) (fun ss => some ss) p.length q s = some s' ∧ s'.Perm l ∧ Rising (·.Key) s' := by
    intro q
    induction q with
    | nil => intro p s hp h1 h2; rw [List.append_nil] at hp; subst hp; exact ⟨s, rfl, h1, h2⟩
    | cons x q ih =>
      intro p s hp h1 h2
      have hpl : p.length < l.length := by rw [← hp]; simp
      have hsl := h1.length_eq
      rw [scan_cons, jn_eq]
      obtain ⟨k, hk, hL, h3, h4⟩ := sorted_L2 l s p.length x (by rw [← hp]; simp) (by omega) (fun (y15 : Int) =>
      ((cutL s 0 y15).bind fun z17 =>
        (appL ([] : List T_limnographref14_Thing) z17).bind fun z21 =>
        (some x).bind fun z25 =>
        (appL z21 [z25]).bind fun z27 =>
        (cutL s y15 ((s).length)).bind fun z29 =>
        (appL z27 z29).bind fun z31 =>
        scan (fun ii (xx : Th) ss kk =>
      jn (fun (y15 : Int) =>
      ((cutL ss 0 y15).bind fun z17 =>
        (appL ([] : List T_limnographref14_Thing) z17).bind fun z21 =>
        (some xx).bind fun z25 =>
        (appL z21 [z25]).bind fun z27 =>
        (cutL ss y15 ((ss).length)).bind fun z29 =>
        (appL z27 z29).bind fun z31 =>
        kk z31)) fun j2 =>
    m_limnographref14_Sorted_L2 l ss (ii : Int) j2 fuel (ss.length : Int)) (fun ss => some ss) (p.length + 1) q z31))
      rw [hL, cut_some (by omega) (by omega) (by omega), bndS, app_some (by simp; omega), bndS, bndS, app_some (by simp; omega), bndS, cut_some (by omega) (by omega) (by omega), bndS, app_some (by simp; omega), bndS]
      obtain ⟨h5, h6⟩ := h2.insert hk h3 h4
      have he : [] ++ List.drop (Int.toNat 0) (List.take (Int.toNat (k : Int)) s) ++ [x] ++ List.drop (Int.toNat (k : Int)) (List.take (Int.toNat (s.length : Int)) s) = s.take k ++ x :: s.drop k := by simp
      rw [he]
      have := ih (p ++ [x]) _ (by simpa using hp) (h6.trans ((List.perm_append_singleton x p).trans (h1.symm.cons x)).symm) h5
      simpa using this
  exact key l [] [] rfl (.refl _) List.Pairwise.nil
end Go.Proofs.Ytklaeckldfooaaa
