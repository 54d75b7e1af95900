/-
  Chapter 18: the document's list of files, told shorter; plain Lean.
-/
import Derived.Test.YtknenggmdnpimaaLA
import Derived.Test.YtknenggmdnpimaaWx
set_option linter.unusedVariables false
set_option linter.unusedSimpArgs false
namespace Go.Proofs.Ytknenggmdnpimaa
open Go Go.RowKit Go.Wk
abbrev Fi := T_limnographref18_File
abbrev Dd := T_limnographref18_Disk
theorem name_eq (s : List UInt8) : m_limnographref18_Name s = some (isNm s) := by
  unfold m_limnographref18_Name
  by_cases h : (s.length : Int) < 1 ∨ (s.length : Int) > 32
  · rw [if_pos h, isNm_len s (by rcases h with h | h; exact .inl (List.length_eq_zero_iff.1 (by omega)); exact .inr (by omega))]
  · rw [if_neg h, jn_eq, m_limnographref18_Name_L1_scan _ _ (by omega)]
    rw [scanL_all (fun c => decide (okC c)) (some false) (fun i x k _ => by
      rw [bndS]
      by_cases hc : okC x
      · have hc' := hc
        unfold okC at hc'
        rw [if_neg (by omega), if_pos (by simp [hc])]
      · have hc' := hc
        unfold okC at hc'
        rw [if_pos (by omega), if_neg (by simp [hc])])]
    have h0 : isNm s = s.all fun c => decide (okC c) := by
      unfold isNm
      have h1 : s.isEmpty = false := by cases s with | nil => simp at h | cons a r => rfl
      have h2 : decide (s.length ≤ 32) = true := by simp; omega
      rw [h1, h2]; simp
    rw [h0]
    cases s.all fun c => decide (okC c) <;> rfl
theorem find_none {d : Dd} {k : List UInt8} (hl : d.L.length < 1000000) (h : ∀ x ∈ d.L, x.Name ≠ k) : m_limnographref18_Disk_Find d k = some (-1) := by
  unfold m_limnographref18_Disk_Find
  rw [jn_eq, m_limnographref18_Disk_Find_L1_scan _ _ _ (by omega)]
  exact scanL_inv (fun _ _ => True) (fun _ _ _ => some (-1)) trivial (fun _ _ => rfl) fun p x q s k' hp _ hk => by
    rw [bndS, if_neg (h x (by rw [← hp]; simp)), hk () trivial]
theorem find_some {d : Dd} {a : List Fi} {x : Fi} {b : List Fi} {k : List UInt8} (hd : d.L = a ++ x :: b) (hl : d.L.length < 1000000) (h : ∀ y ∈ a, y.Name ≠ k) (hx : x.Name = k) : m_limnographref18_Disk_Find d k = some (a.length : Int) := by
  unfold m_limnographref18_Disk_Find
  rw [jn_eq, m_limnographref18_Disk_Find_L1_scan _ _ _ (by omega), hd]
  unfold scanL
  have key : ∀ (q p : List Fi), p ++ q = a → ∀ (J : Unit → Option Int), scan (fun ii (xx : Fi) ss kk => (some xx).bind fun z7 => if z7.Name = k then some (ii : Int) else kk ()) J p.length (q ++ x :: b) () = some (a.length : Int) := by
    intro q
    induction q with
    | nil => intro p hp J; rw [List.append_nil] at hp; subst hp; rw [List.nil_append, scan_cons, bndS, if_pos hx]
    | cons y q ih =>
      intro p hp J
      rw [List.cons_append, scan_cons, bndS, if_neg (h y (by rw [← hp]; simp))]
      have := ih (p ++ [y]) (by simpa using hp) J
      simpa using this
  exact key a [] rfl _
theorem used_eq (d : Dd) (hl : d.L.length < 1000000) (hu : (d.L.map fun x => x.Data.length).sum ≤ 8388608) : m_limnographref18_Disk_Used d = some (((d.L.map fun x => x.Data.length).sum : Nat) : Int) := by
  unfold m_limnographref18_Disk_Used
  rw [jn_eq, m_limnographref18_Disk_Used_L1_scan _ _ _ (by omega)]
  refine (scanL_inv (fun (p : List Fi) (s : Int) => s = ((p.map fun x : Fi => x.Data.length).sum : Nat)) (fun (p q : List Fi) (s : Int) => some (s + ((q.map fun x : Fi => x.Data.length).sum : Nat))) rfl (fun s _ => by simp) fun p x q s k' hp hs hk => ?_).trans (by simp)
  rw [bndS]
  have h1 : (d.L.map fun x => x.Data.length).sum = (p.map fun x => x.Data.length).sum + (x.Data.length + (q.map fun x => x.Data.length).sum) := by rw [← hp]; simp
  rw [W64_id (by omega) (by omega), hk _ (by simp [hs])]
  congr 1
  simp; omega
theorem without_eq (d : Dd) (k : List UInt8) (hl : d.L.length < 1000000) : m_limnographref18_Disk_without d k = some (d.L.filter fun x => decide (x.Name ≠ k)) := by
  unfold m_limnographref18_Disk_without
  rw [jn_eq, m_limnographref18_Disk_without_L1_scan _ _ _ _ (by omega)]
  refine (scanL_inv (fun p s => s = p.filter fun x => decide (x.Name ≠ k)) (fun p q s => some (s ++ q.filter fun x => decide (x.Name ≠ k))) rfl (fun s _ => by simp) fun p x q s k' hp hs hk => ?_).trans (by simp)
  rw [jn_eq, bndS]
  have hsl : s.length ≤ p.length := by rw [hs]; exact List.length_filter_le _ _
  have hpl : p.length < d.L.length := by rw [← hp]; simp
  by_cases hx : x.Name = k
  · rw [if_neg (fun h => h hx)]; dsimp only; rw [hk s (by rw [hs, List.filter_append]; simp [hx]), List.filter_cons_of_neg (by simp [hx])]
  · rw [if_pos hx, bndS, app_some (by simp; omega), bndS]; dsimp only; rw [hk _ (by rw [hs, List.filter_append]; simp [hx]), List.filter_cons_of_pos (by simp [hx])]
    simp
theorem put_L1 (f : Fi) (s : List Fi) (hs : s.length < 1000000) (j : Int → Option Dd) :
    ∃ k : Nat, k ≤ s.length ∧ m_limnographref18_Disk_put_L1 f s j fuel (s.length : Int) = j k ∧ (∀ q, k ≤ q → (h : q < s.length) → f.Name < s[q].Name) ∧ (k = 0 ∨ ∃ h : k - 1 < s.length, ¬ f.Name < s[k - 1].Name) := by
  obtain ⟨k, h1, h2, h3, h4⟩ := back_scan (fun n z => m_limnographref18_Disk_put_L1 f s j n z) j (fun q => ((s[q]?).map fun y => decide (f.Name < y.Name)).getD false) s.length hs (fun n k hk => by
    show m_limnographref18_Disk_put_L1 f s j (n + 1) (k : Int) = _
    rw [m_limnographref18_Disk_put_L1]
    rw [jn_eq]
    by_cases h0 : 0 < k
    · have hlt : k - 1 < s.length := by omega
      have hw : W64 ((k : Int) - 1) = ((k - 1 : Nat) : Int) := by rw [W64_id (by omega) (by omega)]; omega
      rw [if_pos (by omega), hw, idx_at hlt, bndS, bl_eq]
      have hg : s[k - 1]? = some s[k - 1] := List.getElem?_eq_getElem hlt
      simp only [hg, Option.map_some, Option.getD_some, h0, true_and]
    · rw [if_neg (show ¬ ((k : Int) > 0) by omega)]
      dsimp only
      rw [if_neg (by simp), if_neg (fun hh => h0 hh.1)])
  refine ⟨k, h1, h2, fun q hq hlt => ?_, ?_⟩
  · have := h3 q hq hlt
    rw [List.getElem?_eq_getElem hlt] at this
    simpa using this
  · rcases Nat.eq_zero_or_pos k with h0 | h0
    · exact .inl h0
    · rcases h4 with h4 | h4
      · omega
      · have hlt : k - 1 < s.length := by omega
        refine .inr ⟨hlt, ?_⟩
        rw [List.getElem?_eq_getElem hlt] at h4
        simpa using h4
/-- What is put lies in its place. -/
theorem put_eq (d : Dd) (f : Fi) (hl : d.L.length < 100000) (hr : Rising (fun x : Fi => x.Name) d.L) :
    ∃ L', m_limnographref18_Disk_put d f = some { d with L := L' } ∧ Rising (fun x : Fi => x.Name) L' ∧ L'.Perm (f :: d.L.filter fun x => decide (x.Name ≠ f.Name)) := by
  unfold m_limnographref18_Disk_put
  rw [without_eq d f.Name (by omega), bndS, jn_eq]
  generalize hs : d.L.filter (fun x => decide (x.Name ≠ f.Name)) = s
  have hsl : s.length ≤ d.L.length := by rw [← hs]; exact List.length_filter_le _ _
  have hsr : Rising (fun x : Fi => x.Name) s := by rw [← hs]; exact hr.sublist List.filter_sublist
  obtain ⟨k, h1, h2, h3, h4⟩ := put_L1 f s (by omega) (fun (y15 : Int) =>
    ((cutL s 0 y15).bind fun z17 =>
      (appL ([] : List T_limnographref18_File) z17).bind fun z21 =>
      (appL z21 [({ Name := f.Name, Data := f.Data, Sure := f.Sure } : T_limnographref18_File)]).bind fun z25 =>
      (cutL s y15 ((s).length)).bind fun z27 =>
      (appL z25 z27).bind fun z29 =>
      some ({ L := z29, Capacity := d.Capacity, Down := d.Down, Calls := d.Calls, Fail := d.Fail, Crash := d.Crash, Err := d.Err } : T_limnographref18_Disk)))
  rw [h2]
  obtain ⟨q1, q2⟩ := Rising.insert (x := f) h1 hsr h3 h4
  refine ⟨_, ?_, q1, q2⟩
  rw [cut_some (by omega) (by omega) (by omega), bndS, app_some (by simp; omega), bndS, app_some (by simp; omega), bndS, cut_some (by omega) (by omega) (by omega), bndS, app_some (by simp; omega), bndS]
  congr 2
  simp
end Go.Proofs.Ytknenggmdnpimaa
