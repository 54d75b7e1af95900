/-
  Chapter 18: what a boot keeps; what is told of the disk; plain Lean.
-/
import Derived.Test.YtknenggmdnpimaaQ3
set_option linter.unusedVariables false
set_option linter.unusedSimpArgs false
namespace Go.Proofs.Ytknenggmdnpimaa
open Go Go.RowKit Go.Wk
def keepL (keep : List Int) (i : Nat) (x : Fi) : Nat := keepN ⟨x.Data, x.Sure.toNat⟩ keep[i]?
def bootX (keep : List Int) (i : Nat) (x : Fi) : Fi := ⟨x.Name, x.Data.take (keepL keep i x), keepL keep i x⟩
def bootL (keep : List Int) : Nat → List Fi → List Fi
  | _, [] => []
  | i, x :: r => bootX keep i x :: bootL keep (i + 1) r
theorem bootL_names (keep : List Int) : ∀ (i : Nat) (l : List Fi), (bootL keep i l).map (fun x => x.Name) = l.map fun x => x.Name
  | _, [] => rfl
  | i, x :: r => by rw [bootL, List.map_cons, List.map_cons, bootL_names keep (i + 1) r]; rfl
theorem bootL_len (keep : List Int) : ∀ (i : Nat) (l : List Fi), (bootL keep i l).length = l.length
  | _, [] => rfl
  | i, x :: r => by rw [bootL, List.length_cons, List.length_cons, bootL_len keep (i + 1) r]
theorem rising_of {l m : List Fi} (h : m.map (fun x => x.Name) = l.map fun x => x.Name) (hr : Rising (fun x : Fi => x.Name) l) : Rising (fun x : Fi => x.Name) m := by
  have h1 : (l.map fun x => x.Name).Pairwise (· ≤ ·) := List.pairwise_map.2 hr
  rw [← h] at h1
  exact List.pairwise_map.1 h1
theorem bootF_fs (keep : List Int) : ∀ (q p : List Fi) (l : Fl), Fs (p ++ q) l → Fs (p ++ bootL keep p.length q) (bootF keep p.length (q.map fun x => x.Name) l) ∧ usF (bootF keep p.length (q.map fun x => x.Name) l) ≤ usF l
  | [], p, l, h => ⟨by simpa [bootL, bootF] using h, by simp [bootF]⟩
  | x :: r, p, l, h => by
    have hx : x ∈ p ++ x :: r := by simp
    have hf := h.some hx
    have hs := h.sure x hx
    have hk : keepL keep p.length x ≤ x.Data.length := keepN_le (f := ⟨x.Data, x.Sure.toNat⟩) (by show x.Sure.toNat ≤ x.Data.length; omega) _
    rw [List.map_cons, bootF, hf]
    dsimp only
    have hkeys := h.keys
    rw [List.map_append, List.map_cons] at hkeys
    obtain ⟨n1, n2, n3⟩ := List.nodup_append.1 hkeys
    rw [List.nodup_cons] at n2
    have hfil : (p ++ x :: r).filter (fun y => decide (y.Name ≠ (bootX keep p.length x).Name)) = p ++ r := by
      rw [List.filter_append, List.filter_cons_of_neg (by simp [bootX])]
      congr 1
      · refine List.filter_eq_self.2 fun y hy => ?_
        have := n3 y.Name (List.mem_map_of_mem (f := fun x : Fi => x.Name) hy) x.Name (by simp)
        exact decide_eq_true this
      · refine List.filter_eq_self.2 fun y hy => ?_
        have : y.Name ≠ x.Name := fun hh => n2.1 (by rw [← hh]; exact List.mem_map_of_mem (f := fun x : Fi => x.Name) hy)
        exact decide_eq_true this
    have hF := h.put (f := bootX keep p.length x) (L' := p ++ bootX keep p.length x :: r) (rising_of (by simp [bootX]) h.ris) (by rw [hfil]; exact List.perm_middle) (by
      show (0 : Int) ≤ (keepL keep p.length x : Int) ∧ (keepL keep p.length x : Int) ≤ ((x.Data.take (keepL keep p.length x)).length : Int)
      rw [List.length_take]; omega) (h.nm x hx)
    have ih := bootF_fs keep r (p ++ [bootX keep p.length x]) _ (by rw [List.append_assoc]; exact hF)
    have hu := (usF_put_some ⟨x.Data.take (keepL keep p.length x), keepL keep p.length x⟩ hf).1
    have ht := List.length_take_le' (keepL keep p.length x) x.Data
    dsimp only at hu
    rw [List.length_append, List.length_singleton, List.append_assoc] at ih
    exact ⟨ih.1, Nat.le_trans ih.2 (by
      show usF (putF x.Name ⟨x.Data.take (keepL keep p.length x), keepL keep p.length x⟩ l) ≤ usF l
      omega)⟩
theorem boot_L1 (d : Dd) (keep : List Int) (j : List Fi → Option (Int × Dd)) (hl : d.L.length ≤ 4096) (hs : ∀ x ∈ d.L, 0 ≤ x.Sure ∧ x.Sure ≤ x.Data.length) (hd : ∀ x ∈ d.L, x.Data.length ≤ 4194304) :
    ∀ (q p s : List Fi) (F : Nat), p ++ q = d.L → s.length = p.length → m_limnographref18_Disk_Boot_L1 d keep j (F + (q.length + 1)) s (p.length : Int) = j (s ++ bootL keep p.length q)
  | [], p, s, F, hp, _ => by
    rw [List.append_nil] at hp
    rw [show F + (([] : List Fi).length + 1) = F + 1 from rfl, m_limnographref18_Disk_Boot_L1]
    dsimp only
    rw [if_neg (by rw [hp]; omega), bootL, List.append_nil]
  | x :: r, p, s, F, hp, hsl => by
    have hxm : x ∈ d.L := by rw [← hp]; simp
    have hx := hs x hxm
    have hxd := hd x hxm
    have hlen : p.length < d.L.length := by rw [← hp]; simp
    rw [show F + ((x :: r).length + 1) = (F + (r.length + 1)) + 1 by simp; omega, m_limnographref18_Disk_Boot_L1]
    dsimp only
    rw [if_pos (by omega), idx_nat, show d.L[p.length]? = some x by rw [← hp]; simp, bndS]
    simp only [jn_eq]
    have hsN : ((x.Sure.toNat : Nat) : Int) = x.Sure := by omega
    have hkn : ((keepL keep p.length x : Nat) : Int) = x.Sure + (match keep[p.length]? with | none => 0 | some z => min (max z 0) ((x.Data.length : Int) - x.Sure)) := by
      unfold keepL
      cases hk : keep[p.length]? with
      | none => rw [keepN_none]; dsimp only; omega
      | some z => rw [keepN_some (by show x.Sure.toNat ≤ x.Data.length; omega)]; dsimp only; rw [hsN]
    have hkle : keepL keep p.length x ≤ x.Data.length := keepN_le (f := ⟨x.Data, x.Sure.toNat⟩) (by show x.Sure.toNat ≤ x.Data.length; omega) _
    have fin : ∀ y : Int, y = (keepL keep p.length x : Nat) → ((cutL x.Data 0 y).bind fun z54 =>
              (appL s ([({ Name := x.Name, Data := z54, Sure := y } : T_limnographref18_File)] : List T_limnographref18_File)).bind fun z59 =>
              m_limnographref18_Disk_Boot_L1 d keep j (F + (r.length + 1)) z59 (W64 ((p.length : Int) + 1))) = j (s ++ bootL keep p.length (x :: r)) := by
      intro y hy
      rw [cut_some (by omega) (by omega) (by omega), bndS, app_some (by simp; omega), bndS, W64_up (by omega)]
      have ih := boot_L1 d keep j hl hs hd r (p ++ [x]) (s ++ [bootX keep p.length x]) F (by simpa using hp) (by simp [hsl])
      rw [List.length_append, List.length_singleton] at ih
      subst hy
      rw [Int.toNat_natCast]
      refine ih.trans ?_
      rw [bootL]; simp
    by_cases hi : p.length < keep.length
    · have hk : keep[p.length]? = some keep[p.length] := List.getElem?_eq_getElem hi
      rw [hk] at hkn
      dsimp only at hkn
      rw [if_pos (by omega), idx_at hi, bndS]
      by_cases hz : keep[p.length] > 0
      · rw [decide_eq_true hz, if_pos rfl, bndS, W64_id (by omega) (by omega)]
        by_cases hz2 : keep[p.length] > (x.Data.length : Int) - x.Sure
        · rw [Int.max_eq_left (by omega), Int.min_eq_right (by omega)] at hkn
          rw [if_pos hz2]; exact fin _ (by omega)
        · rw [Int.max_eq_left (by omega), Int.min_eq_left (by omega)] at hkn
          rw [if_neg hz2, bndS, W64_id (by omega) (by omega)]; exact fin _ (by omega)
      · rw [Int.max_eq_right (by omega), Int.min_eq_left (by omega)] at hkn
        rw [decide_eq_false hz, if_neg (by simp)]; exact fin _ (by omega)
    · have hk : keep[p.length]? = none := List.getElem?_eq_none (by omega)
      rw [hk] at hkn
      dsimp only at hkn
      rw [if_neg (by omega)]
      rw [if_neg (by simp)]; exact fin _ (by omega)
section
variable {c : Nat} {s : PD} {d : Dd}
theorem Rel.names (h : Rel c s d) : (s.files.map (·.1)).mergeSort leN = d.L.map fun x => x.Name := (sort_keys (β := PF) (ps := s.files) (key := fun x : Fi => x.Name) h.fs.keysP h.fs.ris).symm
theorem boot_eq (h : Rel c s d) (keep : List Int) : ∃ d', m_limnographref18_Disk_Boot d keep = some ((s.boot keep).2, d') ∧ Rel (c + 1) (s.boot keep).1 d' := by
  unfold m_limnographref18_Disk_Boot PD.boot
  cases hd : d.Down with
  | false =>
    have hs : ¬ s.down = true := by rw [← h.down, hd]; simp
    rw [if_pos (show (!false) = true from rfl), if_neg hs]
    exact ⟨_, rfl, h.more⟩
  | true =>
    have hs : s.down = true := by rw [← h.down, hd]
    rw [if_neg (show ¬ ((!true) = true) by simp), if_pos hs, jn_eq]
    obtain ⟨F, hF⟩ := fuelB (d.L.length + 1) (by have := h.len; omega)
    have hb := boot_L1 d keep (fun (y17 : (List T_limnographref18_File)) =>
      (some (0, ({ L := y17, Capacity := ({ L := d.L, Capacity := d.Capacity, Down := false, Calls := d.Calls, Fail := (-1), Crash := (-1), Err := d.Err } : T_limnographref18_Disk).Capacity, Down := ({ L := d.L, Capacity := d.Capacity, Down := false, Calls := d.Calls, Fail := (-1), Crash := (-1), Err := d.Err } : T_limnographref18_Disk).Down, Calls := ({ L := d.L, Capacity := d.Capacity, Down := false, Calls := d.Calls, Fail := (-1), Crash := (-1), Err := d.Err } : T_limnographref18_Disk).Calls, Fail := ({ L := d.L, Capacity := d.Capacity, Down := false, Calls := d.Calls, Fail := (-1), Crash := (-1), Err := d.Err } : T_limnographref18_Disk).Fail, Crash := ({ L := d.L, Capacity := d.Capacity, Down := false, Calls := d.Calls, Fail := (-1), Crash := (-1), Err := d.Err } : T_limnographref18_Disk).Crash, Err := ({ L := d.L, Capacity := d.Capacity, Down := false, Calls := d.Calls, Fail := (-1), Crash := (-1), Err := d.Err } : T_limnographref18_Disk).Err } : T_limnographref18_Disk))))
      h.len h.fs.sure (fun x hx => h.dataLe hx) d.L [] [] F rfl rfl
    rw [← hF] at hb
    refine ⟨_, hb, ?_⟩
    have hn : s.up.names = d.L.map fun x => x.Name := by
      unfold PD.names
      rw [if_neg (by simp [PD.up])]
      exact h.names
    have hfs := bootF_fs keep d.L [] s.files h.fs
    rw [hn]
    exact ⟨hfs.1, by show (bootL keep 0 d.L).length ≤ 4096; rw [bootL_len]; exact h.len, h.cap, Nat.le_trans hfs.2 h.used, h.capL, rfl, h.callsE, by have := h.few; show s.calls ≤ c + 1; omega, .inr (.inl ⟨rfl, by show (0 : Int) ≤ _; omega⟩), .inr (.inl ⟨rfl, by show (0 : Int) ≤ _; omega⟩), fun hh => by have h2 : (0 : Int) ≤ -1 := hh; omega⟩
theorem Rel.namesOk (h : Rel c s d) : (∀ k ∈ s.files.map (·.1), k.length ≤ 1000000) ∧ s.files.length ≤ 1000000 := by
  refine ⟨fun k hk => ?_, by have := h.fs.len; have := h.len; omega⟩
  obtain ⟨p, hp, rfl⟩ := List.mem_map.1 hk
  have := h.fs.nmL p hp
  unfold isNm at this
  simp only [Bool.and_eq_true, decide_eq_true_eq] at this
  omega
theorem used_m (h : Rel c s d) : m_disk_Disk_Used s = some ((if s.down = true then 0 else s.used : Nat) : Int) := by
  unfold m_disk_Disk_Used; rw [if_pos ⟨h.used, h.capL⟩]
theorem read_m (h : Rel c s d) (n : List UInt8) : m_disk_Disk_Read s n = some (if s.down = true then (([] : List UInt8), (13 : Int)) else match findF n s.files with | none => ([], 7) | some f => (f.data, 0)) := by
  unfold m_disk_Disk_Read; rw [if_pos ⟨h.used, h.capL⟩]
  cases findF n s.files <;> rfl
end
end Go.Proofs.Ytknenggmdnpimaa
