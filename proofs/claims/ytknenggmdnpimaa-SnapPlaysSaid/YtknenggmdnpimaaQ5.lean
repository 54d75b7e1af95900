/-
  Chapter 18: acts, new disks, and the law DiskPlays; plain Lean.
-/
import Derived.Test.YtknenggmdnpimaaQ4
set_option linter.unusedVariables false
set_option linter.unusedSimpArgs false
namespace Go.Proofs.Ytknenggmdnpimaa
open Go Go.RowKit Go.Wk
section
variable {c : Nat} {s s' : PD} {d dd : Dd}
theorem cap_create (s : PD) (a) : (s.create a).1.cap = s.cap := by
  have hb := s.begin_cap
  unfold PD.create; repeat' split
  all_goals exact hb
theorem cap_append (s : PD) (a b) : (s.append a b).1.cap = s.cap := by
  have hb := s.begin_cap
  unfold PD.append; repeat' split
  all_goals exact hb
theorem cap_sync (s : PD) (a) : (s.sync a).1.cap = s.cap := by
  have hb := s.begin_cap
  unfold PD.sync; repeat' split
  all_goals exact hb
theorem cap_rename (s : PD) (a b) : (s.rename a b).1.cap = s.cap := by
  have hb := s.begin_cap
  unfold PD.rename; repeat' split
  all_goals exact hb
theorem cap_remove (s : PD) (a) : (s.remove a).1.cap = s.cap := by
  have hb := s.begin_cap
  unfold PD.remove; repeat' split
  all_goals exact hb
theorem cap_boot (s : PD) (a) : (s.boot a).1.cap = s.cap := by
  unfold PD.boot; split <;> rfl
theorem Rel.calls62 (h : Rel c s d) (hc : c ≤ 999) : s.calls < 4611686018427387904 := by have := h.few; omega
end
theorem bulk_L1 (x0 : List T_api_File) : ∀ (m : Nat) (y5 : Int) (i F : Nat), (i : Int) ≤ y5 → y5 ≤ 7000 → 3001 - y5 ≤ m → ∃ n, m_limnographref18_Bulk_L1 x0 3000 some (F + (m + 1)) y5 (i : Int) = some n
  | 0, y5, i, F, h1, h2, h3 => by
    rw [show F + (0 + 1) = F + 1 from rfl, m_limnographref18_Bulk_L1, if_neg (by omega)]
    exact ⟨_, rfl⟩
  | m + 1, y5, i, F, h1, h2, h3 => by
    rw [show F + (m + 1 + 1) = (F + (m + 1)) + 1 by omega, m_limnographref18_Bulk_L1]
    by_cases hh : (i : Int) < (x0.length : Int) ∧ y5 ≤ 3000
    · rw [if_pos hh, idx_at (show i < x0.length by omega), bndS, W64_up (by omega), W64_id (z := 3000 + 1) (by omega) (by omega), W64_id (z := y5 + 1) (by omega) (by omega)]
      have hm : 0 ≤ min ((x0[i]'(by omega)).Data.length : Int) (3000 + 1) ∧ min ((x0[i]'(by omega)).Data.length : Int) (3000 + 1) ≤ 3001 := ⟨Int.le_min.2 ⟨by omega, by omega⟩, Int.min_le_right _ _⟩
      rw [W64_id (by omega) (by omega)]
      exact bulk_L1 x0 m _ _ F (by omega) (by omega) (by omega)
    · rw [if_neg hh]; exact ⟨_, rfl⟩
theorem bulk_some (x0 : List T_api_File) : ∃ n, m_limnographref18_Bulk x0 3000 = some n := by
  unfold m_limnographref18_Bulk
  rw [jn_eq]
  obtain ⟨F, hF⟩ := fuelB 3002 (by omega)
  rw [hF]
  exact bulk_L1 x0 3001 0 0 F (by omega) (by omega) (by omega)
theorem new_eq (x0 : List T_api_File) (x1 : Int) (hl : x0.length ≤ 100000) :
    (m_limnographref18_New x0 x1 = some none ∧ newD (x0.map fun f : T_api_File => (f.Name, f.Data)) x1 = none) ∨ ∃ s d, m_limnographref18_New x0 x1 = some (some d) ∧ newD (x0.map fun f : T_api_File => (f.Name, f.Data)) x1 = some s ∧ Rel 0 s d ∧ (s.cap : Int) = x1 := by
  unfold m_limnographref18_New newD
  rw [List.length_map]
  by_cases h : ((x1 < 1) ∨ (x1 > 4194304)) ∨ ((x0.length : Int) > 4096)
  · rw [if_pos h, if_pos (by omega)]; exact .inl ⟨rfl, rfl⟩
  · rw [if_neg h, if_neg (by omega), jn_eq, m_limnographref18_New_L1_scan _ _ _ _ (by omega)]
    refine scanL_post (fun p d => d.L.length ≤ p.length ∧ d.Capacity = x1 ∧ d.Down = false ∧ d.Calls = 0 ∧ d.Fail = -1 ∧ d.Crash = -1) (fun q d r => ∀ l, Fs d.L l → usF l ≤ x1.toNat → (r = some none ∧ (addAll x1.toNat (q.map fun f : T_api_File => (f.Name, f.Data)) l (usF l)).map (fun l => PD.fresh l x1.toNat) = none) ∨ ∃ s d, r = some (some d) ∧ (addAll x1.toNat (q.map fun f : T_api_File => (f.Name, f.Data)) l (usF l)).map (fun l => PD.fresh l x1.toNat) = some s ∧ Rel 0 s d ∧ (s.cap : Int) = x1)
      ⟨Nat.le_refl _, rfl, rfl, rfl, rfl, rfl⟩ ?_ ?_ [] Fs.nil (by simp [usF])
    · rintro d ⟨i1, i2, i3, i4, i5, i6⟩ l hf hu
      refine .inr ⟨_, d, rfl, rfl, ⟨hf, by omega, by rw [i2]; show x1 = (x1.toNat : Int); omega, hu, by show x1.toNat ≤ 4194304; omega, i3, i4, Nat.le_refl _, .inr (.inl ⟨i6, by show (0 : Int) ≤ _; omega⟩), .inr (.inl ⟨i5, by show (0 : Int) ≤ _; omega⟩), fun hh => by omega⟩, by show (x1.toNat : Int) = x1; omega⟩
    · rintro p x q d k hp ⟨i1, i2, i3, i4, i5, i6⟩ hk l hf hu
      have hpl : p.length < x0.length := by rw [← hp]; simp
      simp only [jn_eq, bndS, name_eq, List.map_cons]
      cases hn : isNm x.Name with
      | false => rw [if_pos (show (!false) = true from rfl), if_pos trivial, addAll_none (.inl hn)]; exact .inl ⟨rfl, rfl⟩
      | true =>
        rw [if_neg (show ¬ (!true) = true by simp)]
        rcases hf.find (by omega) x.Name with ⟨h1, h2⟩ | ⟨i, y, h1, h2, h3, h4, h5⟩
        · rw [h1, bndS, if_neg (by omega), used_eq d (by omega) (by rw [hf.used]; omega), bndS, hf.used, W64_id (by omega) (by omega)]
          by_cases hs : (x.Data.length : Int) > x1 - (usF l : Nat)
          · rw [decide_eq_true hs, if_pos rfl, addAll_none (.inr (.inr (by show usF l + x.Data.length > _; omega)))]; exact .inl ⟨rfl, rfl⟩
          · rw [decide_eq_false hs, if_neg (by simp)]
            obtain ⟨L', q1, q2⟩ := hf.putD (by omega) ⟨x.Name, x.Data, x.Data.length⟩ (by dsimp only; omega) hn
            dsimp only [Int.toNat_natCast] at q2
            have hu2 := usF_put_none ⟨x.Data, x.Data.length⟩ h2
            dsimp only at hu2
            rw [q1, bndS, addAll_step (by rw [hn, h2]; simp; omega), ← hu2.1]
            have hL' : L'.length ≤ (p ++ [x]).length := by
              have := q2.len; have := hf.len; rw [List.length_append, List.length_singleton]; omega
            exact hk { d with L := L' } ⟨hL', i2, i3, i4, i5, i6⟩ _ q2 (by show usF (putF x.Name ⟨x.Data, x.Data.length⟩ l) ≤ x1.toNat; omega)
        · rw [h4, bndS, if_pos (show (i : Int) ≥ 0 by omega), if_pos trivial, addAll_none (.inr (.inl (by rw [h5]; rfl)))]; exact .inl ⟨rfl, rfl⟩
end Go.Proofs.Ytknenggmdnpimaa
