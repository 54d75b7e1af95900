/-
  Chapter 20: the laws SnapPlays and SnapWhole; plain Lean.
-/
import Derived.Test.YtknenggmdnpimaaQ6
set_option linter.unusedVariables false
set_option linter.unusedSimpArgs false
namespace Go.Proofs.Ytknenggmdnpimaa
open Go Go.RowKit Go.Wk
abbrev Act := T_limnographlaw20_Act
theorem awake_eq : m_limnographlaw20_awake = some true := by
  unfold m_limnographlaw20_awake
  decide +kernel
theorem bulk2_L1 (x0 : List T_api_File) : ∀ (m : Nat) (y5 : Int) (i F : Nat), (i : Int) ≤ y5 → y5 ≤ 7000 → 2001 - y5 ≤ m → ∃ n, m_limnographref18_Bulk_L1 x0 2000 some (F + (m + 1)) y5 (i : Int) = some n
  | 0, y5, i, F, h1, h2, h3 => by
    rw [show F + (0 + 1) = F + 1 from rfl, m_limnographref18_Bulk_L1, if_neg (by omega)]
    exact ⟨_, rfl⟩
  | m + 1, y5, i, F, h1, h2, h3 => by
    rw [show F + (m + 1 + 1) = (F + (m + 1)) + 1 by omega, m_limnographref18_Bulk_L1]
    by_cases hh : (i : Int) < (x0.length : Int) ∧ y5 ≤ 2000
    · rw [if_pos hh, idx_at (show i < x0.length by omega), bndS, W64_up (by omega), W64_id (z := 2000 + 1) (by omega) (by omega), W64_id (z := y5 + 1) (by omega) (by omega)]
      have hm : 0 ≤ min ((x0[i]'(by omega)).Data.length : Int) (2000 + 1) ∧ min ((x0[i]'(by omega)).Data.length : Int) (2000 + 1) ≤ 2001 := ⟨Int.le_min.2 ⟨by omega, by omega⟩, Int.min_le_right _ _⟩
      rw [W64_id (by omega) (by omega)]
      exact bulk2_L1 x0 m _ _ F (by omega) (by omega) (by omega)
    · rw [if_neg hh]; exact ⟨_, rfl⟩
theorem bulk2_some (x0 : List T_api_File) : ∃ n, m_limnographref18_Bulk x0 2000 = some n := by
  unfold m_limnographref18_Bulk
  rw [jn_eq]
  obtain ⟨F, hF⟩ := fuelB 2002 (by omega)
  rw [hF]
  exact bulk2_L1 x0 2001 0 0 F (by omega) (by omega) (by omega)
theorem same_eq {c : Nat} {s : PD} {d : Dd} (h : Rel c s d) : m_limnographlaw20_same s d = some true := by
  unfold m_limnographlaw20_same m_disk_Disk_Down m_disk_Disk_Calls m_disk_Disk_Names
  rw [jn_eq, bndS, if_neg (show ¬ (s.down ≠ d.Down) from fun hh => hh h.down.symm), bndS, decide_eq_false (show ¬ ((s.calls : Int) ≠ d.Calls) from fun hh => hh h.callsE.symm)]
  dsimp only
  rw [if_neg (by simp)]
  cases hd : d.Down with
  | true => rw [if_pos rfl]
  | false =>
    have hs : ¬ s.down = true := by rw [← h.down, hd]; simp
    have hn : s.names = d.L.map fun x => x.Name := by unfold PD.names; rw [if_neg hs]; exact h.names
    rw [if_neg (by simp), if_pos h.namesOk, bndS, hn, if_neg (by simp), jn_eq]
    have hll : (d.L.map fun x => x.Name).length < 4611686018427387904 := by rw [List.length_map]; have := h.len; omega
    rw [m_limnographlaw20_same_L1_scan _ _ _ _ hll]
    refine scanL_post (fun _ _ => True) (fun _ _ r => r = some true) trivial (fun _ _ => rfl) fun p x q st k hp _ hk => ?_
    have hi : (d.L.map fun x => x.Name)[p.length]? = some x := by rw [← hp]; simp
    rw [List.getElem?_map] at hi
    obtain ⟨y, hy, rfl⟩ := Option.map_eq_some_iff.1 hi
    have hym : y ∈ d.L := List.mem_of_getElem? hy
    have hf := h.fs.some hym
    have hr := read_m h y.Name
    rw [if_neg hs, hf] at hr
    rw [bndS, hr, bndS, jn_eq, bndS, idx_nat, hy, bndS, if_neg (by simp), bndS, decide_eq_false (by simp)]
    dsimp only
    rw [if_neg (by simp)]
    exact hk () trivial
theorem plays_law (x0 : List T_api_File) (x1 : Int) (x2 : List Act) {p : Prop} (_ : p) (k1 : (Lit.int .i64 x1).wf = true)
    (k2 : x2.length ≤ maxLen ∧ ∀ z ∈ x2, ((Lit.int .i64 z.Kind).wf = true) ∧ ((Lit.int .i64 z.N).wf = true) ∧ (z.Name.length ≤ maxLen) ∧ (z.B.length ≤ maxLen) ∧ ((Lit.int .i64 z.Code).wf = true) ∧ (z.Keep.length ≤ maxLen ∧ ∀ y ∈ z.Keep, (Lit.int .i64 y).wf = true)) :
    m_limnographlaw20_SnapPlays x0 x1 x2 = some true := by
  unfold m_limnographlaw20_SnapPlays
  rw [awake_eq, bndS, if_neg (by simp)]
  obtain ⟨n, hn⟩ := bulk2_some x0
  rw [hn, bndS]
  by_cases hb : ((n > 2000) ∨ ((x0.length : Int) > 10)) ∨ ((x2.length : Int) > 30)
  · rw [if_pos hb]
  rw [if_neg hb]
  unfold m_disk_New
  rw [if_pos (by omega), bndS]
  rcases new_eq x0 x1 (by omega) with ⟨h1, h2⟩ | ⟨s, d, h1, h2, h3, h4⟩
  · rw [h1, h2]; rfl
  · rw [h1, h2, bndS, jn_eq, if_neg (by simp), Option.isNone_some]
    dsimp only
    rw [if_neg (by simp), jn_eq, m_limnographlaw20_SnapPlays_L1_scan _ _ _ _ (by omega)]
    refine scanL_post (fun p st => ∃ c s d, st = (some s, some d) ∧ c ≤ 10 * p.length ∧ Rel c s d) (fun _ _ r => r = some true) ⟨0, s, d, rfl, by simp, h3⟩ (fun _ _ => rfl) ?_
    rintro p a q st k hp ⟨c, s, d, rfl, g1, g2⟩ hk
    have ha : a ∈ x2 := by rw [← hp]; simp
    have hpl : p.length < x2.length := by rw [← hp]; simp
    have hN := (wf64 (k2.2 a ha).2.1).2
    rw [bndS]
    by_cases hbig : (((a.B.length : Int) > 500) ∨ ((a.Name.length : Int) > 100)) ∨ ((a.Keep.length : Int) > 20)
    · rw [if_pos hbig]
    rw [if_neg hbig, jn_eq]
    have h62 := g2.calls62 (by omega)
    have fin : ∀ (s' : PD) (d' : Dd), Rel (c + 10) s' d' → ((some s').bind fun z50 => (some d').bind fun z52 => (m_limnographlaw20_same z50 z52).bind fun p49 => if (!p49) = true then (some false) else (k (some z50, some z52))) = some true := by
      intro s' d' hr
      rw [bndS, bndS, same_eq hr, bndS, if_neg (by simp)]
      exact hk _ ⟨c + 10, s', d', rfl, by rw [List.length_append, List.length_singleton]; omega, hr⟩
    by_cases k0 : a.Kind = 0
    · rw [if_pos k0, jn_eq]
      unfold lenS
      rw [if_pos (by omega), bndS, bndS, psave_eq g2 (by omega) a.Name a.B (by omega) (by omega), bndS, bndS, bndS]
      obtain ⟨d', q1, q2⟩ := rsave_eq g2 (by omega) a.Name a.B (by omega) (by omega)
      rw [q1, bndS, decide_eq_false (by simp)]
      dsimp only
      rw [if_neg (by simp)]
      exact fin _ _ (q2.mono (by omega))
    rw [if_neg k0]
    by_cases k1 : a.Kind = 1
    · rw [if_pos k1, bndS, pload_eq g2 (by omega) a.Name (by omega), bndS, bndS]
      obtain ⟨g, d', q1, q2, q3⟩ := rload_eq g2 (by omega) a.Name (by omega)
      rw [q1, bndS]
      dsimp only
      have e1 : g.B = (ldP s a.Name).2.1 := congrArg (·.1) q2
      have e2 : g.Is = (ldP s a.Name).2.2.1 := congrArg (·.2.1) q2
      have e3 : g.E = (ldP s a.Name).2.2.2 := congrArg (·.2.2) q2
      rw [if_neg (by rw [e1, e2, e3]; simp)]
      exact fin _ _ (q3.mono (by omega))
    rw [if_neg k1]
    by_cases k2 : a.Kind = 2
    · rw [if_pos k2, bndS]
      obtain ⟨A, q1, q2⟩ := fail_eq g2 (by omega) a.N a.Code hN
      unfold m_disk_Disk_Fail
      rw [if_pos h62, bndS, q1, bndS, bndS]
      exact fin _ _ (q2.mono (by omega))
    rw [if_neg k2]
    by_cases k3 : a.Kind = 3
    · rw [if_pos k3, bndS]
      obtain ⟨A, q1, q2⟩ := crash_eq g2 (by omega) a.N hN
      unfold m_disk_Disk_Crash
      rw [if_pos h62, bndS, q1, bndS, bndS]
      exact fin _ _ (q2.mono (by omega))
    rw [if_neg k3]
    by_cases k4 : a.Kind = 4
    · rw [if_pos k4, bndS]
      obtain ⟨d', q1, q2⟩ := boot_eq g2 a.Keep
      unfold m_disk_Disk_Boot
      rw [if_pos ⟨g2.namesOk, g2.fs.sureL, by omega⟩, bndS, bndS, q1, bndS, if_neg (by simp)]
      exact fin _ _ (q2.mono (by omega))
    rw [if_neg k4]
    exact fin _ _ (g2.mono (by omega))
/- SnapWhole -/
abbrev sN : List UInt8 := [115]
theorem has_fresh (cap : Nat) (n : List UInt8) : (PD.fresh [] cap).has n = false := rfl
theorem first_save (cap : Nat) (W : List UInt8) (hW : W.length ≤ cap) : saveP (PD.fresh [] cap) sN W = (⟨[(sN, ⟨W, W.length⟩)], cap, false, 4, 0, 0, 0, 0⟩, 0) := by
  unfold saveP
  rw [has_fresh, if_neg (by simp)]
  have c1 : (PD.fresh [] cap).create (nwN sN) = (⟨[(nwN sN, ⟨[], 0⟩)], cap, false, 1, 0, 0, 0, 0⟩, 0) := rfl
  have c2 : PD.append ⟨[(nwN sN, ⟨[], 0⟩)], cap, false, 1, 0, 0, 0, 0⟩ (nwN sN) W = (⟨[(nwN sN, ⟨W, 0⟩)], cap, false, 2, 0, 0, 0, 0⟩, 0) := by
    unfold PD.append
    have hb : PD.begin ⟨[(nwN sN, ⟨[], 0⟩)], cap, false, 1, 0, 0, 0, 0⟩ = (⟨[(nwN sN, ⟨[], 0⟩)], cap, false, 2, 0, 0, 0, 0⟩, 0) := rfl
    have hf : findF (nwN sN) [(nwN sN, (⟨[], 0⟩ : PF))] = some ⟨[], 0⟩ := rfl
    rw [hb, if_neg (by simp)]
    dsimp only
    rw [hf]
    dsimp only
    rw [if_neg (by simp [PD.used]; omega)]
    rfl
  have c3 : PD.sync ⟨[(nwN sN, ⟨W, 0⟩)], cap, false, 2, 0, 0, 0, 0⟩ (nwN sN) = (⟨[(nwN sN, ⟨W, W.length⟩)], cap, false, 3, 0, 0, 0, 0⟩, 0) := rfl
  have c4 : PD.rename ⟨[(nwN sN, ⟨W, W.length⟩)], cap, false, 3, 0, 0, 0, 0⟩ (nwN sN) sN = (⟨[(sN, ⟨W, W.length⟩)], cap, false, 4, 0, 0, 0, 0⟩, 0) := rfl
  unfold chP
  rw [if_neg (by simp)]
  dsimp only
  rw [c1, if_neg (by simp)]
  dsimp only
  rw [c2, if_neg (by simp)]
  dsimp only
  rw [c3, if_neg (by simp)]
  dsimp only
  rw [c4, if_neg (by simp)]
theorem first_full (cap : Nat) (W : List UInt8) (hW : ¬ W.length ≤ cap) : (saveP (PD.fresh [] cap) sN W).2 = 12 := by
  unfold saveP
  rw [has_fresh, if_neg (by simp)]
  have c1 : (PD.fresh [] cap).create (nwN sN) = (⟨[(nwN sN, ⟨[], 0⟩)], cap, false, 1, 0, 0, 0, 0⟩, 0) := rfl
  have c2 : PD.append ⟨[(nwN sN, ⟨[], 0⟩)], cap, false, 1, 0, 0, 0, 0⟩ (nwN sN) W = (⟨[(nwN sN, ⟨[], 0⟩)], cap, false, 2, 0, 0, 0, 0⟩, 12) := by
    unfold PD.append
    have hb : PD.begin ⟨[(nwN sN, ⟨[], 0⟩)], cap, false, 1, 0, 0, 0, 0⟩ = (⟨[(nwN sN, ⟨[], 0⟩)], cap, false, 2, 0, 0, 0, 0⟩, 0) := rfl
    have hf : findF (nwN sN) [(nwN sN, (⟨[], 0⟩ : PF))] = some ⟨[], 0⟩ := rfl
    rw [hb, if_neg (by simp)]
    dsimp only
    rw [hf]
    dsimp only
    rw [if_pos (by simp [PD.used]; omega)]
  unfold chP
  rw [if_neg (by simp)]
  dsimp only
  rw [c1, if_neg (by simp)]
  dsimp only
  rw [c2, if_pos (by simp)]
  unfold failP
  split <;> rfl
theorem begin_clear {s : PD} (h1 : s.down = false) (h2 : s.cc = 0) (h3 : s.fc = 0) : s.begin = ({ s with calls := s.calls + 1 }, 0) := by
  unfold PD.begin; rw [if_neg (by rw [h1]; simp), if_neg (by rw [h2]; omega), if_neg (by rw [h3]; omega)]
/-- What is loaded behind a boot. -/
theorem load_whole {s : PD} {c : Nat} {d : Dd} {X : List UInt8} (h1 : s.down = false) (h2 : s.cc = 0) (h3 : s.fc = 0) (hf : findF sN s.files = some ⟨wrapL X, (wrapL X).length⟩) (hX : X.length ≤ 65536) (hk : ∀ p ∈ s.files, p.1 = sN ∨ p.1 = nwN sN) (hr : Rel c s d) :
    (ldP s sN).2 = (X, true, 0) ∧ (ldP s sN).1.files.length = 1 ∧ (ldP s sN).1.down = false := by
  have hne : sN ≠ nwN sN := by decide
  have hnd := hr.fs.keysL
  unfold ldP
  rw [if_neg (by rw [h1]; simp)]
  have hfirst := firstF_wrap X hX
  have fin : ∀ l : Fl, findF sN l = some ⟨wrapL X, (wrapL X).length⟩ → (match findF sN l with
    | none => (([] : List UInt8), false, (0 : Int))
    | some f => if (firstF f.data).2.2 ≠ 0 ∨ (firstF f.data).2.1 ≠ f.data.length then ([], false, 15) else ((firstF f.data).1, true, 0)) = (X, true, 0) := by
    intro l hl
    rw [hl]
    dsimp only
    rw [hfirst, if_neg (by simp)]
  cases hh : s.has (nwN sN) with
  | true =>
    have hsome : ∃ g, findF (nwN sN) s.files = some g := by
      unfold PD.has at hh
      simp only [Bool.and_eq_true] at hh
      exact Option.isSome_iff_exists.1 hh.2
    obtain ⟨g, hg⟩ := hsome
    have hrm : s.remove (nwN sN) = ({ s with calls := s.calls + 1, files := delF (nwN sN) s.files }, 0) := by
      unfold PD.remove; rw [begin_clear h1 h2 h3, if_neg (by simp), hg]
    rw [if_neg (by rw [hrm]; simp)]
    dsimp only
    rw [if_pos rfl, hrm]
    dsimp only
    have hf2 : findF sN (delF (nwN sN) s.files) = some ⟨wrapL X, (wrapL X).length⟩ := by rw [findF_del_ne hne]; exact hf
    refine ⟨fin _ hf2, nodup_one (k := sN) ?_ ?_ ⟨_, hf2⟩, h1⟩
    · have := hr.fs.del (nwN sN)
      exact this.keysL
    · intro p hp
      rcases hk p (delF_mem hp) with h | h
      · exact h
      · exact absurd h (delF_ne hnd hp)
  | false =>
    rw [if_neg (by simp)]
    dsimp only
    rw [if_neg (by simp)]
    refine ⟨fin _ hf, nodup_one (k := sN) hnd (fun p hp => ?_) ⟨_, hf⟩, h1⟩
    rcases hk p hp with h | h
    · exact h
    · exfalso
      unfold PD.has at hh
      rw [h1] at hh
      have hn : findF (nwN sN) s.files = none := by simpa using hh
      have := findF_none hn
      exact this (by rw [← h]; exact List.mem_map_of_mem (f := (·.1)) hp)
theorem whole_law (x0 x1 : List UInt8) (x2 x3 x4 x5 : Int) (x6 : List Int) {p0 p1 : Prop} (_ : p0) (_ : p1) (k2 : (Lit.int .i64 x2).wf = true) (k3 : (Lit.int .i64 x3).wf = true) (k4 : (Lit.int .i64 x4).wf = true) (k5 : (Lit.int .i64 x5).wf = true) {p6 : Prop} (_ : p6) :
    m_limnographlaw20_SnapWhole x0 x1 x2 x3 x4 x5 x6 = some true := by
  unfold m_limnographlaw20_SnapWhole
  rw [awake_eq, bndS, if_neg (by simp)]
  by_cases hb : ((((x0.length : Int) > 1000) ∨ ((x1.length : Int) > 1000)) ∨ ((x6.length : Int) > 20)) ∨ (x5 = 13)
  · rw [if_pos hb]
  rw [if_neg hb]
  have h0 : x0.length ≤ 1000 := by omega
  have h1 : x1.length ≤ 1000 := by omega
  have h5 : x5 ≠ 13 := fun hh => hb (.inr hh)
  unfold m_disk_New
  rw [if_pos (by simp), bndS, jn_eq]
  rcases new_eq [] x2 (by simp) with ⟨_, hn⟩ | ⟨s, d, _, hn, hR, hcap⟩
  · rw [hn]; rfl
  · have hs : s = PD.fresh [] x2.toNat := by
      unfold newD at hn
      split at hn
      · cases hn
      · simp [addAll] at hn; exact hn.symm
    subst hs
    rw [hn, if_neg (by simp), bndS, psave_eq hR (by omega) sN x0 (by simp) (by omega), bndS]
    have hsv : ∀ (s : PD) (X : List UInt8), svP s sN X = saveP s sN (wrapL X) := fun s X => by unfold svP; rw [if_neg (by simp)]
    rw [hsv]
    have hc2 : (x2.toNat : Int) = x2 := hcap
    obtain ⟨dA, _, rA⟩ := rsave_eq hR (by omega) sN x0 (by simp) (by omega)
    rw [hsv] at rA
    by_cases hsp : (wrapL x0).length ≤ x2.toNat
    · rw [first_save _ _ hsp] at rA ⊢
      dsimp only at rA ⊢
      rw [decide_eq_false (show ¬ ((0 : Int) ≠ 0) by omega), if_neg (by simp), bndS]
      generalize hs4 : (⟨[(sN, ⟨wrapL x0, (wrapL x0).length⟩)], x2.toNat, false, 4, 0, 0, 0, 0⟩ : PD) = s4 at rA ⊢
      have w4 : findF sN s4.files = some ⟨wrapL x0, (wrapL x0).length⟩ ∧ (∀ p ∈ s4.files, p.1 = sN ∨ p.1 = nwN sN) ∧ s4.down = false := by
        rw [← hs4]; exact ⟨rfl, fun p hp => by simp at hp; rw [hp]; exact .inl rfl, rfl⟩
      obtain ⟨A1, _, rB⟩ := crash_eq rA (by omega) x3 (wf64 k3).2
      obtain ⟨A2, _, rC⟩ := fail_eq rB (by omega) x4 x5 (wf64 k4).2
      have e29 : m_disk_Disk_Crash s4 x3 = some (s4.crash x3) := by unfold m_disk_Disk_Crash; rw [if_pos (rA.calls62 (by omega))]
      have e35 : m_disk_Disk_Fail (s4.crash x3) x4 x5 = some ((s4.crash x3).fail x4 x5) := by unfold m_disk_Disk_Fail; rw [if_pos (rB.calls62 (by omega))]
      rw [e29, bndS, e35, bndS, psave_eq rC (by omega) sN x1 (by simp) (by omega), bndS, hsv]
      obtain ⟨dB, _, rD⟩ := rsave_eq rC (by omega) sN x1 (by simp) (by omega)
      rw [hsv] at rD
      have wh5 : Wh sN (nwN sN) (wrapL x0) ((s4.crash x3).fail x4 x5) := ⟨w4.1, w4.2.1, by decide, armP_fe h5⟩
      have hsw := save_whole wh5 (wrapL x1)
      generalize saveP ((s4.crash x3).fail x4 x5) sN (wrapL x1) = t at rD hsw ⊢
      -- what is there now
      have hX : ∃ X, X.length ≤ 65536 ∧ Wh sN (nwN sN) (wrapL X) t.1 ∧ (t.2 = 0 → X = x1) ∧ (t.2 ≠ 0 → X = x0) ∧ (t.2 = 13 → t.1.down = true) := by
        rcases hsw with ⟨a1, a2, a3⟩ | ⟨a1, a2⟩
        · exact ⟨x0, by omega, a2, fun h => absurd h a1, fun _ => rfl, a3⟩
        · exact ⟨x1, by omega, a2, fun _ => rfl, fun h => absurd a1 h, fun h => by rw [a1] at h; simp at h⟩
      obtain ⟨X, hXl, hW, hX1, hX0, hdn⟩ := hX
      dsimp only
      unfold m_disk_Disk_Down
      -- the first question
      have q1 : ∀ F : Bool → Option Bool, jn F (fun j3 => if t.2 = 13 then ((some t.1.down).bind fun p91 => j3 (!p91)) else (j3 false)) = F false := by
        intro F
        rw [jn_eq]
        by_cases h13 : t.2 = 13
        · rw [if_pos h13, bndS, hdn h13]; rfl
        · rw [if_neg h13]
      rw [q1]
      rw [if_neg (by simp), bndS, jn_eq]
      -- what lies there when the power is gone
      have tailEq : ∀ (z : PD) (dz : Dd) (cz : Nat), cz ≤ 100 → Rel cz z dz → z.down = true → z.files = t.1.files → ((m_disk_Disk_Boot z x6).bind fun p53 =>
                      if p53.1 ≠ 0 then
                      (some false)
                      else
                      ((m_snap_Load p53.2 ([115] : List UInt8)).bind fun p60 =>
                        jn (fun (y68 : Bool) =>
                          (if y68 = true then
                            (some false)
                            else
                            (if t.2 = 0 then
                              (some (decide (p60.1 = x1)))
                              else
                              (if t.2 = 13 then
                                (jn (fun (y74 : Bool) =>
                                    (some y74)) fun j6 =>
                                  if p60.1 = x1 then
                                  (j6 true)
                                  else
                                  (j6 (decide (p60.1 = x0))))
                                else
                                (some (decide (p60.1 = x0))))))) fun j5 =>
                        if ((!p60.2.1) = true) ∨ (p60.2.2.1 ≠ 0) then
                        (j5 true)
                        else
                        ((m_disk_Disk_Names p60.2.2.2).bind fun p78 =>
                          j5 (decide ((p78.length : Int) ≠ 1))))) = some true := by
        intro z dz cz hcz rz zd zf
        obtain ⟨dE, _, rE⟩ := boot_eq rz x6
        have hbt : z.boot x6 = ({ z.up with files := bootF x6 0 z.up.names z.files }, 0) := by unfold PD.boot; rw [if_pos zd]
        have e53 : m_disk_Disk_Boot z x6 = some ((z.boot x6).2, (z.boot x6).1) := by unfold m_disk_Disk_Boot; rw [if_pos ⟨rz.namesOk, rz.fs.sureL, by omega⟩]
        rw [e53, bndS, hbt]
        rw [hbt] at rE
        dsimp only at rE ⊢
        rw [if_neg (by simp), pload_eq rE (by omega) sN (by simp), bndS, jn_eq]
        obtain ⟨f', b1, ⟨b2, b3, b4, b5⟩, _⟩ := bootF_find1 x6 sN (wrapL X) (wrapL X).length z.up.names 0 z.files ⟨wrapL X, (wrapL X).length⟩ (by rw [zf]; exact hW.find) ⟨List.take_length.symm, Nat.le_refl _, Nat.le_refl _, Nat.le_refl _⟩
        have hl : f'.data.length = (wrapL X).length := by omega
        have hdt : f'.data = wrapL X := by rw [b2, hl, List.take_length]
        have hf' : findF sN (bootF x6 0 z.up.names z.files) = some ⟨wrapL X, (wrapL X).length⟩ := by
          rw [b1]; congr 1
          cases f' with
          | mk dt sr => dsimp only at hdt b3 b4; subst hdt; congr 1; omega
        obtain ⟨dF, gF, _, _, rF⟩ := rload_eq rE (by omega) sN (by simp)
        obtain ⟨v1, v2, v3⟩ := load_whole (s := { z.up with files := bootF x6 0 z.up.names z.files }) rfl rfl rfl hf' hXl (fun p hp => by
          have : p.1 ∈ (bootF x6 0 z.up.names z.files).map (·.1) := List.mem_map_of_mem (f := (·.1)) hp
          rw [bootF_keys, zf] at this
          obtain ⟨q, hq, he⟩ := List.mem_map.1 this
          rw [← he]; exact hW.keys q hq) rE
        rw [v1]
        generalize ldP { z.up with files := bootF x6 0 z.up.names z.files } sN = L at v2 v3 rF ⊢
        dsimp only
        rw [if_neg (by simp)]
        unfold m_disk_Disk_Names
        rw [if_pos rF.namesOk, bndS]
        have hlen : L.1.names.length = 1 := by unfold PD.names; rw [if_neg (by rw [v3]; simp), List.length_mergeSort, List.length_map, v2]
        rw [hlen, decide_eq_false (by simp), if_neg (by simp)]
        by_cases hz : t.2 = 0
        · rw [if_pos hz, hX1 hz, decide_eq_true rfl]
        · rw [if_neg hz]
          have := hX0 hz
          subst this
          by_cases h13 : t.2 = 13
          · rw [if_pos h13, jn_eq]
            by_cases hx : X = x1
            · rw [if_pos hx]
            · rw [if_neg hx, decide_eq_true rfl]
          · rw [if_neg h13, decide_eq_true rfl]
      cases htd : t.1.down with
      | true =>
        rw [if_neg (by simp)]
        exact tailEq t.1 dB _ (by omega) rD htd rfl
      | false =>
        rw [if_pos (show (!false) = true from rfl)]
        obtain ⟨w1, w2⟩ := crash_down t.1 sN
        obtain ⟨A3, _, rG⟩ := crash_eq rD (by omega) 0 (by omega)
        obtain ⟨dG, _, rH⟩ := sync_eq rG (by omega) sN
        have e82 : m_disk_Disk_Crash t.1 0 = some (t.1.crash 0) := by unfold m_disk_Disk_Crash; rw [if_pos (rD.calls62 (by omega))]
        rw [e82, bndS, syn_m (rG.calls62 (by omega)), bndS]
        exact tailEq _ dG _ (by omega) rH w1 w2
    · have h12 := first_full _ _ hsp
      rw [h12]
      dsimp only
      rw [decide_eq_true (show (12 : Int) ≠ 0 by omega), if_pos rfl, jn_eq, if_neg (by simp)]
      rw [wrapL_length] at hsp
      rw [W64_id (by omega) (by omega), decide_eq_true (by omega)]
end Go.Proofs.Ytknenggmdnpimaa
