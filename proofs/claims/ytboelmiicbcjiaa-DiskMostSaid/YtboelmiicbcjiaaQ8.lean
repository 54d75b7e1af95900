/-
  Chapter 18: the law DiskMost; plain Lean.
-/
import Derived.Test.YtboelmiicbcjiaaQ7
namespace Go.Proofs.Ytboelmiicbcjiaa
open Go Go.RowKit Go.Wk
def nmN (i : Nat) : List UInt8 := [UInt8.ofNat (97 + i % 16), UInt8.ofNat (97 + i / 16 % 16), UInt8.ofNat (97 + i / 256)]
theorem toU8_small {z : Int} {n : Nat} (h : z = (97 + n : Nat)) (hn : n ≤ 20) : toU8 z = UInt8.ofNat (97 + n) := by
  subst h; unfold toU8; congr 1; omega
def mostL (n : Nat) : List T_api_File := (List.range n).map fun i => ⟨nmN i, []⟩
theorem mostL_succ (k : Nat) : mostL (k + 1) = mostL k ++ [⟨nmN k, []⟩] := by unfold mostL; rw [List.range_succ]; simp
theorem mostL_len (k : Nat) : (mostL k).length = k := by unfold mostL; simp
theorem most_L2 (x0 : Int) (h0 : 0 ≤ x0) (h2 : x0 ≤ 2) (j : List T_api_File → Option Bool) : ∀ (m k F : Nat), k + m = 4094 + x0.toNat → m_limnographlaw18_DiskMost_L2 x0 j (F + (m + 1)) (mostL k) (k : Int) = j (mostL (4094 + x0.toNat))
  | 0, k, F, hk => by
    rw [show F + (0 + 1) = F + 1 from rfl, m_limnographlaw18_DiskMost_L2, W64_id (by omega) (by omega), if_neg (by omega), ← hk]; rfl
  | m + 1, k, F, hk => by
    rw [show F + (m + 1 + 1) = (F + (m + 1)) + 1 by omega, m_limnographlaw18_DiskMost_L2, W64_id (by omega) (by omega), if_pos (by omega)]
    have e1 : remZ (k : Int) 16 = some ((k % 16 : Nat) : Int) := by unfold remZ; rw [if_neg (by omega), Int.tmod_eq_emod_of_nonneg (by omega)]; rfl
    have e2 : quoZ (k : Int) 16 = some ((k / 16 : Nat) : Int) := by unfold quoZ; rw [if_neg (by omega), Int.tdiv_eq_ediv_of_nonneg (by omega), W64_id (by omega) (by omega)]; rfl
    have e3 : remZ ((k / 16 : Nat) : Int) 16 = some ((k / 16 % 16 : Nat) : Int) := by unfold remZ; rw [if_neg (by omega), Int.tmod_eq_emod_of_nonneg (by omega)]; rfl
    have e4 : quoZ (k : Int) 256 = some ((k / 256 : Nat) : Int) := by unfold quoZ; rw [if_neg (by omega), Int.tdiv_eq_ediv_of_nonneg (by omega), W64_id (by omega) (by omega)]; rfl
    rw [e1, bndS, e2, bndS, e3, bndS, e4, bndS, app_some (by rw [mostL_len]; simp; omega), bndS]
    rw [W64_id (z := 97 + ((k % 16 : Nat) : Int)) (by omega) (by omega), W64_id (z := 97 + ((k / 16 % 16 : Nat) : Int)) (by omega) (by omega), W64_id (z := 97 + ((k / 256 : Nat) : Int)) (by omega) (by omega)]
    rw [toU8_small (n := k % 16) (by omega) (by omega), toU8_small (n := k / 16 % 16) (by omega) (by omega), toU8_small (n := k / 256) (by omega) (by omega)]
    have := most_L2 x0 h0 h2 j m (k + 1) F (by omega)
    rw [mostL_succ] at this
    rw [W64_up (by omega)]
    exact this
theorem u8_inj {a b : Nat} (ha : a < 256) (hb : b < 256) (h : UInt8.ofNat a = UInt8.ofNat b) : a = b := by
  have := congrArg UInt8.toNat h
  rw [UInt8.toNat_ofNat', UInt8.toNat_ofNat'] at this
  omega
theorem nmN_inj {i k : Nat} (hi : i < 4096) (hk : k < 4096) (h : nmN i = nmN k) : i = k := by
  unfold nmN at h
  simp only [List.cons.injEq, and_true] at h
  have h1 := u8_inj (by omega) (by omega) h.1
  have h2 := u8_inj (by omega) (by omega) h.2.1
  have h3 := u8_inj (by omega) (by omega) h.2.2
  omega
theorem nmN_ok {i : Nat} (hi : i < 4096) : isNm (nmN i) = true := by
  refine isNm_good _ (by simp [nmN]) (by simp [nmN]) fun c hc => ?_
  have key : ∀ n : Nat, n ≤ 20 → okC (UInt8.ofNat (97 + n)) := fun n hn => by
    refine .inl ?_
    rw [UInt8.toNat_ofNat']
    omega
  simp only [nmN, List.mem_cons, List.not_mem_nil, or_false] at hc
  rcases hc with rfl | rfl | rfl
  · exact key _ (by omega)
  · exact key _ (by omega)
  · exact key _ (by omega)
theorem putF_memE {k : List UInt8} {f : PF} : ∀ {l : Fl} {p : List UInt8 × PF}, p ∈ putF k f l → p = (k, f) ∨ p ∈ l := fun h => putF_mem h
theorem addAll_most : ∀ (m k : Nat) (l : Fl), l.length = k → (∀ p ∈ l, ∃ i, i < k ∧ p.1 = nmN i) → usF l = 0 → k + m ≤ 4096 →
    ∃ l', addAll 1 ((List.range' k m).map fun i => (nmN i, [])) l 0 = some l' ∧ l'.length = k + m ∧ (∀ p ∈ l', ∃ i, i < k + m ∧ p.1 = nmN i) ∧ usF l' = 0
  | 0, k, l, h1, h2, h3, h4 => ⟨l, rfl, h1, h2, h3⟩
  | m + 1, k, l, h1, h2, h3, h4 => by
    have hn : findF (nmN k) l = none := by
      show lookP _ l = none
      rw [lookP_none]
      intro p hp hh
      obtain ⟨i, hi, he⟩ := h2 p hp
      have := nmN_inj (by omega) (by omega) (he.symm.trans hh)
      omega
    have hu := usF_put_none (⟨[], 0⟩ : PF) hn
    rw [List.range'_succ, List.map_cons, addAll_step (by rw [nmN_ok (by omega), hn]; simp)]
    obtain ⟨l', q1, q2, q3, q4⟩ := addAll_most m (k + 1) (putF (nmN k) ⟨[], 0⟩ l) (by rw [hu.2, h1]) (fun p hp => by
      rcases putF_mem hp with rfl | hp
      · exact ⟨k, by omega, rfl⟩
      · obtain ⟨i, hi, he⟩ := h2 p hp
        exact ⟨i, by omega, he⟩) (by rw [hu.1, h3]; rfl) (by omega)
    exact ⟨l', q1, by rw [q2]; omega, fun p hp => by obtain ⟨i, hi, he⟩ := q3 p hp; exact ⟨i, by omega, he⟩, q4⟩
/-- A new file, where nothing is armed. -/
theorem create_most {s : PD} {n : List UInt8} (h1 : s.down = false) (h2 : s.cc = 0) (h3 : s.fc = 0) (hn : isNm n = true) (hf : findF n s.files = none) :
    s.create n = if s.files.length = 4096 then ({ s with calls := s.calls + 1 }, 6) else ({ s with calls := s.calls + 1, files := putF n ⟨[], 0⟩ s.files }, 0) := by
  have hb : s.begin = ({ s with calls := s.calls + 1 }, 0) := by
    unfold PD.begin; rw [if_neg (by rw [h1]; simp), if_neg (by rw [h2]; omega), if_neg (by rw [h3]; omega)]
  unfold PD.create
  rw [hb, if_neg (by simp), if_neg (by rw [hn]; simp), hf, if_neg (by simp)]
theorem create_new {l : Fl} {k : Nat} {n : List UInt8} (hn : isNm n = true) (hf : findF n l = none) (h : ¬ l.length = 4096) : PD.create ⟨l, 1, false, k, 0, 0, 0, 0⟩ n = (⟨putF n ⟨[], 0⟩ l, 1, false, k + 1, 0, 0, 0, 0⟩, 0) :=
  (create_most (s := ⟨l, 1, false, k, 0, 0, 0, 0⟩) rfl rfl rfl hn hf).trans (if_neg h)
theorem create_full {l : Fl} {k : Nat} {n : List UInt8} (hn : isNm n = true) (hf : findF n l = none) (h : l.length = 4096) : PD.create ⟨l, 1, false, k, 0, 0, 0, 0⟩ n = (⟨l, 1, false, k + 1, 0, 0, 0, 0⟩, 6) :=
  (create_most (s := ⟨l, 1, false, k, 0, 0, 0, 0⟩) rfl rfl rfl hn hf).trans (if_pos h)
theorem count3 (a b c : Int × PD) (j : Int → Option Bool) (ha : a.1 = 6 ∨ a.1 = 0) (hb : b.1 = 6 ∨ b.1 = 0) (hc : c.1 = 6 ∨ c.1 = 0) :
    m_limnographlaw18_DiskMost_L1 a b c j fuel 0 0 = j ((if a.1 = 6 then 1 else 0) + (if b.1 = 6 then 1 else 0) + (if c.1 = 6 then 1 else 0)) := by
  obtain ⟨F, hF⟩ := fuelS 4 (by omega)
  rw [hF]
  have i0 : idx [a.1, b.1, c.1] 0 = some a.1 := rfl
  have i1 : idx [a.1, b.1, c.1] (W64 (0 + 1)) = some b.1 := rfl
  have i2 : idx [a.1, b.1, c.1] (W64 (W64 (0 + 1) + 1)) = some c.1 := rfl
  have step : ∀ (F : Nat) (n y : Int) (x : Int × PD), idx [a.1, b.1, c.1] y = some x.1 → y < 3 → 0 ≤ n → n ≤ 10 → (x.1 = 6 ∨ x.1 = 0) → m_limnographlaw18_DiskMost_L1 a b c j (F + 1) n y = m_limnographlaw18_DiskMost_L1 a b c j F (n + if x.1 = 6 then 1 else 0) (W64 (y + 1)) := by
    intro F n y x hi hy hn0 hn hx
    rw [m_limnographlaw18_DiskMost_L1, if_pos (by simpa using hy), jn_eq, hi, bndS]
    rcases hx with hx | hx
    · rw [if_pos hx, if_pos hx, W64_id (z := n + 1) (by omega) (by omega)]
    · rw [if_neg (by omega), if_neg (by omega), if_neg (by omega), Int.add_zero]
  have w1 : W64 (0 + 1) = 1 := rfl
  have w2 : W64 (W64 (0 + 1) + 1) = 2 := rfl
  have w3 : W64 (W64 (W64 (0 + 1) + 1) + 1) = 3 := rfl
  rw [step _ 0 0 a i0 (by omega) (by omega) (by omega) ha, step _ _ _ b i1 (by rw [w1]; omega) (by split <;> omega) (by split <;> omega) hb, step _ _ _ c i2 (by rw [w2]; omega) (by split <;> split <;> omega) (by split <;> split <;> omega) hc, m_limnographlaw18_DiskMost_L1, w3, if_neg (by simp), Int.zero_add]
theorem most_law (x0 : Int) (_ : (Lit.int .i64 x0).wf = true) : m_limnographlaw18_DiskMost x0 = some true := by
  unfold m_limnographlaw18_DiskMost
  rw [awake_eq, bndS, if_neg (by simp)]
  by_cases hx : (x0 < 0) ∨ (x0 > 2)
  · rw [if_pos hx]
  rw [if_neg hx, jn_eq]
  obtain ⟨F, hF⟩ := fuelS (4094 + x0.toNat + 1) (by omega)
  have h9 : ∀ j, m_limnographlaw18_DiskMost_L2 x0 j fuel [] 0 = j (mostL (4094 + x0.toNat)) := fun j => by
    rw [hF]; exact most_L2 x0 (by omega) (by omega) j (4094 + x0.toNat) 0 F (by omega)
  refine (h9 _).trans ?_
  generalize hn : 4094 + x0.toNat = n
  obtain ⟨l, q1, q2, q3, q4⟩ := addAll_most n 0 [] rfl (by simp) rfl (by omega)
  have hmap : (mostL n).map (fun f : T_api_File => (f.Name, f.Data)) = (List.range' 0 n).map fun i => (nmN i, []) := by
    unfold mostL; rw [List.map_map, List.range_eq_range']; rfl
  have e0 : m_disk_New (mostL n) 1 = some (some (PD.fresh l 1)) := by
    unfold m_disk_New newD
    rw [mostL_len, if_pos (by omega), List.length_map, mostL_len, if_neg (by omega), hmap]
    show some ((addAll 1 _ [] 0).map _) = _
    rw [q1]; rfl
  rw [e0, bndS, Option.isNone_some, if_neg (by simp), bndS]
  have hno : ∀ k : List UInt8, k.length = 2 → findF k l = none := by
    intro k hk
    show lookP k l = none
    rw [lookP_none]
    intro p hp hh
    obtain ⟨i, _, he⟩ := q3 p hp
    rw [← hh, he] at hk
    simp [nmN] at hk
  have hC : ∀ (s : PD) (k : List UInt8), s.calls < 4611686018427387904 → m_disk_Disk_Create s k = some ((s.create k).2, (s.create k).1) := fun s k h => by
    unfold m_disk_Disk_Create; rw [if_pos h]
  have kx : isNm [120, 45] = true := by decide
  have ky : isNm [121, 45] = true := by decide
  have kz : isNm [122, 45] = true := by decide
  have key : ∃ r1 r2 r3 s1 s2 s3, (PD.fresh l 1).create [120, 45] = (s1, r1) ∧ s1.create [121, 45] = (s2, r2) ∧ s2.create [122, 45] = (s3, r3) ∧ s1.calls = 1 ∧ s2.calls = 2 ∧ s3.files.length = 4096 ∧ s3.down = false ∧ (∀ p ∈ s3.files, p.1.length ≤ 3) ∧
      (r1 = 6 ∨ r1 = 0) ∧ (r2 = 6 ∨ r2 = 0) ∧ (r3 = 6 ∨ r3 = 0) ∧ ((if r1 = 6 then 1 else 0) + (if r2 = 6 then 1 else 0) + (if r3 = 6 then 1 else 0) : Int) = x0 + 1 := by
    have hx1 := hno [120, 45] rfl
    have hy1 := hno [121, 45] rfl
    have hz1 := hno [122, 45] rfl
    have hl3 : ∀ p ∈ l, p.1.length ≤ 3 := fun p hp => by obtain ⟨i, _, he⟩ := q3 p hp; rw [he]; simp [nmN]
    have hy2 : findF [121, 45] (putF [120, 45] ⟨[], 0⟩ l) = none := by rw [findF_put_ne _ (by decide)]; exact hy1
    have hz2 : findF [122, 45] (putF [120, 45] ⟨[], 0⟩ l) = none := by rw [findF_put_ne _ (by decide)]; exact hz1
    have hz3 : findF [122, 45] (putF [121, 45] ⟨[], 0⟩ (putF [120, 45] ⟨[], 0⟩ l)) = none := by rw [findF_put_ne _ (by decide)]; exact hz2
    have n1 := (usF_put_none (⟨[], 0⟩ : PF) hx1).2
    have n2 := (usF_put_none (⟨[], 0⟩ : PF) hy2).2
    have l1 : ∀ p ∈ putF [120, 45] (⟨[], 0⟩ : PF) l, p.1.length ≤ 3 := fun p hp => by
      rcases putF_mem hp with rfl | hp
      · simp
      · exact hl3 p hp
    have l2 : ∀ p ∈ putF [121, 45] (⟨[], 0⟩ : PF) (putF [120, 45] ⟨[], 0⟩ l), p.1.length ≤ 3 := fun p hp => by
      rcases putF_mem hp with rfl | hp
      · simp
      · exact l1 p hp
    rcases (show x0 = 0 ∨ x0 = 1 ∨ x0 = 2 by omega) with rfl | rfl | rfl
    · have a1 : ¬ l.length = 4096 := by rw [q2]; simp at hn; omega
      have a2 : ¬ (putF [120, 45] (⟨[], 0⟩ : PF) l).length = 4096 := by rw [n1, q2]; simp at hn; omega
      have a3 : (putF [121, 45] (⟨[], 0⟩ : PF) (putF [120, 45] ⟨[], 0⟩ l)).length = 4096 := by rw [n2, n1, q2]; simp at hn; omega
      exact ⟨_, _, _, _, _, _, create_new kx hx1 a1, create_new ky hy2 a2, create_full kz hz3 a3, rfl, rfl, a3, rfl, l2, .inr rfl, .inr rfl, .inl rfl, by decide⟩
    · have a1 : ¬ l.length = 4096 := by rw [q2]; simp at hn; omega
      have a2 : (putF [120, 45] (⟨[], 0⟩ : PF) l).length = 4096 := by rw [n1, q2]; simp at hn; omega
      exact ⟨_, _, _, _, _, _, create_new kx hx1 a1, create_full ky hy2 a2, create_full kz hz2 a2, rfl, rfl, a2, rfl, l1, .inr rfl, .inl rfl, .inl rfl, by decide⟩
    · have a1 : l.length = 4096 := by rw [q2]; simp at hn; omega
      exact ⟨_, _, _, _, _, _, create_full kx hx1 a1, create_full ky hy1 a1, create_full kz hz1 a1, rfl, rfl, a1, rfl, hl3, .inl rfl, .inl rfl, .inl rfl, by decide⟩
  obtain ⟨r1, r2, r3, s1, s2, s3, c1, c2, c3, k1, k2, f1, f2, f3, g1, g2, g3, g4⟩ := key
  rw [hC _ _ (by show (0 : Nat) < _; omega), c1, bndS]
  dsimp only
  rw [hC _ _ (by omega), c2, bndS]
  dsimp only
  rw [hC _ _ (by omega), c3, bndS, jn_eq, count3 _ _ _ _ g1 g2 g3]
  dsimp only
  rw [g4, app_some (by rw [mostL_len]; simp; omega), bndS, jn_eq, W64_id (by omega) (by omega), if_pos rfl]
  unfold m_disk_Disk_Names
  rw [if_pos ⟨fun k hk => by obtain ⟨p, hp, rfl⟩ := List.mem_map.1 hk; have := f3 p hp; omega, by omega⟩, bndS]
  have hln : s3.names.length = 4096 := by unfold PD.names; rw [if_neg (by rw [f2]; simp), List.length_mergeSort, List.length_map, f1]
  rw [decide_eq_true (by rw [hln]; rfl)]
  dsimp only
  rw [jn_eq, if_pos rfl]
  unfold m_disk_New newD
  rw [if_pos (by rw [List.length_append, mostL_len]; simp; omega), bndS, if_pos (by rw [List.length_map, List.length_append, mostL_len]; simp; omega)]
  rfl
end Go.Proofs.Ytboelmiicbcjiaa
