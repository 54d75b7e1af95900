/-
  Chapter 19: the law WalKeeps; plain Lean.
-/
import Derived.Test.YtopknmmckcijkaaG3
set_option linter.unusedVariables false
set_option linter.unusedSimpArgs false
namespace Go.Proofs.Ytopknmmckcijkaa
open Go Go.RowKit Go.Wk
/-- A log, its file, and what of it is sure. -/
structure Wi (c : Nat) (cap : Nat) (ins : List (List UInt8)) (sure : Int) (s : PD) (lg : Lg) : Prop where
  files : s.files = [(wN, ⟨Wl ins, (Wl (ins.take sure.toNat)).length⟩)]
  s0 : 0 ≤ sure
  sle : sure ≤ ins.length
  used : (Wl ins).length ≤ s.cap
  capE : s.cap = cap
  capL : s.cap ≤ 4194304
  fc : s.fc = 0
  lgE : lg = ⟨wN, ins.length, (Wl ins).length⟩
  few : s.calls ≤ c
  small : ∀ r ∈ ins, r.length ≤ 65536
  num : ins.length ≤ 1000
section
variable {c cap : Nat} {ins : List (List UInt8)} {sure : Int} {s : PD} {lg : Lg}
theorem Wi.mono (h : Wi c cap ins sure s lg) {c' : Nat} (hc : c ≤ c') : Wi c' cap ins sure s lg := { h with few := Nat.le_trans h.few hc }
theorem one_used (W : List UInt8) (n : Nat) : ([(wN, (⟨W, n⟩ : PF))].map fun p => p.2.data.length).sum = W.length := by simp
theorem Wi.us (h : Wi c cap ins sure s lg) : s.used = (Wl ins).length := by unfold PD.used; rw [h.files, one_used]
theorem Wi.usd (h : Wi c cap ins sure s lg) : s.used ≤ s.cap ∧ s.cap ≤ 4194304 := ⟨by rw [h.us]; exact h.used, h.capL⟩
theorem Wi.find (h : Wi c cap ins sure s lg) : findF wN s.files = some ⟨Wl ins, (Wl (ins.take sure.toNat)).length⟩ := by rw [h.files]; exact one_find _ _
theorem Wi.begin (h : Wi c cap ins sure s lg) : (s.begin.2 = 0 ∨ s.begin.2 = 13) ∧ Wi (c + 1) cap ins sure s.begin.1 lg := by
  have hf := h.few
  unfold PD.begin
  by_cases h1 : s.down = true
  · rw [if_pos h1]; exact ⟨.inr rfl, h.mono (by omega)⟩
  · rw [if_neg h1]
    by_cases h2 : (s.calls : Int) + 1 = s.cc
    · rw [if_pos h2]; exact ⟨.inr rfl, { h with few := by show s.calls + 1 ≤ c + 1; omega }⟩
    · rw [if_neg h2, if_neg (by rw [h.fc]; omega)]; exact ⟨.inl rfl, { h with few := by show s.calls + 1 ≤ c + 1; omega }⟩
theorem Wi.append (h : Wi c cap ins sure s lg) (hn : ins.length < 1000) (r : List UInt8) (hr : r.length ≤ 65536) :
    ((s.append wN (wrapL r)).2 = 0 ∧ Wi (c + 1) cap (ins ++ [r]) sure (s.append wN (wrapL r)).1 ⟨wN, ins.length + 1, (Wl ins).length + (wrapL r).length⟩) ∨ (((s.append wN (wrapL r)).2 = 12 ∨ (s.append wN (wrapL r)).2 = 13) ∧ Wi (c + 1) cap ins sure (s.append wN (wrapL r)).1 lg) := by
  obtain ⟨b1, b2⟩ := h.begin
  unfold PD.append
  by_cases h0 : s.begin.2 ≠ 0
  · rw [if_pos h0]; exact .inr ⟨.inr (b1.resolve_left h0), b2⟩
  · rw [if_neg h0, h.find]
    dsimp only
    by_cases h1 : ((wrapL r).length : Int) > s.cap - s.begin.1.used
    · rw [if_pos h1]; exact .inr ⟨.inl rfl, b2⟩
    · rw [if_neg h1]
      refine .inl ⟨rfl, ?_⟩
      rw [b2.us] at h1
      have hs := h.sle; have hs0 := h.s0
      have hl : (Wl (ins ++ [r])).length = (Wl ins).length + (wrapL r).length := by rw [Wl_app, Wl_one, List.length_append]
      have hbc : s.begin.1.cap = s.cap := b2.capE.trans h.capE.symm
      refine ⟨?_, hs0, by rw [List.length_append, List.length_singleton]; omega, ?_, b2.capE, b2.capL, b2.fc, ?_, b2.few, ?_, by rw [List.length_append, List.length_singleton]; omega⟩
      · show putF wN _ s.files = _
        rw [h.files, one_put, Wl_app, Wl_one, List.take_append_of_le_length (by omega)]
      · rw [hl]
        show _ ≤ s.begin.1.cap
        rw [hbc]; omega
      · rw [hl, List.length_append, List.length_singleton]; congr 1
      · intro x hx
        rcases List.mem_append.1 hx with hx | hx
        · exact h.small x hx
        · simp at hx; rw [hx]; exact hr
theorem Wi.sync (h : Wi c cap ins sure s lg) : ((s.sync wN).2 = 0 ∧ Wi (c + 1) cap ins ins.length (s.sync wN).1 lg) ∨ ((s.sync wN).2 = 13 ∧ Wi (c + 1) cap ins sure (s.sync wN).1 lg) := by
  obtain ⟨b1, b2⟩ := h.begin
  unfold PD.sync
  by_cases h0 : s.begin.2 ≠ 0
  · rw [if_pos h0]; exact .inr ⟨b1.resolve_left h0, b2⟩
  · rw [if_neg h0, h.find]
    refine .inl ⟨rfl, ?_, by omega, Int.le_refl _, b2.used, b2.capE, b2.capL, b2.fc, b2.lgE, b2.few, b2.small, b2.num⟩
    show putF wN _ s.files = _
    rw [h.files, one_put, Int.toNat_natCast, List.take_length]
theorem Wi.lappend (h : Wi c cap ins sure s lg) (hc : c ≤ 1000000) (hn : ins.length < 1000) (r : List UInt8) (hr : r.length ≤ 65536) : ∃ e lg' s', m_wal_Log_Append lg r s = some (e, lg', s') ∧
    ((e = 0 ∧ Wi (c + 1) cap (ins ++ [r]) sure s' lg' ∧ lg' = ⟨wN, ins.length + 1, (Wl ins).length + (wrapL r).length⟩) ∨ ((e = 12 ∨ e = 13) ∧ Wi (c + 1) cap ins sure s' lg' ∧ lg' = lg)) ∧ s' = (s.append wN (wrapL r)).1 ∧ e = (s.append wN (wrapL r)).2 := by
  unfold m_wal_Log_Append
  have hf := h.few
  have hus := h.used; have hcl := h.capL
  have hw : (wrapL r).length = 9 + r.length := wrapL_length r
  have hA : m_disk_Disk_Append s lg.name (wrapL r) = some ((s.append wN (wrapL r)).2, (s.append wN (wrapL r)).1) := by
    rw [h.lgE]
    unfold m_disk_Disk_Append; rw [if_pos ⟨by omega, h.usd, by omega⟩]
  rw [fwrap_eq r hr, bndS, jn_eq]
  dsimp only
  rw [if_pos rfl, hA, bndS, jn_eq]
  dsimp only
  rcases h.append hn r hr with ⟨a1, a2⟩ | ⟨a1, a2⟩
  · rw [if_pos a1]
    refine ⟨_, _, _, rfl, .inl ⟨a1, ?_, ?_⟩, rfl, rfl⟩
    · rw [h.lgE]
      dsimp only
      rw [W64_id (by omega) (by omega), W64_id (by omega) (by omega)]
      exact a2
    · rw [h.lgE]
      dsimp only
      rw [W64_id (by omega) (by omega), W64_id (by omega) (by omega)]
  · rw [if_neg (by omega)]
    exact ⟨_, _, _, rfl, .inr ⟨a1, a2, rfl⟩, rfl, rfl⟩
theorem Wi.lsync (h : Wi c cap ins sure s lg) (hc : c ≤ 1000000) : ∃ e s', m_wal_Log_Sync lg s = some (e, s') ∧ ((e = 0 ∧ Wi (c + 1) cap ins ins.length s' lg) ∨ (e = 13 ∧ Wi (c + 1) cap ins sure s' lg)) ∧ s' = (s.sync wN).1 := by
  have hf := h.few
  unfold m_wal_Log_Sync m_disk_Disk_Sync
  have hl : lg.name = wN := by rw [h.lgE]
  rw [hl, if_pos (by omega), bndS]
  exact ⟨_, _, rfl, h.sync, rfl⟩
end
/-- A log that lies clear: nothing is to fail. -/
structure Cl (c cap : Nat) (G : List (List UInt8)) (s : PD) : Prop where
  files : ∃ n, s.files = [(wN, ⟨Wl G, n⟩)]
  down : s.down = false
  cc : s.cc = 0
  fc : s.fc = 0
  capE : s.cap = cap
  capL : s.cap ≤ 4194304
  used : (Wl G).length ≤ s.cap
  few : s.calls ≤ c
theorem take_pre {ins : List (List UInt8)} (m : Nat) : (Wl ins).take (Wl (ins.take m)).length = Wl (ins.take m) := by
  have : Wl ins = Wl (ins.take m) ++ Wl (ins.drop m) := by rw [← Wl_app, List.take_append_drop]
  rw [this, List.take_left]
theorem take_pre_len (ins : List (List UInt8)) (m : Nat) : (Wl (ins.take m)).length ≤ (Wl ins).length := by
  have : Wl ins = Wl (ins.take m) ++ Wl (ins.drop m) := by rw [← Wl_app, List.take_append_drop]
  rw [this, List.length_append]; omega
theorem open_w {s : PD} {c cap K n : Nat} {ins : List (List UInt8)} (hc : c ≤ 1000000) (hfew : s.calls ≤ c) (hd : s.down = false) (hcc : s.cc = 0) (hfc : s.fc = 0) (hcap : s.cap = cap) (hcl : s.cap ≤ 4194304) (hs : ∀ r ∈ ins, r.length ≤ 65536)
    (hK : K ≤ (Wl ins).length) (hu : (Wl ins).length ≤ s.cap) (hf : s.files = [(wN, ⟨(Wl ins).take K, n⟩)]) : ∃ m s5, m ≤ ins.length ∧ (∀ j, j ≤ ins.length → (Wl (ins.take j)).length ≤ K → j ≤ m) ∧
      m_wal_Open s wN = some (some ⟨wN, (m : Nat), ((Wl (ins.take m)).length : Nat)⟩, ins.take m, 0, s5) ∧ Cl (c + 1) cap (ins.take m) s5 := by
  have hlen : ((Wl ins).take K).length = K := by rw [List.length_take]; omega
  obtain ⟨m, e, m1, m2, m3, m4, m5⟩ := scan_prefix ins K K hs hK (Nat.le_refl _)
  have hrec : recF ((Wl ins).take K) = (ins.take m, (Wl (ins.take m)).length, 0) := by
    unfold recF scF
    rw [hlen, m2, if_neg (by dsimp only; omega)]
  have hus : s.used ≤ s.cap ∧ s.cap ≤ 4194304 := by
    refine ⟨?_, hcl⟩
    unfold PD.used; rw [hf, one_used, hlen]; omega
  have hfind : findF wN s.files = some ⟨(Wl ins).take K, n⟩ := by rw [hf]; exact one_find _ _
  have hml : (ins.take m).length = m := by rw [List.length_take]; omega
  rw [open_some (by omega) hus hd hfind]
  dsimp only
  rw [hrec, hlen]
  dsimp only
  rw [if_neg (by simp), hml]
  by_cases hlt : (Wl (ins.take m)).length < K
  · rw [if_pos hlt]
    have hcut : s.cut wN (Wl (ins.take m)).length = ({ s with calls := s.calls + 1, files := [(wN, ⟨Wl (ins.take m), min n (Wl (ins.take m)).length⟩)] }, 0) := by
      unfold PD.cut
      rw [begin_clear hd hcc hfc, if_neg (by simp), hfind]
      dsimp only
      rw [if_neg (by rw [hlen]; omega), Int.toNat_natCast, List.take_take, Nat.min_eq_left (by omega), take_pre, hf, one_put]
    rw [hcut, if_neg (by simp)]
    exact ⟨m, _, m1, m5, rfl, ⟨_, rfl⟩, hd, hcc, hfc, hcap, hcl, by show _ ≤ s.cap; omega, by show s.calls + 1 ≤ c + 1; omega⟩
  · rw [if_neg hlt]
    have hKe : (Wl (ins.take m)).length = K := by omega
    refine ⟨m, s, m1, m5, rfl, ⟨n, ?_⟩, hd, hcc, hfc, hcap, hcl, by omega, by omega⟩
    rw [hf, ← hKe, take_pre]
theorem Cl.openC {c cap : Nat} {G : List (List UInt8)} {s : PD} (h : Cl c cap G s) (hc : c ≤ 1000000) (hs : ∀ r ∈ G, r.length ≤ 65536) : ∃ s5, m_wal_Open s wN = some (some ⟨wN, (G.length : Nat), ((Wl G).length : Nat)⟩, G, 0, s5) := by
  obtain ⟨n, hn⟩ := h.files
  obtain ⟨m, s5, m1, m2, m3, _⟩ := open_w (K := (Wl G).length) (ins := G) hc h.few h.down h.cc h.fc h.capE h.capL hs (Nat.le_refl _) h.used (by rw [List.take_length]; exact hn)
  have hm : m = G.length := Nat.le_antisymm m1 (m2 G.length (Nat.le_refl _) (by rw [List.take_length]; exact Nat.le_refl _))
  subst hm
  rw [List.take_length] at m3
  exact ⟨s5, m3⟩
theorem Cl.append {c cap : Nat} {G : List (List UInt8)} {s : PD} (h : Cl c cap G s) (r : List UInt8) (hr : r.length ≤ 65536) :
    ((s.append wN (wrapL r)).2 = 0 ∧ Cl (c + 1) cap (G ++ [r]) (s.append wN (wrapL r)).1) ∨ ((s.append wN (wrapL r)).2 = 12 ∧ (wrapL r).length + (Wl G).length > cap ∧ Cl (c + 1) cap G (s.append wN (wrapL r)).1) := by
  have hfew := h.few
  obtain ⟨n, hn⟩ := h.files
  have hfind : findF wN s.files = some ⟨Wl G, n⟩ := by rw [hn]; exact one_find _ _
  have hus : s.used = (Wl G).length := by unfold PD.used; rw [hn, one_used]
  unfold PD.append
  rw [begin_clear h.down h.cc h.fc, if_neg (by simp), hfind]
  dsimp only
  have hu2 : PD.used { s with calls := s.calls + 1 } = (Wl G).length := hus
  rw [hu2]
  have hcE := h.capE
  by_cases h1 : ((wrapL r).length : Int) > s.cap - (Wl G).length
  · rw [if_pos h1]
    exact .inr ⟨rfl, by omega, h.files, h.down, h.cc, h.fc, h.capE, h.capL, h.used, by show s.calls + 1 ≤ c + 1; omega⟩
  · rw [if_neg h1]
    have hl : (Wl (G ++ [r])).length = (Wl G).length + (wrapL r).length := by rw [Wl_app, Wl_one, List.length_append]
    refine .inl ⟨rfl, ⟨n, ?_⟩, h.down, h.cc, h.fc, h.capE, h.capL, by show _ ≤ s.cap; omega, by show s.calls + 1 ≤ c + 1; omega⟩
    show putF wN _ s.files = _
    rw [hn, one_put, Wl_app, Wl_one]
theorem bulk8_L1 (x0 : List (List UInt8)) : ∀ (m : Nat) (y5 : Int) (i F : Nat), (i : Int) ≤ y5 → y5 ≤ 20000 → 8001 - y5 ≤ m → ∃ n, m_limnographref04_Bulk_L1 x0 8000 some (F + (m + 1)) y5 (i : Int) = some n ∧ y5 ≤ n ∧ (n ≤ 8000 → ∀ k, i ≤ k → ∀ r, x0[k]? = some r → r.length ≤ 8000)
  | 0, y5, i, F, h1, h2, h3 => by
    rw [show F + (0 + 1) = F + 1 from rfl, m_limnographref04_Bulk_L1, if_neg (by omega)]
    exact ⟨_, rfl, Int.le_refl _, fun h => by omega⟩
  | m + 1, y5, i, F, h1, h2, h3 => by
    rw [show F + (m + 1 + 1) = (F + (m + 1)) + 1 by omega, m_limnographref04_Bulk_L1]
    by_cases hh : (i : Int) < (x0.length : Int) ∧ y5 ≤ 8000
    · have hi : i < x0.length := by omega
      rw [if_pos hh, idx_at hi, bndS, W64_up (by omega), W64_id (z := 8000 + 1) (by omega) (by omega), W64_id (z := y5 + 1) (by omega) (by omega)]
      have hm : 0 ≤ min ((x0[i]).length : Int) (8000 + 1) ∧ min ((x0[i]).length : Int) (8000 + 1) ≤ 8001 := ⟨Int.le_min.2 ⟨by omega, by omega⟩, Int.min_le_right _ _⟩
      rw [W64_id (by omega) (by omega)]
      obtain ⟨n, q1, q2, q3⟩ := bulk8_L1 x0 m (y5 + 1 + min ((x0[i]).length : Int) (8000 + 1)) (i + 1) F (by omega) (by omega) (by omega)
      refine ⟨n, q1, by omega, fun hn k hk r hr => ?_⟩
      rcases Nat.lt_or_ge i k with h4 | h4
      · exact q3 hn k (by omega) r hr
      · have : k = i := by omega
        subst this
        rw [List.getElem?_eq_getElem hi] at hr
        cases hr
        rcases Int.le_total ((x0[k]).length : Int) (8000 + 1) with h5 | h5
        · rw [Int.min_eq_left h5] at q2; omega
        · rw [Int.min_eq_right h5] at q2; omega
    · rw [if_neg hh]
      refine ⟨_, rfl, Int.le_refl _, fun hn k hk r hr => ?_⟩
      have : k < x0.length := by
        rcases Nat.lt_or_ge k x0.length with h | h
        · exact h
        · rw [List.getElem?_eq_none h] at hr; cases hr
      omega
theorem bulk8_some (x0 : List (List UInt8)) : ∃ n, m_limnographref04_Bulk x0 8000 = some n ∧ (n ≤ 8000 → ∀ r ∈ x0, r.length ≤ 8000) := by
  unfold m_limnographref04_Bulk
  rw [jn_eq]
  obtain ⟨F, hF⟩ := fuelB 8002 (by omega)
  rw [hF]
  obtain ⟨n, q1, _, q3⟩ := bulk8_L1 x0 8001 0 0 F (by omega) (by omega) (by omega)
  refine ⟨n, q1, fun hn r hr => ?_⟩
  obtain ⟨k, hk, rfl⟩ := List.getElem_of_mem hr
  exact q3 hn k (Nat.zero_le _) _ (List.getElem?_eq_getElem hk)
end Go.Proofs.Ytopknmmckcijkaa
