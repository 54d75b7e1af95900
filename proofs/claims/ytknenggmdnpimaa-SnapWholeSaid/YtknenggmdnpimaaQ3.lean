/-
  Chapter 18: each call does to the document's list what it does to the program's files; plain Lean.
-/
import Derived.Test.YtknenggmdnpimaaQ2
set_option linter.unusedVariables false
set_option linter.unusedSimpArgs false
namespace Go.Proofs.Ytknenggmdnpimaa
open Go Go.RowKit Go.Wk
section
variable {c : Nat} {s : PD} {d : Dd}
theorem Rel.fsB {d1 : Dd} (hR : Rel (c + 1) s.begin.1 d1) : Fs d1.L s.files := by have := hR.fs; rwa [PD.begin_files] at this
theorem Rel.dataLe (h : Rel c s d) {x : Fi} (hx : x ∈ d.L) : x.Data.length ≤ 4194304 := by
  have h1 := find_le_used (s := s) (h.fs.some hx)
  have h2 := h.used; have h3 := h.capL
  dsimp only at h1
  omega
theorem Rel.usB {d1 : Dd} (hR : Rel (c + 1) s.begin.1 d1) : usF s.files ≤ s.begin.1.cap := by have := hR.used; unfold PD.used at this; rwa [PD.begin_files] at this
theorem Rel.lenB {d1 : Dd} (hR : Rel (c + 1) s.begin.1 d1) : s.files.length ≤ 4096 := by have := hR.fsB.len; have := hR.len; omega
theorem create_eq (h : Rel c s d) (hc : c ≤ 999) (n : List UInt8) : ∃ d', m_limnographref18_Disk_Create d n = some ((s.create n).2, d') ∧ Rel (c + 1) (s.create n).1 d' := by
  obtain ⟨d1, hb, hR, _⟩ := h.begin hc
  have hfs := hR.fsB
  unfold m_limnographref18_Disk_Create PD.create
  rw [hb, bndS]; dsimp only
  by_cases h0 : s.begin.2 ≠ 0
  · rw [if_pos h0, if_pos h0]; exact ⟨_, rfl, hR⟩
  · rw [if_neg h0, if_neg h0, name_eq, bndS]
    have h0' : s.begin.2 = 0 := Decidable.not_not.1 h0
    cases hn : isNm n with
    | false => rw [if_pos (by simp), if_pos rfl]; exact ⟨_, rfl, hR⟩
    | true =>
      rw [if_neg (show ¬ ((!true) = true) by simp), if_neg (show ¬ (true = false) by simp)]
      rcases hfs.find hR.len n with ⟨h1, h2⟩ | ⟨i, x, h1, h2, h3, h4, h5⟩
      · rw [h1, bndS, if_neg (show ¬ ((-1 : Int) ≥ 0) by omega), h2, if_neg (show ¬ ((none : Option PF).isSome = true) by simp)]
        have hL := hfs.len
        by_cases hf : s.files.length = 4096
        · rw [if_pos (show (d1.L.length : Int) = 4096 by omega), if_pos hf]; exact ⟨_, rfl, hR⟩
        · rw [if_neg (show ¬ ((d1.L.length : Int) = 4096) by omega), if_neg hf]
          obtain ⟨L', q1, q2⟩ := hfs.putD hR.len ⟨n, [], 0⟩ (by simp) hn
          rw [q1, bndS]
          refine ⟨_, rfl, hR.files q2 ?_ ?_⟩
          · have := (usF_put_none ⟨[], 0⟩ h2).2; have := hR.lenB; dsimp only [Int.toNat] at *; omega
          · have := (usF_put_none ⟨[], 0⟩ h2).1; have := hR.usB; dsimp only [Int.toNat, List.length_nil] at *; omega
      · rw [h4, bndS, if_pos (show (i : Int) ≥ 0 by omega), h5, if_pos (show (some (⟨x.Data, x.Sure.toNat⟩ : PF)).isSome = true from rfl)]; exact ⟨_, rfl, hR⟩
theorem append_eq (h : Rel c s d) (hc : c ≤ 999) (n b : List UInt8) : ∃ d', m_limnographref18_Disk_Append d n b = some ((s.append n b).2, d') ∧ Rel (c + 1) (s.append n b).1 d' := by
  obtain ⟨d1, hb, hR, _⟩ := h.begin hc
  have hfs := hR.fsB
  have hcap : s.begin.1.cap = s.cap := s.begin_cap
  unfold m_limnographref18_Disk_Append PD.append
  rw [hb, bndS]; dsimp only
  by_cases h0 : s.begin.2 ≠ 0
  · rw [if_pos h0, if_pos h0]; exact ⟨_, rfl, hR⟩
  · rw [if_neg h0, if_neg h0]
    rcases hfs.find hR.len n with ⟨h1, h2⟩ | ⟨i, x, h1, h2, h3, h4, h5⟩
    · rw [h1, bndS, if_pos (by omega), h2]; exact ⟨_, rfl, hR⟩
    · rw [h4, bndS, if_neg (by omega), h5]
      have hu := hR.usB
      have hcL := hR.capL
      have hus : s.begin.1.used = usF s.files := by rw [PD.begin_used]; rfl
      rw [used_eq d1 (by have := hR.len; omega) (by rw [hfs.used]; omega), bndS, hfs.used, hR.cap, W64_id (by omega) (by omega)]
      dsimp only
      by_cases hsp : (b.length : Int) > s.cap - s.begin.1.used
      · rw [if_pos (by rw [hus] at hsp; omega), if_pos hsp]; exact ⟨_, rfl, hR⟩
      · rw [if_neg (by rw [hus] at hsp; omega), if_neg hsp, idx_nat, h1, bndS]
        rw [hus] at hsp
        have hx := hR.dataLe h2
        unfold lenS
        rw [cat_some (by omega), bndS, if_pos (by simp; omega), bndS]
        have hsr := hfs.sure x h2
        obtain ⟨L', q1, q2⟩ := hfs.putD hR.len ⟨n, x.Data ++ b, x.Sure⟩ ⟨hsr.1, by rw [List.length_append]; have := hsr.2; dsimp only; omega⟩ (by rw [← h3]; exact hfs.nm x h2)
        rw [q1, bndS]
        refine ⟨_, rfl, hR.files q2 ?_ ?_⟩
        · have := (usF_put_some ⟨x.Data ++ b, x.Sure.toNat⟩ h5).2; have := hR.lenB; dsimp only at *; omega
        · have := (usF_put_some ⟨x.Data ++ b, x.Sure.toNat⟩ h5).1; dsimp only at *; rw [List.length_append] at this; omega
theorem sync_eq (h : Rel c s d) (hc : c ≤ 999) (n : List UInt8) : ∃ d', m_limnographref18_Disk_Sync d n = some ((s.sync n).2, d') ∧ Rel (c + 1) (s.sync n).1 d' := by
  obtain ⟨d1, hb, hR, _⟩ := h.begin hc
  have hfs := hR.fsB
  unfold m_limnographref18_Disk_Sync PD.sync
  rw [hb, bndS]; dsimp only
  by_cases h0 : s.begin.2 ≠ 0
  · rw [if_pos h0, if_pos h0]; exact ⟨_, rfl, hR⟩
  · rw [if_neg h0, if_neg h0]
    rcases hfs.find hR.len n with ⟨h1, h2⟩ | ⟨i, x, h1, h2, h3, h4, h5⟩
    · rw [h1, bndS, if_pos (by omega), h2]; exact ⟨_, rfl, hR⟩
    · rw [h4, bndS, if_neg (by omega), h5, idx_nat, h1, bndS]
      obtain ⟨L', q1, q2⟩ := hfs.putD hR.len ⟨n, x.Data, x.Data.length⟩ (by dsimp only; omega) (by rw [← h3]; exact hfs.nm x h2)
      rw [q1, bndS]
      dsimp only [Int.toNat_natCast] at q2 ⊢
      refine ⟨_, rfl, hR.files q2 ?_ ?_⟩
      · have := (usF_put_some ⟨x.Data, x.Data.length⟩ h5).2; have := hR.lenB; omega
      · have := (usF_put_some ⟨x.Data, x.Data.length⟩ h5).1; have := hR.usB; dsimp only at *; omega
theorem rename_eq (h : Rel c s d) (hc : c ≤ 999) (n b : List UInt8) : ∃ d', m_limnographref18_Disk_Rename d n b = some ((s.rename n b).2, d') ∧ Rel (c + 1) (s.rename n b).1 d' := by
  obtain ⟨d1, hb, hR, _⟩ := h.begin hc
  have hfs := hR.fsB
  unfold m_limnographref18_Disk_Rename PD.rename
  rw [hb, bndS]; dsimp only
  by_cases h0 : s.begin.2 ≠ 0
  · rw [if_pos h0, if_pos h0]; exact ⟨_, rfl, hR⟩
  · rw [if_neg h0, if_neg h0, name_eq, bndS]
    cases hn : isNm b with
    | false => rw [if_pos (by simp), if_pos rfl]; exact ⟨_, rfl, hR⟩
    | true =>
      rw [if_neg (show ¬ ((!true) = true) by simp), if_neg (show ¬ (true = false) by simp)]
      rcases hfs.find hR.len n with ⟨h1, h2⟩ | ⟨i, x, h1, h2, h3, h4, h5⟩
      · rw [h1, bndS, if_pos (by omega), h2]; exact ⟨_, rfl, hR⟩
      · rw [h4, bndS, if_neg (by omega), h5, idx_nat, h1, bndS, without_eq _ _ (by have := hR.len; omega), bndS]
        have hd := hfs.del n
        have hu := usF_del h5
        have hdl := Nat.le_trans (Nat.le_of_eq hd.len) (show (delF n s.files).length ≤ 4096 by have := hR.lenB; omega)
        obtain ⟨L', q1, q2⟩ := Fs.putD (d := { d1 with L := _ }) hd hdl ⟨b, x.Data, x.Sure⟩ (hfs.sure x h2) hn
        rw [q1, bndS]
        dsimp only at q2 ⊢
        have hp := usF_put_le b ⟨x.Data, x.Sure.toNat⟩ (delF n s.files)
        dsimp only at hp hu
        have hL := hR.lenB; have hU := hR.usB
        exact ⟨_, rfl, hR.files q2 (by omega) (by omega)⟩
theorem remove_eq (h : Rel c s d) (hc : c ≤ 999) (n : List UInt8) : ∃ d', m_limnographref18_Disk_Remove d n = some ((s.remove n).2, d') ∧ Rel (c + 1) (s.remove n).1 d' := by
  obtain ⟨d1, hb, hR, _⟩ := h.begin hc
  have hfs := hR.fsB
  unfold m_limnographref18_Disk_Remove PD.remove
  rw [hb, bndS]; dsimp only
  by_cases h0 : s.begin.2 ≠ 0
  · rw [if_pos h0, if_pos h0]; exact ⟨_, rfl, hR⟩
  · rw [if_neg h0, if_neg h0]
    rcases hfs.find hR.len n with ⟨h1, h2⟩ | ⟨i, x, h1, h2, h3, h4, h5⟩
    · rw [h1, bndS, if_pos (by omega), h2]; exact ⟨_, rfl, hR⟩
    · rw [h4, bndS, if_neg (by omega), h5, without_eq _ _ (by have := hR.len; omega), bndS]
      have hd := hfs.del n
      have hu := usF_del h5
      have hL := hR.lenB; have hU := hR.usB
      exact ⟨_, rfl, hR.files hd (by omega) (by omega)⟩
theorem arm_eq (calls : Nat) (after e : Int) (hc : calls ≤ 1000) (ha : after ≤ 9223372036854775807) : ∃ A, m_limnographref18_Arm after e = some A ∧ ArmR calls (armP calls after e).1 A ∧ (0 ≤ A → (armP calls after e).1 = calls + 1 + A → e = (armP calls after e).2) := by
  unfold m_limnographref18_Arm armP
  by_cases h : after < 0 ∨ e = 0
  · rw [if_pos h, if_pos (by omega)]
    exact ⟨-1, rfl, .inr (.inl ⟨rfl, by dsimp only; omega⟩), fun h => by omega⟩
  · rw [if_neg h]
    by_cases h2 : 4611686018427387904 ≤ after
    · rw [if_pos (by omega)]
      exact ⟨after, rfl, .inr (.inr ⟨by omega, ha, by dsimp only; omega⟩), fun h0 h1 => by dsimp only at h1; omega⟩
    · rw [if_neg (by omega)]
      exact ⟨after, rfl, .inl ⟨by omega, by omega, rfl⟩, fun _ _ => rfl⟩
theorem fail_eq (h : Rel c s d) (hc : c ≤ 999) (n e : Int) (hn : n ≤ 9223372036854775807) : ∃ A, m_limnographref18_Arm n e = some A ∧ Rel (c + 1) (s.fail n e) { d with Fail := A, Err := e } := by
  obtain ⟨A, h1, h2, h3⟩ := arm_eq s.calls n e (by have := h.few; omega) hn
  exact ⟨A, h1, ⟨h.fs, h.len, h.cap, h.used, h.capL, h.down, h.callsE, by have := h.few; show s.calls ≤ c + 1; omega, h.crash, h2, h3⟩⟩
theorem crash_eq (h : Rel c s d) (hc : c ≤ 999) (n : Int) (hn : n ≤ 9223372036854775807) : ∃ A, m_limnographref18_Arm n 13 = some A ∧ Rel (c + 1) (s.crash n) { d with Crash := A } := by
  obtain ⟨A, h1, h2, h3⟩ := arm_eq s.calls n 13 (by have := h.few; omega) hn
  exact ⟨A, h1, ⟨h.fs, h.len, h.cap, h.used, h.capL, h.down, h.callsE, by have := h.few; show s.calls ≤ c + 1; omega, h2, h.fail, h.err⟩⟩
theorem Rel.more (h : Rel c s d) : Rel (c + 1) s d := { h with few := by have := h.few; omega }
end
end Go.Proofs.Ytknenggmdnpimaa
