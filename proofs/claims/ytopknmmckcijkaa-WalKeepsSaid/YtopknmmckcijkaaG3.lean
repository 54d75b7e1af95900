/-
  Chapter 19: what a log is opened as; the law WalOpens; plain Lean.
-/
import Derived.Test.YtopknmmckcijkaaG2
set_option linter.unusedVariables false
set_option linter.unusedSimpArgs false
namespace Go.Proofs.Ytopknmmckcijkaa
open Go Go.RowKit Go.Wk
abbrev Lg := T_wal_Log
theorem data_le {s : PD} {name : List UInt8} {f : PF} (hu : s.used ≤ s.cap ∧ s.cap ≤ 4194304) (hf : findF name s.files = some f) : f.data.length ≤ 4194304 := by
  have := find_le_used (s := s) hf; omega
theorem recF_err (l : List UInt8) : (recF l).2.2 = 0 ∨ ((recF l).2.2 = 15 ∧ (recF l).1 = [] ∧ (recF l).2.1 = 0) := by
  unfold recF; split
  · exact .inr ⟨rfl, rfl, rfl⟩
  · exact .inl rfl
theorem read_none {s : PD} {name : List UInt8} (hu : s.used ≤ s.cap ∧ s.cap ≤ 4194304) (hd : s.down = false) (hf : findF name s.files = none) : m_disk_Disk_Read s name = some ([], 7) := by
  unfold m_disk_Disk_Read
  rw [if_pos hu, if_neg (by rw [hd]; simp), hf]
theorem read_some {s : PD} {name : List UInt8} {f : PF} (hu : s.used ≤ s.cap ∧ s.cap ≤ 4194304) (hd : s.down = false) (hf : findF name s.files = some f) : m_disk_Disk_Read s name = some (f.data, 0) := by
  unfold m_disk_Disk_Read
  rw [if_pos hu, if_neg (by rw [hd]; simp), hf]
theorem open_none {s : PD} {name : List UInt8} (hc : s.calls < 4611686018427387904) (hu : s.used ≤ s.cap ∧ s.cap ≤ 4194304) (hd : s.down = false) (hf : findF name s.files = none) :
    m_wal_Open s name = if (s.create name).2 ≠ 0 then some (none, [], (s.create name).2, (s.create name).1) else some (some ⟨name, 0, 0⟩, [], 0, (s.create name).1) := by
  unfold m_wal_Open m_disk_Disk_Create
  rw [read_none hu hd hf, bndS]
  dsimp only
  rw [if_pos rfl, if_pos hc, bndS]
theorem open_some {s : PD} {name : List UInt8} {f : PF} (hc : s.calls < 4611686018427387904) (hu : s.used ≤ s.cap ∧ s.cap ≤ 4194304) (hd : s.down = false) (hf : findF name s.files = some f) :
    m_wal_Open s name = if (recF f.data).2.2 ≠ 0 then some (none, [], ((recF f.data).2.2 : Int), s) else if (recF f.data).2.1 < f.data.length then
      (if (s.cut name (recF f.data).2.1).2 ≠ 0 then some (none, [], (s.cut name (recF f.data).2.1).2, (s.cut name (recF f.data).2.1).1) else some (some ⟨name, (recF f.data).1.length, (recF f.data).2.1⟩, (recF f.data).1, 0, (s.cut name (recF f.data).2.1).1))
      else some (some ⟨name, (recF f.data).1.length, (recF f.data).2.1⟩, (recF f.data).1, 0, s) := by
  unfold m_wal_Open m_disk_Disk_Cut
  have hl := data_le hu hf
  rw [read_some hu hd hf, bndS]
  dsimp only
  rw [if_neg (by omega), if_neg (by simp), recs_eq _ (by omega), bndS, jn_eq]
  dsimp only
  by_cases he : (recF f.data).2.2 ≠ 0
  · rw [if_neg (by omega), if_pos he, if_pos (by omega)]
  · rw [if_neg he]
    by_cases hlt : (recF f.data).2.1 < f.data.length
    · rw [if_pos ⟨by omega, by omega⟩, if_pos hlt, if_pos hc, bndS]
    · rw [if_neg (fun hh => hlt (by omega)), if_neg hlt, if_neg (by omega)]
abbrev wN : List UInt8 := [119]
theorem one_find (k : List UInt8) (f : PF) : findF k [(k, f)] = some f := by simp [findF]
theorem one_put (k : List UInt8) (f g : PF) : putF k g [(k, f)] = [(k, g)] := by simp [putF]
theorem begin_clear {s : PD} (h1 : s.down = false) (h2 : s.cc = 0) (h3 : s.fc = 0) : s.begin = ({ s with calls := s.calls + 1 }, 0) := by
  unfold PD.begin; rw [if_neg (by rw [h1]; simp), if_neg (by rw [h2]; omega), if_neg (by rw [h3]; omega)]
theorem names_len (s : PD) (h : s.down = false) : s.names.length = s.files.length := by unfold PD.names; rw [if_neg (by rw [h]; simp), List.length_mergeSort, List.length_map]
theorem opens_law (x0 : List UInt8) (x1 : Bool) (x2 : List UInt8) {p0 p2 : Prop} (_ : p0) (_ : p2) : m_limnographlaw19_WalOpens x0 x1 x2 = some true := by
  unfold m_limnographlaw19_WalOpens
  rw [awake_eq, bndS, if_neg (by simp)]
  by_cases h : ((x0.length : Int) > 3000) ∨ ((x2.length : Int) > 100)
  · rw [if_pos h]
  rw [if_neg h, jn_eq]
  have h0 : x0.length ≤ 3000 := by omega
  have h2 : x2.length ≤ 100 := by omega
  cases x1 with
  | false =>
    rw [if_pos (show (!false) = true from rfl)]
    have hN : m_disk_New ([] : List T_api_File) 10000 = some (some (PD.fresh [] 10000)) := rfl
    dsimp only
    rw [hN, bndS, Option.isNone_some, if_neg (by simp), bndS, open_none (by show (0 : Nat) < _; omega) (by decide) rfl rfl]
    have hcr : (PD.fresh [] 10000).create x2 = if isNm x2 = false then (⟨[], 10000, false, 1, 0, 0, 0, 0⟩, 3) else (⟨[(x2, ⟨[], 0⟩)], 10000, false, 1, 0, 0, 0, 0⟩, 0) := by
      unfold PD.create
      rw [begin_clear rfl rfl rfl, if_neg (by simp)]
      rfl
    rw [hcr]
    cases hn : isNm x2 with
    | false =>
      simp only [if_true]
      rw [if_pos (by simp), bndS]
      dsimp only
      rw [if_pos (show (!false) = true from rfl), if_pos rfl, jn_eq, if_pos (show (none : Option Lg).isNone = true from rfl)]
      unfold m_disk_Disk_Names
      have hl0 : (PD.names ⟨[], 10000, false, 1, 0, 0, 0, 0⟩).length = 0 := by rw [names_len _ rfl]; rfl
      rw [if_pos (by simp), bndS]
      dsimp only
      rw [hl0]
      rfl
    | true =>
      rw [if_neg (show ¬ (true = false) by simp), if_neg (by simp), bndS]
      dsimp only
      have hm : m_disk_Disk_Names ⟨[(x2, ⟨[], 0⟩)], 10000, false, 1, 0, 0, 0, 0⟩ = some (PD.names ⟨[(x2, ⟨[], 0⟩)], 10000, false, 1, 0, 0, 0, 0⟩) := by
        unfold m_disk_Disk_Names
        rw [if_pos ⟨fun k hk => by simp at hk; rw [hk]; omega, by simp⟩]
      have hl : (PD.names ⟨[(x2, ⟨[], 0⟩)], 10000, false, 1, 0, 0, 0, 0⟩).length = 1 := by rw [names_len _ rfl]; rfl
      rw [if_pos (show (!false) = true from rfl), if_neg (by simp), jn_eq, if_pos rfl]
      simp only [jn_eq, bndS, hm, hl, m_wal_Log_Len, m_wal_Log_Size, m_wal_Log_Name]
      simp
  | true =>
    rw [if_neg (show ¬ ((!true) = true) by simp)]
    have hN : m_disk_New ([({ Name := ([119] : List UInt8), Data := x0 } : T_api_File)] : List T_api_File) 10000 = some (some (PD.fresh [(wN, ⟨x0, x0.length⟩)] 10000)) := by
      unfold m_disk_New newD
      rw [if_pos (by simp), if_neg (by simp), List.map_cons, List.map_nil, addAll_step (by
        have h1 : isNm wN = true := by decide
        simp only [not_or]
        exact ⟨by rw [h1]; simp, by simp [findF], by simp; omega⟩)]
      rfl
    have hu : (PD.fresh [(wN, ⟨x0, x0.length⟩)] 10000).used ≤ (PD.fresh [(wN, ⟨x0, x0.length⟩)] 10000).cap ∧ (PD.fresh [(wN, ⟨x0, x0.length⟩)] 10000).cap ≤ 4194304 := by
      show ([(wN, (⟨x0, x0.length⟩ : PF))].map fun p => p.2.data.length).sum ≤ 10000 ∧ 10000 ≤ 4194304
      simp; omega
    have hf : findF wN (PD.fresh [(wN, ⟨x0, x0.length⟩)] 10000).files = some ⟨x0, x0.length⟩ := one_find _ _
    dsimp only
    rw [hN, bndS, Option.isNone_some, if_neg (by simp), bndS, open_some (by show (0 : Nat) < _; omega) hu rfl hf]
    dsimp only
    obtain ⟨u1, u2⟩ := recF_le x0
    have hread : ∀ s : PD, s.used ≤ s.cap ∧ s.cap ≤ 4194304 → s.down = false → ∀ f, findF wN s.files = some f → m_disk_Disk_Read s wN = some (f.data, 0) := fun s hs hd f hf => read_some hs hd hf
    have hr0 := hread _ hu rfl _ hf
    rcases recF_err x0 with he | ⟨he, he1, he2⟩
    · rw [if_neg (by rw [he]; simp)]
      have fin : ∀ (s : PD), s.used ≤ s.cap ∧ s.cap ≤ 4194304 → s.down = false → ∀ f, findF wN s.files = some f → f.data = x0.take (recF x0).2.1 → ((m_limnographref19_Records x0).bind fun p75 =>
              (m_disk_Disk_Read s ([119] : List UInt8)).bind fun p81 =>
              if p75.E ≠ 0 then
              (jn (fun (y90 : Bool) =>
                  (some y90)) fun j8 =>
                if ((((some (⟨wN, (recF x0).1.length, (recF x0).2.1⟩ : Lg)).isNone) = true) ∧ (((recF x0).1.length : Int) = 0)) ∧ ((0 : Int) = 15) then
                (j8 (decide (p81.1 = x0)))
                else
                (j8 false))
              else
              (if (!((some (⟨wN, (recF x0).1.length, (recF x0).2.1⟩ : Lg)).isNone)) = true then
                (if (0 : Int) = 0 then
                  ((m_limnographref04_Same (recF x0).1 p75.L).bind fun p96 =>
                    if p96 = true then
                    ((some (⟨wN, (recF x0).1.length, (recF x0).2.1⟩ : Lg)).bind fun z100 =>
                      (m_wal_Log_Len z100 s).bind fun p99 =>
                      if p99 = (p75.L.length : Int) then
                      ((m_wal_Log_Size z100 s).bind fun p104 =>
                        if p104 = p75.Used then
                        ((cutL x0 0 p75.Used).bind fun z107 =>
                          some (decide (p81.1 = z107)))
                        else
                        (some false))
                      else
                      (some false))
                    else
                    (some false))
                  else
                  (some false))
                else
                (some false))) = some true := by
        intro s hs hd f hf hdt
        rw [rrecs_eq _ (by omega), bndS, hread s hs hd f hf, bndS]
        dsimp only
        rw [he, if_neg (by simp), Option.isNone_some, if_pos (show (!false) = true from rfl), if_pos rfl, same_refl _ (by omega), bndS, if_pos rfl, bndS]
        unfold m_wal_Log_Len m_wal_Log_Size
        rw [bndS, if_pos rfl, bndS, if_pos rfl, cut_some (by omega) (by omega) (by omega), bndS, hdt]
        simp
      by_cases hlt : (recF x0).2.1 < x0.length
      · rw [if_pos hlt]
        have hcut : (PD.fresh [(wN, ⟨x0, x0.length⟩)] 10000).cut wN (recF x0).2.1 = (⟨[(wN, ⟨x0.take (recF x0).2.1, min x0.length (recF x0).2.1⟩)], 10000, false, 1, 0, 0, 0, 0⟩, 0) := by
          unfold PD.cut
          rw [begin_clear rfl rfl rfl, if_neg (by simp), hf]
          dsimp only
          rw [if_neg (by omega), Int.toNat_natCast]
          show (_, _) = (_, _)
          congr 2
        rw [hcut, if_neg (by simp), bndS]
        dsimp only
        rw [if_neg (show ¬ ((!true) = true) by simp)]
        exact fin ⟨[(wN, ⟨x0.take (recF x0).2.1, min x0.length (recF x0).2.1⟩)], 10000, false, 1, 0, 0, 0, 0⟩ (by
          show ([(wN, (⟨x0.take (recF x0).2.1, min x0.length (recF x0).2.1⟩ : PF))].map fun p => p.2.data.length).sum ≤ 10000 ∧ 10000 ≤ 4194304
          simp; omega) rfl _ (one_find _ _) rfl
      · rw [if_neg hlt, bndS]
        dsimp only
        rw [if_neg (show ¬ ((!true) = true) by simp)]
        exact fin _ hu rfl _ hf (by rw [List.take_of_length_le (by omega)])
    · rw [if_pos (by rw [he]; simp), bndS]
      dsimp only
      rw [if_neg (show ¬ ((!true) = true) by simp), rrecs_eq _ (by omega), bndS, hr0, bndS]
      dsimp only
      rw [he, if_pos (by simp), jn_eq]
      simp
end Go.Proofs.Ytopknmmckcijkaa
