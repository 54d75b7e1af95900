/-
  Chapter 19: the law WalKeeps, put together; plain Lean.
-/
import Derived.Test.YtopknmmckcijkaaG4
set_option linter.unusedVariables false
set_option linter.unusedSimpArgs false
namespace Go.Proofs.Ytopknmmckcijkaa
open Go Go.RowKit Go.Wk
abbrev more : List UInt8 := [109, 111, 114, 101]
/-- What is told of a log that is opened again, behind all that could fail. -/
theorem keeps_tail {s : PD} {c cap : Nat} {ins : List (List UInt8)} {sure : Int} {lg : Lg} (x3 : List Int) (x4 : Int) (hx4 : (cap : Int) = x4) (hk3 : x3.length ≤ 9223372036854775807) (h : Wi c cap ins sure s lg) (hc : c ≤ 100000) (hd : s.down = true) :
    ((m_disk_Disk_Boot s x3).bind fun p55 =>
                        if p55.1 ≠ 0 then
                        (some false)
                        else
                        ((m_wal_Open p55.2 ([119] : List UInt8)).bind fun p62 =>
                          jn (fun (y76 : Bool) =>
                            (jn (fun (y80 : Bool) =>
                                (if y80 = true then
                                  (some false)
                                  else
                                  ((m_disk_Disk_Size p62.2.2.2 ([119] : List UInt8)).bind fun p83 =>
                                    (p62.1).bind fun z86 =>
                                    (m_wal_Log_Size z86 p62.2.2.2).bind fun p85 =>
                                    jn (fun (y90 : Bool) (y91 : T_wal_Log) (y92 : PD) =>
                                      (if y90 = true then
                                        (some false)
                                        else
                                        ((m_wal_Open y92 ([119] : List UInt8)).bind fun p95 =>
                                          jn (fun (y106 : Bool) =>
                                            (jn (fun (y111 : Bool) =>
                                                (some y111)) fun j8 =>
                                              if y106 = true then
                                              ((cutL p95.2.1 0 (p62.2.1.length : Int)).bind fun z114 =>
                                                (m_limnographref04_Same z114 p62.2.1).bind fun p118 =>
                                                j8 p118)
                                              else
                                              (j8 false))) fun j7 =>
                                          if ((!((p95.1).isNone)) = true) ∧ (p95.2.2.1 = 0) then
                                          ((p95.1).bind fun z122 =>
                                            (m_wal_Log_Len z122 p95.2.2.2).bind fun p121 =>
                                            (m_wal_Log_Len y91 p95.2.2.2).bind fun p125 =>
                                            j7 (decide (p121 = p125)))
                                          else
                                          (j7 false)))) fun j6 =>
                                    if p83.1 ≠ p85 then
                                    (j6 true z86 p62.2.2.2)
                                    else
                                    ((m_wal_Log_Append z86 ([(109 : UInt8), (111 : UInt8), (114 : UInt8), (101 : UInt8)] : List UInt8) p62.2.2.2).bind fun p133 =>
                                      jn (fun (y143 : Bool) =>
                                        (j6 y143 p133.2.1 p133.2.2)) fun j9 =>
                                      if p133.1 ≠ 0 then
                                      (j9 (decide (W64 (p83.1 + 13) ≤ x4)))
                                      else
                                      (j9 false))))) fun j5 =>
                              if y76 = true then
                              (j5 true)
                              else
                              ((p62.1).bind fun z148 =>
                                (m_wal_Log_Len z148 p62.2.2.2).bind fun p147 =>
                                j5 (decide (p147 ≠ (p62.2.1.length : Int)))))) fun j4 =>
                          if (((((p62.1).isNone) = true) ∨ (p62.2.2.1 ≠ 0)) ∨ ((p62.2.1.length : Int) < sure)) ∨ ((p62.2.1.length : Int) > (ins.length : Int)) then
                          (j4 true)
                          else
                          ((cutL ins 0 (p62.2.1.length : Int)).bind fun z152 =>
                            (m_limnographref04_Same p62.2.1 z152).bind fun p156 =>
                            j4 (!p156)))) = some true := by
  have hus := h.used; have hcl := h.capL; have hcE := h.capE; have hfew := h.few; have hs0 := h.s0; have hsl := h.sle; have hnum := h.num
  -- the boot
  have hS : (Wl (ins.take sure.toNat)).length ≤ (Wl ins).length := take_pre_len ins _
  have hKle : keepN ⟨Wl ins, (Wl (ins.take sure.toNat)).length⟩ x3[0]? ≤ (Wl ins).length := keepN_le (f := ⟨Wl ins, (Wl (ins.take sure.toNat)).length⟩) hS _
  have hKge : (Wl (ins.take sure.toNat)).length ≤ keepN ⟨Wl ins, (Wl (ins.take sure.toNat)).length⟩ x3[0]? := by unfold keepN; dsimp only; omega
  generalize hKdef : keepN ⟨Wl ins, (Wl (ins.take sure.toNat)).length⟩ x3[0]? = K at hKle hKge
  have hnm : s.up.names = [wN] := by
    unfold PD.names
    rw [if_neg (by simp [PD.up])]
    show (s.files.map (·.1)).mergeSort leN = _
    rw [h.files]; simp
  have hbt : s.boot x3 = ({ s.up with files := [(wN, ⟨(Wl ins).take K, K⟩)] }, 0) := by
    unfold PD.boot
    rw [if_pos hd, hnm, h.files, bootF, one_find]
    dsimp only
    rw [bootF, one_put, hKdef]
  have hBm : m_disk_Disk_Boot s x3 = some ((s.boot x3).2, (s.boot x3).1) := by
    unfold m_disk_Disk_Boot
    rw [if_pos ⟨⟨fun k hk => by rw [h.files] at hk; simp at hk; rw [hk]; decide, by rw [h.files]; simp⟩, fun p hp => by rw [h.files] at hp; simp at hp; rw [hp]; exact hS, hk3⟩]
  rw [hBm, bndS, hbt]
  dsimp only
  rw [if_neg (by simp)]
  obtain ⟨m, s5, m1, m2, m3, m4⟩ := open_w (s := { s.up with files := [(wN, ⟨(Wl ins).take K, K⟩)] }) (c := c) (cap := cap) (K := K) (ins := ins) (by omega) hfew rfl rfl rfl hcE hcl h.small hKle hus rfl
  rw [m3, bndS]
  have hml : (ins.take m).length = m := by rw [List.length_take]; omega
  have hsm : sure.toNat ≤ m := m2 sure.toNat (by omega) hKge
  have hGs : ∀ r ∈ ins.take m, r.length ≤ 65536 := fun r hr => h.small r (List.mem_of_mem_take hr)
  dsimp only
  rw [jn_eq, hml, Option.isNone_some, if_neg (by
    intro hh
    rcases hh with ((hh | hh) | hh) | hh
    · simp at hh
    · exact hh rfl
    · omega
    · omega), cut_some (by omega) (by omega) (by omega), bndS]
  have hct : (ins.take (m : Int).toNat).drop (0 : Int).toNat = ins.take m := by rw [Int.toNat_natCast]; rfl
  rw [hct, same_refl _ (by omega), bndS]
  dsimp only
  rw [jn_eq, if_neg (by simp), bndS]
  unfold m_wal_Log_Len
  rw [bndS]
  dsimp only
  rw [decide_eq_false (by simp), if_neg (by simp)]
  obtain ⟨n5, hn5⟩ := m4.files
  have hu5 := m4.used; have hc5 := m4.capL; have hE5 := m4.capE; have hf5 := m4.few
  have hSz : m_disk_Disk_Size s5 wN = some (((Wl (ins.take m)).length : Int), ((n5 : Nat) : Int), 0) := by
    unfold m_disk_Disk_Size
    rw [if_neg (by rw [m4.down]; simp), hn5, one_find]
  rw [hSz, bndS, bndS]
  unfold m_wal_Log_Size
  rw [bndS, jn_eq]
  dsimp only
  rw [if_neg (by simp)]
  -- one more record
  have hmoreL : more.length ≤ 65536 := by decide
  have hw : (wrapL more).length = 13 := by rw [wrapL_length]; rfl
  have hA : m_wal_Log_Append ⟨wN, (m : Nat), ((Wl (ins.take m)).length : Nat)⟩ more s5 = some (if (s5.append wN (wrapL more)).2 = 0 then (0, ⟨wN, (m : Int) + 1, ((Wl (ins.take m)).length : Int) + 13⟩, (s5.append wN (wrapL more)).1) else ((s5.append wN (wrapL more)).2, ⟨wN, (m : Nat), ((Wl (ins.take m)).length : Nat)⟩, (s5.append wN (wrapL more)).1)) := by
    unfold m_wal_Log_Append
    rw [fwrap_eq more hmoreL, bndS, jn_eq]
    dsimp only
    have hAm : m_disk_Disk_Append s5 wN (wrapL more) = some ((s5.append wN (wrapL more)).2, (s5.append wN (wrapL more)).1) := by
      unfold m_disk_Disk_Append
      rw [if_pos ⟨by omega, ⟨by unfold PD.used; rw [hn5, one_used]; exact hu5, hc5⟩, by omega⟩]
    rw [if_pos rfl, hAm, bndS, jn_eq]
    dsimp only
    by_cases hz : (s5.append wN (wrapL more)).2 = 0
    · rw [if_pos hz, if_pos hz, hw, W64_id (by omega) (by omega), W64_id (by omega) (by omega), hz]; rfl
    · rw [if_neg hz, if_neg hz]
  rw [hA, bndS, jn_eq]
  have hGm : (ins.take m ++ [more]).length = m + 1 := by rw [List.length_append, hml]; rfl
  rcases m4.append more hmoreL with ⟨a1, a2⟩ | ⟨a1, a2, a3⟩
  · rw [if_pos a1]
    dsimp only
    rw [if_neg (by simp), if_neg (by simp)]
    obtain ⟨s6, hs6⟩ := a2.openC (by omega) (fun r hr => by
      rcases List.mem_append.1 hr with hr | hr
      · exact hGs r hr
      · simp at hr; rw [hr]; decide)
    rw [hs6, bndS, jn_eq]
    dsimp only
    rw [Option.isNone_some, if_pos ⟨rfl, rfl⟩, bndS, bndS, bndS]
    dsimp only
    rw [hGm, decide_eq_true (by omega), jn_eq, if_pos rfl, cut_some (by omega) (by omega) (by rw [hGm]; omega), bndS]
    have hct2 : ((ins.take m ++ [more]).take (m : Int).toNat).drop (0 : Int).toNat = ins.take m := by
      rw [Int.toNat_natCast, List.take_append_of_le_length (by omega), List.take_of_length_le (by omega)]; rfl
    rw [hct2, same_refl _ (by omega), bndS]
  · have a1' : ¬ (s5.append wN (wrapL more)).2 = 0 := by rw [a1]; omega
    rw [if_neg a1']
    dsimp only
    rw [a1, if_pos (by simp), W64_id (by omega) (by omega), decide_eq_false (by omega)]
    rw [if_neg (by simp)]
    obtain ⟨s6, hs6⟩ := a3.openC (by omega) hGs
    rw [hs6, bndS, jn_eq]
    dsimp only
    rw [Option.isNone_some, if_pos ⟨rfl, rfl⟩, bndS, bndS, bndS]
    dsimp only
    rw [hml, decide_eq_true rfl, jn_eq, if_pos rfl, cut_some (by omega) (by omega) (by omega), bndS]
    have hct2 : ((ins.take m).take (m : Int).toNat).drop (0 : Int).toNat = ins.take m := by
      rw [Int.toNat_natCast, List.take_of_length_le (by omega)]; rfl
    rw [hct2, same_refl _ (by omega), bndS]
theorem crash_wi {c cap : Nat} {ins : List (List UInt8)} {sure : Int} {s : PD} {lg : Lg} (h : Wi c cap ins sure s lg) (n : Int) : Wi c cap ins sure (s.crash n) lg := ⟨h.files, h.s0, h.sle, h.used, h.capE, h.capL, h.fc, h.lgE, h.few, h.small, h.num⟩
theorem keeps_law (x0 : List (List UInt8)) (x1 : List Int) (x2 : Int) (x3 : List Int) (x4 : Int) {p0 p1 : Prop} (_ : p0) (_ : p1) (k2 : (Lit.int .i64 x2).wf = true) (k3 : x3.length ≤ maxLen ∧ ∀ y ∈ x3, (Lit.int .i64 y).wf = true) (k4 : (Lit.int .i64 x4).wf = true) :
    m_limnographlaw19_WalKeeps x0 x1 x2 x3 x4 = some true := by
  unfold m_limnographlaw19_WalKeeps
  rw [awake_eq, bndS, if_neg (by simp), jn_eq]
  by_cases hb : (((x0.length : Int) > 40) ∨ ((x1.length : Int) > 100)) ∨ ((x3.length : Int) > 10)
  · rw [if_pos hb]; rfl
  rw [if_neg hb]
  obtain ⟨n, hn, hsm⟩ := bulk8_some x0
  rw [hn, bndS]
  by_cases hn8 : n > 8000
  · rw [decide_eq_true hn8]; rfl
  rw [decide_eq_false hn8]
  dsimp only
  rw [if_neg (by simp)]
  have hsm' := hsm (by omega)
  have h40 : x0.length ≤ 40 := by omega
  have h100 : x1.length ≤ 100 := by omega
  unfold m_disk_New newD
  rw [if_pos (by simp), bndS]
  by_cases hcap : x4 < 1 ∨ x4 > 4194304 ∨ (([] : List T_api_File).map fun f : T_api_File => (f.Name, f.Data)).length > 4096
  · rw [if_pos hcap]; rfl
  rw [if_neg hcap]
  have hcp : 1 ≤ x4 ∧ x4 ≤ 4194304 := by omega
  have hadd : (addAll x4.toNat (([] : List T_api_File).map fun f : T_api_File => (f.Name, f.Data)) [] 0).map (fun l => PD.fresh l x4.toNat) = some (PD.fresh [] x4.toNat) := rfl
  rw [hadd, Option.isNone_some, if_neg (by simp), bndS]
  have hus0 : (PD.fresh [] x4.toNat).used ≤ (PD.fresh [] x4.toNat).cap ∧ (PD.fresh [] x4.toNat).cap ≤ 4194304 := ⟨Nat.zero_le _, by show x4.toNat ≤ _; omega⟩
  have hcr : (PD.fresh [] x4.toNat).create wN = (⟨[(wN, ⟨[], 0⟩)], x4.toNat, false, 1, 0, 0, 0, 0⟩, 0) := rfl
  rw [open_none (by show (0 : Nat) < _; omega) hus0 rfl rfl, hcr, if_neg (by simp), bndS]
  dsimp only
  rw [Option.isNone_some, if_neg (by simp)]
  have h1 : Wi 1 x4.toNat [] 0 ⟨[(wN, ⟨[], 0⟩)], x4.toNat, false, 1, 0, 0, 0, 0⟩ ⟨wN, 0, 0⟩ := ⟨rfl, Int.le_refl _, by simp, Nat.zero_le _, rfl, by show x4.toNat ≤ _; omega, rfl, rfl, Nat.le_refl _, by simp, by simp⟩
  have hC : m_disk_Disk_Crash ⟨[(wN, ⟨[], 0⟩)], x4.toNat, false, 1, 0, 0, 0, 0⟩ x2 = some (PD.crash ⟨[(wN, ⟨[], 0⟩)], x4.toNat, false, 1, 0, 0, 0, 0⟩ x2) := by unfold m_disk_Disk_Crash; rw [if_pos (by show (1 : Nat) < 4611686018427387904; omega)]
  rw [hC, bndS, jn_eq, m_limnographlaw19_WalKeeps_L1_scan _ _ _ _ _ _ _ (by omega)]
  refine scanL_post (fun p st => ∃ c lg, c ≤ 200 * p.length + 1 ∧ st.2.2.2 = some lg ∧ st.1.length ≤ p.length ∧ Wi c x4.toNat st.1 st.2.1 st.2.2.1 lg) (fun _ _ r => r = some true) ⟨1, ⟨wN, 0, 0⟩, by simp, rfl, by simp, crash_wi h1 x2⟩ ?_ ?_
  · rintro ⟨ins, sure, s, ol⟩ ⟨c, lg, g1, g2, _, g3⟩
    dsimp only at g2 g3 ⊢
    subst g2
    have hfew := g3.few
    rw [bndS]
    unfold m_wal_Log_Len
    rw [bndS, g3.lgE]
    dsimp only
    rw [if_neg (by simp)]
    unfold m_disk_Disk_Down
    rw [bndS, jn_eq]
    have hx4 : (x4.toNat : Int) = x4 := by omega
    cases hd : s.down with
    | true =>
      rw [if_neg (show ¬ ((!true) = true) by simp)]
      exact keeps_tail x3 x4 hx4 k3.1 g3 (by omega) hd
    | false =>
      rw [if_pos (show (!false) = true from rfl)]
      have hC2 : m_disk_Disk_Crash s 0 = some (s.crash 0) := by unfold m_disk_Disk_Crash; rw [if_pos (by omega)]
      rw [hC2, bndS, ← g3.lgE]
      obtain ⟨e, s', q1, q2, q3⟩ := (crash_wi g3 0).lsync (by omega)
      rw [q1, bndS]
      have hdn : s'.down = true := by rw [q3]; exact (crash_down s wN).1
      rcases q2 with ⟨q2, q4⟩ | ⟨q2, q4⟩
      · -- what was synced goes down with the call
        exfalso
        have hb2 : ((s.crash 0).sync wN).2 = 13 := by
          have hc : (s.crash 0).cc = s.calls + 1 := by
            unfold PD.crash armP
            rw [if_neg (by omega)]; dsimp only; omega
          have hbb : (s.crash 0).begin = ({ s.crash 0 with calls := s.calls + 1, down := true }, 13) := by
            unfold PD.begin
            rw [if_neg (by show ¬ s.down = true; rw [hd]; simp), if_pos (by rw [hc]; rfl)]; rfl
          unfold PD.sync; rw [hbb, if_pos (by simp)]
        unfold m_wal_Log_Sync m_disk_Disk_Sync at q1
        have hl : lg.name = wN := by rw [g3.lgE]
        rw [hl, if_pos (by show s.calls < _; omega), bndS, hb2] at q1
        simp at q1
        omega
      · exact keeps_tail x3 x4 hx4 k3.1 q4 (by omega) hdn
  · rintro p x q ⟨ins, sure, s, ol⟩ k hp ⟨c, lg, g1, g2, g5, g3⟩ hk
    dsimp only at g2 g3 g5 ⊢
    subst g2
    have hpl : p.length < x0.length := by rw [← hp]; simp
    have hx : x ∈ x0 := by rw [← hp]; simp
    have hxl := hsm' x hx
    rw [bndS]
    unfold m_wal_Log_Size
    rw [bndS, bndS]
    obtain ⟨e, lg', s', q1, q2, _, _⟩ := g3.lappend (by omega) (by omega) x (by omega)
    rw [q1, bndS, jn_eq]
    dsimp only
    -- the syncs behind it
    have syncs : ∀ (ins' : List (List UInt8)) (p194 : Int × T_wal_Log × PD), ins'.length ≤ p.length + 1 → Wi (c + 1) x4.toNat ins' sure p194.2.2 p194.2.1 →
        m_limnographlaw19_WalKeeps_L2 x1 (p.length : Int) p194 ins' (fun (y208 : Int) (y209 : PD) => k (ins', y208, y209, (some p194.2.1))) fuel sure 0 p194.2.2 = some true := by
      intro ins' p194 hil hw
      rw [m_limnographlaw19_WalKeeps_L2_scan _ _ _ _ _ _ _ (by omega)]
      refine scanL_post (fun p' st => ∃ c', c' ≤ c + 1 + p'.length ∧ Wi c' x4.toNat ins' st.1 st.2 p194.2.1) (fun _ _ r => r = some true) ⟨c + 1, by simp, hw⟩ ?_ ?_
      · rintro ⟨su, s2⟩ ⟨c', w1, w2⟩
        exact hk _ ⟨c', p194.2.1, by rw [List.length_append, List.length_singleton]; omega, rfl, by rw [List.length_append, List.length_singleton]; exact hil, w2⟩
      · rintro p' y q' ⟨su, s2⟩ k' hp' ⟨c', w1, w2⟩ hk'
        have hpl' : p'.length < x1.length := by rw [← hp']; simp
        dsimp only at w2 ⊢
        rw [jn_eq, bndS, jn_eq]
        by_cases hy : y = (p.length : Int)
        · rw [if_pos hy]
          obtain ⟨e2, s3, v1, v2, _⟩ := w2.lsync (by omega)
          rw [v1, bndS]
          dsimp only
          rcases v2 with ⟨v2, v3⟩ | ⟨v2, v3⟩
          · rw [decide_eq_true v2, if_pos rfl]
            exact hk' _ ⟨c' + 1, by rw [List.length_append, List.length_singleton]; omega, v3⟩
          · rw [decide_eq_false (by omega), if_neg (by simp)]
            exact hk' _ ⟨c' + 1, by rw [List.length_append, List.length_singleton]; omega, v3⟩
        · rw [if_neg hy]
          dsimp only
          rw [if_neg (by simp)]
          exact hk' _ ⟨c', by rw [List.length_append, List.length_singleton]; omega, w2⟩
    rcases q2 with ⟨q2, q4, q5⟩ | ⟨q2, q4, q5⟩
    · rw [if_pos q2, bndS, app_some (by simp; omega), bndS, jn_eq]
      exact syncs _ (e, lg', s') (by rw [List.length_append, List.length_singleton]; omega) q4
    · rw [if_neg (by omega), bndS, if_neg (by
        rw [q5]
        intro hh
        rcases hh with hh | hh
        · exact hh rfl
        · omega), jn_eq]
      exact syncs ins (e, lg', s') (by omega) q4
end Go.Proofs.Ytopknmmckcijkaa
