/-
  Loops over lists by their indices, told as scans. Printed by a program.
-/
import Derived.Test.YtknenggmdnpimaaMA
import Derived.Test.YtknenggmdnpimaaWp
set_option linter.unusedVariables false
set_option linter.unusedSimpArgs false
namespace Go.Proofs.Ytknenggmdnpimaa
open Go Go.RowKit Go.Wk
set_option maxRecDepth 20000 in
theorem m_limnographref18_Name_L1_scan (x0 : (List UInt8)) (j1 : Unit → Option Bool) (hE : x0.length < 4611686018427387904) :
    m_limnographref18_Name_L1 x0 j1 fuel 0 = scanL x0 ()
    (fun ii xx ss kk =>
    (some xx).bind fun z8 =>
    if (((¬ ((((z8).toNat : Int) ≥ 97) ∧ (((z8).toNat : Int) ≤ 122))) ∧ (¬ ((((z8).toNat : Int) ≥ 48) ∧ (((z8).toNat : Int) ≤ 57)))) ∧ (((z8).toNat : Int) ≠ 46)) ∧ (((z8).toNat : Int) ≠ 45) then
    (some false)
    else
    (kk ()))
    (fun ss =>
    j1 ()) := by
  have hh := fun B J h => scan_eq x0 hE (fun nn (ss : Unit) (yy : Int) => m_limnographref18_Name_L1 x0 j1 nn yy) B J h ()
  have h0 : (fun nn (ss : Unit) (yy : Int) => m_limnographref18_Name_L1 x0 j1 nn yy) fuel () 0 = m_limnographref18_Name_L1 x0 j1 fuel 0 := by dsimp only
  unfold scanL
  refine h0.symm.trans (hh _ _ ?_)
  intro nn ss ii hi
  show m_limnographref18_Name_L1 x0 j1 (nn + 1) ii = _
  rw [m_limnographref18_Name_L1]
  by_cases h : ii < x0.length
  · rw [if_pos (by omega), dif_pos h]
    simp only [idx_at h, W64_up (show ii + 1 ≤ 9223372036854775807 by omega)]
  · rw [if_neg (by omega), dif_neg h]
set_option maxRecDepth 20000 in
theorem m_limnographref18_Disk_Find_L1_scan (x0 : T_limnographref18_Disk) (x1 : (List UInt8)) (j1 : Unit → Option Int) (hE : x0.L.length < 4611686018427387904) :
    m_limnographref18_Disk_Find_L1 x0 x1 j1 fuel 0 = scanL x0.L ()
    (fun ii xx ss kk =>
    (some xx).bind fun z12 =>
    if z12.Name = x1 then
    (some (ii : Int))
    else
    (kk ()))
    (fun ss =>
    j1 ()) := by
  have hh := fun B J h => scan_eq x0.L hE (fun nn (ss : Unit) (yy : Int) => m_limnographref18_Disk_Find_L1 x0 x1 j1 nn yy) B J h ()
  have h0 : (fun nn (ss : Unit) (yy : Int) => m_limnographref18_Disk_Find_L1 x0 x1 j1 nn yy) fuel () 0 = m_limnographref18_Disk_Find_L1 x0 x1 j1 fuel 0 := by dsimp only
  unfold scanL
  refine h0.symm.trans (hh _ _ ?_)
  intro nn ss ii hi
  show m_limnographref18_Disk_Find_L1 x0 x1 j1 (nn + 1) ii = _
  rw [m_limnographref18_Disk_Find_L1]
  by_cases h : ii < x0.L.length
  · rw [if_pos (by omega), dif_pos h]
    simp only [idx_at h, W64_up (show ii + 1 ≤ 9223372036854775807 by omega)]
  · rw [if_neg (by omega), dif_neg h]
set_option maxRecDepth 20000 in
theorem m_limnographref18_Disk_Used_L1_scan (x0 : T_limnographref18_Disk) (j1 : Int → Option Int) (y5 : Int) (hE : x0.L.length < 4611686018427387904) :
    m_limnographref18_Disk_Used_L1 x0 j1 fuel y5 0 = scanL x0.L y5
    (fun ii xx ss kk =>
    (some xx).bind fun z14 =>
    kk (W64 (ss + (z14.Data.length : Int))))
    (fun ss =>
    j1 ss) := by
  have hh := fun B J h => scan_eq x0.L hE (fun nn (ss : (Int)) (yy : Int) => m_limnographref18_Disk_Used_L1 x0 j1 nn ss yy) B J h y5
  have h0 : (fun nn (ss : (Int)) (yy : Int) => m_limnographref18_Disk_Used_L1 x0 j1 nn ss yy) fuel y5 0 = m_limnographref18_Disk_Used_L1 x0 j1 fuel y5 0 := by dsimp only
  unfold scanL
  refine h0.symm.trans (hh _ _ ?_)
  intro nn ss ii hi
  show m_limnographref18_Disk_Used_L1 x0 j1 (nn + 1) ss ii = _
  rw [m_limnographref18_Disk_Used_L1]
  by_cases h : ii < x0.L.length
  · rw [if_pos (by omega), dif_pos h]
    simp only [idx_at h, W64_up (show ii + 1 ≤ 9223372036854775807 by omega)]
  · rw [if_neg (by omega), dif_neg h]
set_option maxRecDepth 20000 in
theorem m_limnographref18_Disk_without_L1_scan (x0 : T_limnographref18_Disk) (x1 : (List UInt8)) (j1 : (List T_limnographref18_File) → Option (List T_limnographref18_File)) (y8 : (List T_limnographref18_File)) (hE : x0.L.length < 4611686018427387904) :
    m_limnographref18_Disk_without_L1 x0 x1 j1 fuel y8 0 = scanL x0.L y8
    (fun ii xx ss kk =>
    jn (fun (y21 : (List T_limnographref18_File)) =>
      (kk y21)) fun j2 =>
    (some xx).bind fun z27 =>
    if z27.Name ≠ x1 then
    ((some xx).bind fun z32 =>
      (appL ss [z32]).bind fun z36 =>
      j2 z36)
    else
    (j2 ss))
    (fun ss =>
    j1 ss) := by
  have hh := fun B J h => scan_eq x0.L hE (fun nn (ss : ((List T_limnographref18_File))) (yy : Int) => m_limnographref18_Disk_without_L1 x0 x1 j1 nn ss yy) B J h y8
  have h0 : (fun nn (ss : ((List T_limnographref18_File))) (yy : Int) => m_limnographref18_Disk_without_L1 x0 x1 j1 nn ss yy) fuel y8 0 = m_limnographref18_Disk_without_L1 x0 x1 j1 fuel y8 0 := by dsimp only
  unfold scanL
  refine h0.symm.trans (hh _ _ ?_)
  intro nn ss ii hi
  show m_limnographref18_Disk_without_L1 x0 x1 j1 (nn + 1) ss ii = _
  rw [m_limnographref18_Disk_without_L1]
  by_cases h : ii < x0.L.length
  · rw [if_pos (by omega), dif_pos h]
    simp only [idx_at h, W64_up (show ii + 1 ≤ 9223372036854775807 by omega)]
  · rw [if_neg (by omega), dif_neg h]
set_option maxRecDepth 20000 in
theorem m_limnographref18_New_L1_scan (x0 : (List T_api_File)) (x1 : Int) (j1 : T_limnographref18_Disk → Option (Option T_limnographref18_Disk)) (y23 : T_limnographref18_Disk) (hE : x0.length < 4611686018427387904) :
    m_limnographref18_New_L1 x0 x1 j1 fuel 0 y23 = scanL x0 y23
    (fun ii xx ss kk =>
    (some xx).bind fun z26 =>
    jn (fun (y35 : Bool) =>
      (if y35 = true then
        (some (none : Option T_limnographref18_Disk))
        else
        ((m_limnographref18_Disk_put ss ({ Name := z26.Name, Data := z26.Data, Sure := (z26.Data.length : Int) } : T_limnographref18_File)).bind fun p41 =>
          kk p41))) fun j2 =>
    (m_limnographref18_Name z26.Name).bind fun p48 =>
    if (!p48) = true then
    (j2 true)
    else
    ((m_limnographref18_Disk_Find ss z26.Name).bind fun p51 =>
      if p51 ≥ 0 then
      (j2 true)
      else
      ((m_limnographref18_Disk_Used ss).bind fun p54 =>
        j2 (decide ((z26.Data.length : Int) > W64 (x1 - p54))))))
    (fun ss =>
    j1 ss) := by
  have hh := fun B J h => scan_eq x0 hE (fun nn (ss : (T_limnographref18_Disk)) (yy : Int) => m_limnographref18_New_L1 x0 x1 j1 nn yy ss) B J h y23
  have h0 : (fun nn (ss : (T_limnographref18_Disk)) (yy : Int) => m_limnographref18_New_L1 x0 x1 j1 nn yy ss) fuel y23 0 = m_limnographref18_New_L1 x0 x1 j1 fuel 0 y23 := by dsimp only
  unfold scanL
  refine h0.symm.trans (hh _ _ ?_)
  intro nn ss ii hi
  show m_limnographref18_New_L1 x0 x1 j1 (nn + 1) ii ss = _
  rw [m_limnographref18_New_L1]
  by_cases h : ii < x0.length
  · rw [if_pos (by omega), dif_pos h]
    simp only [idx_at h, W64_up (show ii + 1 ≤ 9223372036854775807 by omega)]
  · rw [if_neg (by omega), dif_neg h]
set_option maxRecDepth 20000 in
theorem m_limnographref03_More_L1_scan (x1 : (List UInt8)) (j1 : UInt32 → Option UInt32) (y5 : UInt32) (hE : x1.length < 4611686018427387904) :
    m_limnographref03_More_L1 x1 j1 fuel y5 0 = scanL x1 y5
    (fun ii xx ss kk =>
    (some xx).bind fun z9 =>
    jn (fun (y11 : UInt32) =>
      (kk y11)) fun j2 =>
    m_limnographref03_More_L2 j2 fuel (ss ^^^ (toU32 ((z9).toNat : Int))) 0)
    (fun ss =>
    j1 ss) := by
  have hh := fun B J h => scan_eq x1 hE (fun nn (ss : (UInt32)) (yy : Int) => m_limnographref03_More_L1 x1 j1 nn ss yy) B J h y5
  have h0 : (fun nn (ss : (UInt32)) (yy : Int) => m_limnographref03_More_L1 x1 j1 nn ss yy) fuel y5 0 = m_limnographref03_More_L1 x1 j1 fuel y5 0 := by dsimp only
  unfold scanL
  refine h0.symm.trans (hh _ _ ?_)
  intro nn ss ii hi
  show m_limnographref03_More_L1 x1 j1 (nn + 1) ss ii = _
  rw [m_limnographref03_More_L1]
  by_cases h : ii < x1.length
  · rw [if_pos (by omega), dif_pos h]
    simp only [idx_at h, W64_up (show ii + 1 ≤ 9223372036854775807 by omega)]
  · rw [if_neg (by omega), dif_neg h]
set_option maxRecDepth 20000 in
theorem m_limnographlaw20_same_L1_scan (x0 : PD) (x1 : T_limnographref18_Disk) (p14 : (List (List UInt8))) (j2 : Unit → Option Bool) (hE : p14.length < 4611686018427387904) :
    m_limnographlaw20_same_L1 x0 x1 p14 j2 fuel 0 = scanL p14 ()
    (fun ii xx ss kk =>
    (some xx).bind fun z22 =>
    (m_disk_Disk_Read x0 z22).bind fun p23 =>
    jn (fun (y26 : Bool) =>
      (if y26 = true then
        (some false)
        else
        (kk ()))) fun j3 =>
    (some xx).bind fun z30 =>
    (idx x1.L (ii : Int)).bind fun z31 =>
    if z30 ≠ z31.Name then
    (j3 true)
    else
    ((idx x1.L (ii : Int)).bind fun z37 =>
      j3 (decide (p23.1 ≠ z37.Data))))
    (fun ss =>
    j2 ()) := by
  have hh := fun B J h => scan_eq p14 hE (fun nn (ss : Unit) (yy : Int) => m_limnographlaw20_same_L1 x0 x1 p14 j2 nn yy) B J h ()
  have h0 : (fun nn (ss : Unit) (yy : Int) => m_limnographlaw20_same_L1 x0 x1 p14 j2 nn yy) fuel () 0 = m_limnographlaw20_same_L1 x0 x1 p14 j2 fuel 0 := by dsimp only
  unfold scanL
  refine h0.symm.trans (hh _ _ ?_)
  intro nn ss ii hi
  show m_limnographlaw20_same_L1 x0 x1 p14 j2 (nn + 1) ii = _
  rw [m_limnographlaw20_same_L1]
  by_cases h : ii < p14.length
  · rw [if_pos (by omega), dif_pos h]
    simp only [idx_at h, W64_up (show ii + 1 ≤ 9223372036854775807 by omega)]
  · rw [if_neg (by omega), dif_neg h]
set_option maxRecDepth 20000 in
theorem m_limnographlaw20_SnapPlays_L1_scan (x2 : (List T_limnographlaw20_Act)) (j3 : Unit → Option Bool) (y29 : (Option PD)) (y30 : (Option T_limnographref18_Disk)) (hE : x2.length < 4611686018427387904) :
    m_limnographlaw20_SnapPlays_L1 x2 j3 fuel 0 y29 y30 = scanL x2 (y29, y30)
    (fun ii xx ss kk =>
    (some xx).bind fun z33 =>
    if (((z33.B.length : Int) > 500) ∨ ((z33.Name.length : Int) > 100)) ∨ ((z33.Keep.length : Int) > 20) then
    (some true)
    else
    (jn (fun (y46 : (Option PD)) (y47 : (Option T_limnographref18_Disk)) =>
        ((y46).bind fun z50 =>
          (y47).bind fun z52 =>
          (m_limnographlaw20_same z50 z52).bind fun p49 =>
          if (!p49) = true then
          (some false)
          else
          (kk ((some z50), (some z52))))) fun j4 =>
      if z33.Kind = 0 then
      (jn (fun (y61 : Bool) (y62 : (Option PD)) (y63 : (Option T_limnographref18_Disk)) =>
          (if y61 = true then
            (some false)
            else
            (j4 y62 y63))) fun j5 =>
        (lenS z33.B).bind fun z77 =>
        (ss.1).bind fun z80 =>
        (m_snap_Save z80 z33.Name z77).bind fun p79 =>
        (lenS z33.B).bind fun z87 =>
        (ss.2).bind fun z90 =>
        (m_limnographref20_Save z90 z33.Name z87).bind fun p89 =>
        j5 (decide (p79.1 ≠ p89.1)) (some p79.2) (some p89.2))
      else
      (if z33.Kind = 1 then
        ((ss.1).bind fun z177 =>
          (m_snap_Load z177 z33.Name).bind fun p176 =>
          (ss.2).bind fun z184 =>
          (m_limnographref20_Load z184 z33.Name).bind fun p183 =>
          if ((p176.1 ≠ p183.1.B) ∨ (p176.2.1 ≠ p183.1.Is)) ∨ (p176.2.2.1 ≠ p183.1.E) then
          (some false)
          else
          (j4 (some p176.2.2.2) (some p183.2)))
        else
        (if z33.Kind = 2 then
          ((ss.1).bind fun z204 =>
            (m_disk_Disk_Fail z204 z33.N z33.Code).bind fun p203 =>
            (m_limnographref18_Arm z33.N z33.Code).bind fun p209 =>
            (ss.2).bind fun z211 =>
            j4 (some p203) (some ({ L := z211.L, Capacity := z211.Capacity, Down := z211.Down, Calls := z211.Calls, Fail := p209, Crash := z211.Crash, Err := z33.Code } : T_limnographref18_Disk)))
          else
          (if z33.Kind = 3 then
            ((ss.1).bind fun z227 =>
              (m_disk_Disk_Crash z227 z33.N).bind fun p226 =>
              (m_limnographref18_Arm z33.N 13).bind fun p232 =>
              (ss.2).bind fun z234 =>
              j4 (some p226) (some ({ L := z234.L, Capacity := z234.Capacity, Down := z234.Down, Calls := z234.Calls, Fail := z234.Fail, Crash := p232, Err := z234.Err } : T_limnographref18_Disk)))
            else
            (if z33.Kind = 4 then
              ((ss.1).bind fun z259 =>
                (m_disk_Disk_Boot z259 z33.Keep).bind fun p258 =>
                (ss.2).bind fun z267 =>
                (m_limnographref18_Disk_Boot z267 z33.Keep).bind fun p266 =>
                if p258.1 ≠ p266.1 then
                (some false)
                else
                (j4 (some p258.2) (some p266.2)))
              else
              (j4 ss.1 ss.2)))))))
    (fun ss =>
    j3 ()) := by
  have hh := fun B J h => scan_eq x2 hE (fun nn (ss : ((Option PD)) × ((Option T_limnographref18_Disk))) (yy : Int) => m_limnographlaw20_SnapPlays_L1 x2 j3 nn yy ss.1 ss.2) B J h (y29, y30)
  have h0 : (fun nn (ss : ((Option PD)) × ((Option T_limnographref18_Disk))) (yy : Int) => m_limnographlaw20_SnapPlays_L1 x2 j3 nn yy ss.1 ss.2) fuel (y29, y30) 0 = m_limnographlaw20_SnapPlays_L1 x2 j3 fuel 0 y29 y30 := by dsimp only
  unfold scanL
  refine h0.symm.trans (hh _ _ ?_)
  intro nn ss ii hi
  show m_limnographlaw20_SnapPlays_L1 x2 j3 (nn + 1) ii ss.1 ss.2 = _
  rw [m_limnographlaw20_SnapPlays_L1]
  by_cases h : ii < x2.length
  · rw [if_pos (by omega), dif_pos h]
    simp only [idx_at h, W64_up (show ii + 1 ≤ 9223372036854775807 by omega)]
  · rw [if_neg (by omega), dif_neg h]
end Go.Proofs.Ytknenggmdnpimaa
