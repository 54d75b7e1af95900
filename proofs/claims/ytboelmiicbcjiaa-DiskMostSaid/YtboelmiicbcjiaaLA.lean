/-
  Loops over lists by their indices, told as scans. Printed by a program.
-/
import Derived.Test.YtboelmiicbcjiaaMA
import Derived.Test.YtboelmiicbcjiaaWp
namespace Go.Proofs.Ytboelmiicbcjiaa
open Go Go.RowKit Go.Wk
set_option maxRecDepth 20000 in
theorem m_limnographlaw18_few_L1_scan (x0 : (List T_limnographlaw18_Act)) (j1 : Unit → Option Bool) (hE : x0.length < 4611686018427387904) :
    m_limnographlaw18_few_L1 x0 j1 fuel 0 = scanL x0 ()
    (fun ii xx ss kk =>
    (some xx).bind fun z8 =>
    jn (fun (y13 : Bool) =>
      (jn (fun (y15 : Bool) =>
          (if y15 = true then
            (some false)
            else
            (kk ()))) fun j3 =>
        if y13 = true then
        (j3 true)
        else
        ((some xx).bind fun z19 =>
          j3 (decide ((z19.Keep.length : Int) > 100))))) fun j2 =>
    if (z8.A.length : Int) > 100 then
    (j2 true)
    else
    ((some xx).bind fun z25 =>
      j2 (decide ((z25.B.length : Int) > 100))))
    (fun ss =>
    j1 ()) := by
  have hh := fun B J h => scan_eq x0 hE (fun nn (ss : Unit) (yy : Int) => m_limnographlaw18_few_L1 x0 j1 nn yy) B J h ()
  have h0 : (fun nn (ss : Unit) (yy : Int) => m_limnographlaw18_few_L1 x0 j1 nn yy) fuel () 0 = m_limnographlaw18_few_L1 x0 j1 fuel 0 := by dsimp only
  unfold scanL
  refine h0.symm.trans (hh _ _ ?_)
  intro nn ss ii hi
  show m_limnographlaw18_few_L1 x0 j1 (nn + 1) ii = _
  rw [m_limnographlaw18_few_L1]
  by_cases h : ii < x0.length
  · rw [if_pos (by omega), dif_pos h]
    simp only [idx_at h, W64_up (show ii + 1 ≤ 9223372036854775807 by omega)]
  · rw [if_neg (by omega), dif_neg h]
set_option maxRecDepth 20000 in
theorem m_limnographref18_Name_L1_scan (x0 : (List UInt8)) (j1 : Unit → Option Bool) (hE : x0.length < 4611686018427387904) :
    m_limnographref18_Name_L1 x0 j1 fuel 0 = scanL x0 ()
    (fun ii xx ss kk =>
    (some xx).bind fun z8 =>
    if (((¬ ((((z8).toNat : Int) ≥ 97) ∧ (((z8).toNat : Int) ≤ 122))) ∧ (¬ ((((z8).toNat : Int) ≥ 48) ∧ (((z8).toNat : Int) ≤ 57)))) ∧ (((z8).toNat : Int) ≠ 46)) ∧ (((z8).toNat : Int) ≠ 45) then
    (some false)
    else
    (kk ()))
    (fun ss =>
    j1 ()) := by
  have hh := fun B J h => scan_eq x0 hE (fun nn (ss : Unit) (yy : Int) => m_limnographref18_Name_L1 x0 j1 nn yy) B J h ()
  have h0 : (fun nn (ss : Unit) (yy : Int) => m_limnographref18_Name_L1 x0 j1 nn yy) fuel () 0 = m_limnographref18_Name_L1 x0 j1 fuel 0 := by dsimp only
  unfold scanL
  refine h0.symm.trans (hh _ _ ?_)
  intro nn ss ii hi
  show m_limnographref18_Name_L1 x0 j1 (nn + 1) ii = _
  rw [m_limnographref18_Name_L1]
  by_cases h : ii < x0.length
  · rw [if_pos (by omega), dif_pos h]
    simp only [idx_at h, W64_up (show ii + 1 ≤ 9223372036854775807 by omega)]
  · rw [if_neg (by omega), dif_neg h]
set_option maxRecDepth 20000 in
theorem m_limnographref18_Disk_Find_L1_scan (x0 : T_limnographref18_Disk) (x1 : (List UInt8)) (j1 : Unit → Option Int) (hE : x0.L.length < 4611686018427387904) :
    m_limnographref18_Disk_Find_L1 x0 x1 j1 fuel 0 = scanL x0.L ()
    (fun ii xx ss kk =>
    (some xx).bind fun z12 =>
    if z12.Name = x1 then
    (some (ii : Int))
    else
    (kk ()))
    (fun ss =>
    j1 ()) := by
  have hh := fun B J h => scan_eq x0.L hE (fun nn (ss : Unit) (yy : Int) => m_limnographref18_Disk_Find_L1 x0 x1 j1 nn yy) B J h ()
  have h0 : (fun nn (ss : Unit) (yy : Int) => m_limnographref18_Disk_Find_L1 x0 x1 j1 nn yy) fuel () 0 = m_limnographref18_Disk_Find_L1 x0 x1 j1 fuel 0 := by dsimp only
  unfold scanL
  refine h0.symm.trans (hh _ _ ?_)
  intro nn ss ii hi
  show m_limnographref18_Disk_Find_L1 x0 x1 j1 (nn + 1) ii = _
  rw [m_limnographref18_Disk_Find_L1]
  by_cases h : ii < x0.L.length
  · rw [if_pos (by omega), dif_pos h]
    simp only [idx_at h, W64_up (show ii + 1 ≤ 9223372036854775807 by omega)]
  · rw [if_neg (by omega), dif_neg h]
set_option maxRecDepth 20000 in
theorem m_limnographref18_Disk_Used_L1_scan (x0 : T_limnographref18_Disk) (j1 : Int → Option Int) (y5 : Int) (hE : x0.L.length < 4611686018427387904) :
    m_limnographref18_Disk_Used_L1 x0 j1 fuel y5 0 = scanL x0.L y5
    (fun ii xx ss kk =>
    (some xx).bind fun z14 =>
    kk (W64 (ss + (z14.Data.length : Int))))
    (fun ss =>
    j1 ss) := by
  have hh := fun B J h => scan_eq x0.L hE (fun nn (ss : (Int)) (yy : Int) => m_limnographref18_Disk_Used_L1 x0 j1 nn ss yy) B J h y5
  have h0 : (fun nn (ss : (Int)) (yy : Int) => m_limnographref18_Disk_Used_L1 x0 j1 nn ss yy) fuel y5 0 = m_limnographref18_Disk_Used_L1 x0 j1 fuel y5 0 := by dsimp only
  unfold scanL
  refine h0.symm.trans (hh _ _ ?_)
  intro nn ss ii hi
  show m_limnographref18_Disk_Used_L1 x0 j1 (nn + 1) ss ii = _
  rw [m_limnographref18_Disk_Used_L1]
  by_cases h : ii < x0.L.length
  · rw [if_pos (by omega), dif_pos h]
    simp only [idx_at h, W64_up (show ii + 1 ≤ 9223372036854775807 by omega)]
  · rw [if_neg (by omega), dif_neg h]
set_option maxRecDepth 20000 in
theorem m_limnographref18_Disk_without_L1_scan (x0 : T_limnographref18_Disk) (x1 : (List UInt8)) (j1 : (List T_limnographref18_File) → Option (List T_limnographref18_File)) (y8 : (List T_limnographref18_File)) (hE : x0.L.length < 4611686018427387904) :
    m_limnographref18_Disk_without_L1 x0 x1 j1 fuel y8 0 = scanL x0.L y8
    (fun ii xx ss kk =>
    jn (fun (y21 : (List T_limnographref18_File)) =>
      (kk y21)) fun j2 =>
    (some xx).bind fun z27 =>
    if z27.Name ≠ x1 then
    ((some xx).bind fun z32 =>
      (appL ss [z32]).bind fun z36 =>
      j2 z36)
    else
    (j2 ss))
    (fun ss =>
    j1 ss) := by
  have hh := fun B J h => scan_eq x0.L hE (fun nn (ss : ((List T_limnographref18_File))) (yy : Int) => m_limnographref18_Disk_without_L1 x0 x1 j1 nn ss yy) B J h y8
  have h0 : (fun nn (ss : ((List T_limnographref18_File))) (yy : Int) => m_limnographref18_Disk_without_L1 x0 x1 j1 nn ss yy) fuel y8 0 = m_limnographref18_Disk_without_L1 x0 x1 j1 fuel y8 0 := by dsimp only
  unfold scanL
  refine h0.symm.trans (hh _ _ ?_)
  intro nn ss ii hi
  show m_limnographref18_Disk_without_L1 x0 x1 j1 (nn + 1) ss ii = _
  rw [m_limnographref18_Disk_without_L1]
  by_cases h : ii < x0.L.length
  · rw [if_pos (by omega), dif_pos h]
    simp only [idx_at h, W64_up (show ii + 1 ≤ 9223372036854775807 by omega)]
  · rw [if_neg (by omega), dif_neg h]
set_option maxRecDepth 20000 in
theorem m_limnographref18_New_L1_scan (x0 : (List T_api_File)) (x1 : Int) (j1 : T_limnographref18_Disk → Option (Option T_limnographref18_Disk)) (y23 : T_limnographref18_Disk) (hE : x0.length < 4611686018427387904) :
    m_limnographref18_New_L1 x0 x1 j1 fuel 0 y23 = scanL x0 y23
    (fun ii xx ss kk =>
    (some xx).bind fun z26 =>
    jn (fun (y35 : Bool) =>
      (if y35 = true then
        (some (none : Option T_limnographref18_Disk))
        else
        ((m_limnographref18_Disk_put ss ({ Name := z26.Name, Data := z26.Data, Sure := (z26.Data.length : Int) } : T_limnographref18_File)).bind fun p41 =>
          kk p41))) fun j2 =>
    (m_limnographref18_Name z26.Name).bind fun p48 =>
    if (!p48) = true then
    (j2 true)
    else
    ((m_limnographref18_Disk_Find ss z26.Name).bind fun p51 =>
      if p51 ≥ 0 then
      (j2 true)
      else
      ((m_limnographref18_Disk_Used ss).bind fun p54 =>
        j2 (decide ((z26.Data.length : Int) > W64 (x1 - p54))))))
    (fun ss =>
    j1 ss) := by
  have hh := fun B J h => scan_eq x0 hE (fun nn (ss : (T_limnographref18_Disk)) (yy : Int) => m_limnographref18_New_L1 x0 x1 j1 nn yy ss) B J h y23
  have h0 : (fun nn (ss : (T_limnographref18_Disk)) (yy : Int) => m_limnographref18_New_L1 x0 x1 j1 nn yy ss) fuel y23 0 = m_limnographref18_New_L1 x0 x1 j1 fuel 0 y23 := by dsimp only
  unfold scanL
  refine h0.symm.trans (hh _ _ ?_)
  intro nn ss ii hi
  show m_limnographref18_New_L1 x0 x1 j1 (nn + 1) ii ss = _
  rw [m_limnographref18_New_L1]
  by_cases h : ii < x0.length
  · rw [if_pos (by omega), dif_pos h]
    simp only [idx_at h, W64_up (show ii + 1 ≤ 9223372036854775807 by omega)]
  · rw [if_neg (by omega), dif_neg h]
set_option maxRecDepth 20000 in
theorem m_limnographlaw18_same_L1_scan (x0 : PD) (x1 : T_limnographref18_Disk) (p8 : (List (List UInt8))) (j4 : Unit → Option Bool) (hE : p8.length < 4611686018427387904) :
    m_limnographlaw18_same_L1 x0 x1 p8 j4 fuel 0 = scanL p8 ()
    (fun ii xx ss kk =>
    (some xx).bind fun z44 =>
    (m_disk_Disk_Read x0 z44).bind fun p45 =>
    (some xx).bind fun z48 =>
    (m_disk_Disk_Size x0 z48).bind fun p49 =>
    (idx x1.L (ii : Int)).bind fun z51 =>
    jn (fun (y59 : Bool) =>
      (if y59 = true then
        (some false)
        else
        (jn (fun (_ : Unit) =>
            (kk ())) fun j6 =>
          m_limnographlaw18_same_L2 p45 j6 fuel p45.1 0))) fun j5 =>
    (some xx).bind fun z71 =>
    if z71 ≠ z51.Name then
    (j5 true)
    else
    (if p45.2 ≠ 0 then
      (j5 true)
      else
      (if p49.2.2 ≠ 0 then
        (j5 true)
        else
        (if p45.1 ≠ z51.Data then
          (j5 true)
          else
          (if p49.1 ≠ (z51.Data.length : Int) then
            (j5 true)
            else
            (j5 (decide (p49.2.1 ≠ z51.Sure))))))))
    (fun ss =>
    j4 ()) := by
  have hh := fun B J h => scan_eq p8 hE (fun nn (ss : Unit) (yy : Int) => m_limnographlaw18_same_L1 x0 x1 p8 j4 nn yy) B J h ()
  have h0 : (fun nn (ss : Unit) (yy : Int) => m_limnographlaw18_same_L1 x0 x1 p8 j4 nn yy) fuel () 0 = m_limnographlaw18_same_L1 x0 x1 p8 j4 fuel 0 := by dsimp only
  unfold scanL
  refine h0.symm.trans (hh _ _ ?_)
  intro nn ss ii hi
  show m_limnographlaw18_same_L1 x0 x1 p8 j4 (nn + 1) ii = _
  rw [m_limnographlaw18_same_L1]
  by_cases h : ii < p8.length
  · rw [if_pos (by omega), dif_pos h]
    simp only [idx_at h, W64_up (show ii + 1 ≤ 9223372036854775807 by omega)]
  · rw [if_neg (by omega), dif_neg h]
set_option maxRecDepth 20000 in
theorem m_limnographlaw18_DiskPlays_L1_scan (x1 : Int) (x2 : (List T_limnographlaw18_Act)) (j4 : Unit → Option Bool) (y36 : PD) (y37 : T_limnographref18_Disk) (hE : x2.length < 4611686018427387904) :
    m_limnographlaw18_DiskPlays_L1 x1 x2 j4 fuel 0 y36 y37 = scanL x2 (y36, y37)
    (fun ii xx ss kk =>
    (some xx).bind fun z40 =>
    (m_limnographlaw18_do ss.1 ss.2 z40).bind fun p45 =>
    jn (fun (y54 : Bool) =>
      (jn (fun (y58 : Bool) =>
          (if y58 = true then
            (some false)
            else
            (kk (p45.2.1, p45.2.2)))) fun j6 =>
        if y54 = true then
        (j6 true)
        else
        ((m_disk_Disk_Used p45.2.1).bind fun p62 =>
          j6 (decide (p62 > x1))))) fun j5 =>
    if (!p45.1) = true then
    (j5 true)
    else
    ((m_limnographlaw18_same p45.2.1 p45.2.2).bind fun p65 =>
      j5 (!p65)))
    (fun ss =>
    j4 ()) := by
  have hh := fun B J h => scan_eq x2 hE (fun nn (ss : (PD) × (T_limnographref18_Disk)) (yy : Int) => m_limnographlaw18_DiskPlays_L1 x1 x2 j4 nn yy ss.1 ss.2) B J h (y36, y37)
  have h0 : (fun nn (ss : (PD) × (T_limnographref18_Disk)) (yy : Int) => m_limnographlaw18_DiskPlays_L1 x1 x2 j4 nn yy ss.1 ss.2) fuel (y36, y37) 0 = m_limnographlaw18_DiskPlays_L1 x1 x2 j4 fuel 0 y36 y37 := by dsimp only
  unfold scanL
  refine h0.symm.trans (hh _ _ ?_)
  intro nn ss ii hi
  show m_limnographlaw18_DiskPlays_L1 x1 x2 j4 (nn + 1) ii ss.1 ss.2 = _
  rw [m_limnographlaw18_DiskPlays_L1]
  by_cases h : ii < x2.length
  · rw [if_pos (by omega), dif_pos h]
    simp only [idx_at h, W64_up (show ii + 1 ≤ 9223372036854775807 by omega)]
  · rw [if_neg (by omega), dif_neg h]
set_option maxRecDepth 20000 in
theorem m_limnographlaw18_DiskSure_L1_scan (x2 : (List T_limnographlaw18_Act)) (j6 : (Option PD) → Option Bool) (y81 : (Option PD)) (y82 : (Option T_limnographref18_Disk)) (hE : x2.length < 4611686018427387904) :
    m_limnographlaw18_DiskSure_L1 x2 j6 fuel 0 y81 y82 = scanL x2 (y81, y82)
    (fun ii xx ss kk =>
    jn (fun (y85 : (Option PD)) (y86 : (Option T_limnographref18_Disk)) =>
      (kk (y85, y86))) fun j8 =>
    (some xx).bind fun z88 =>
    if ((z88.A ≠ ([115] : List UInt8)) ∧ (z88.B ≠ ([115] : List UInt8))) ∧ (z88.Kind ≠ 8) then
    ((ss.1).bind fun z102 =>
      (ss.2).bind fun z104 =>
      (m_limnographlaw18_do z102 z104 ({ Kind := z88.Kind, A := z88.A, B := z88.B, N := z88.N, Code := z88.Code, Keep := z88.Keep } : T_limnographlaw18_Act)).bind fun p101 =>
      j8 (some p101.2.1) (some p101.2.2))
    else
    (j8 ss.1 ss.2))
    (fun ss =>
    j6 ss.1) := by
  have hh := fun B J h => scan_eq x2 hE (fun nn (ss : ((Option PD)) × ((Option T_limnographref18_Disk))) (yy : Int) => m_limnographlaw18_DiskSure_L1 x2 j6 nn yy ss.1 ss.2) B J h (y81, y82)
  have h0 : (fun nn (ss : ((Option PD)) × ((Option T_limnographref18_Disk))) (yy : Int) => m_limnographlaw18_DiskSure_L1 x2 j6 nn yy ss.1 ss.2) fuel (y81, y82) 0 = m_limnographlaw18_DiskSure_L1 x2 j6 fuel 0 y81 y82 := by dsimp only
  unfold scanL
  refine h0.symm.trans (hh _ _ ?_)
  intro nn ss ii hi
  show m_limnographlaw18_DiskSure_L1 x2 j6 (nn + 1) ii ss.1 ss.2 = _
  rw [m_limnographlaw18_DiskSure_L1]
  by_cases h : ii < x2.length
  · rw [if_pos (by omega), dif_pos h]
    simp only [idx_at h, W64_up (show ii + 1 ≤ 9223372036854775807 by omega)]
  · rw [if_neg (by omega), dif_neg h]
end Go.Proofs.Ytboelmiicbcjiaa
