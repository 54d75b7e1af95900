/-
  Loops over lists by their indices, told as scans. Printed by a program.
-/
import Derived.Test.YtjadbkfodoodaaaMA
import Derived.Test.YtjadbkfodoodaaaWp
namespace Go.Proofs.Ytjadbkfodoodaaa
open Go Go.RowKit Go.Wk
theorem m_label_isName_L1_scan (z6 : (List UInt8)) (j2 : Unit → Option Bool) (hE : z6.length < 4611686018427387904) :
    m_label_isName_L1 z6 j2 fuel 0 = scanL z6 ()
    (fun ii xx ss kk =>
    (some xx).bind fun z12 =>
    (m_label_small z12).bind fun p14 =>
    if ((((!p14) = true) ∧ ((((z12).toNat : Int) < 48) ∨ (((z12).toNat : Int) > 57))) ∧ (((z12).toNat : Int) ≠ 95)) ∧ (((z12).toNat : Int) ≠ 46) then
    (some false)
    else
    (kk ()))
    (fun ss =>
    j2 ()) := by
  refine scan_eq z6 hE (fun nn ss (yy : Int) => m_label_isName_L1 z6 j2 nn yy) _ _ ?_ ()
  intro nn ss ii hi
  show m_label_isName_L1 z6 j2 (nn + 1) ii = _
  rw [m_label_isName_L1]
  by_cases h : ii < z6.length
  · rw [if_pos (by omega), dif_pos h]
    simp only [idx_at h, W64_up (show ii + 1 ≤ 9223372036854775807 by omega)]
  · rw [if_neg (by omega), dif_neg h]
theorem m_label_isValue_L1_scan (z4 : (List UInt8)) (j1 : Unit → Option Bool) (hE : z4.length < 4611686018427387904) :
    m_label_isValue_L1 z4 j1 fuel 0 = scanL z4 ()
    (fun ii xx ss kk =>
    (some xx).bind fun z10 =>
    jn (fun (y12 : Bool) =>
      (if y12 = true then
        (some false)
        else
        (kk ()))) fun j2 =>
    if ((z10).toNat : Int) < 33 then
    (j2 (decide (((z10).toNat : Int) < 33)))
    else
    (if ((z10).toNat : Int) > 126 then
      (j2 (decide (((z10).toNat : Int) > 126)))
      else
      (if ((z10).toNat : Int) = 61 then
        (j2 (decide (((z10).toNat : Int) = 61)))
        else
        (if ((z10).toNat : Int) = 59 then
          (j2 (decide (((z10).toNat : Int) = 59)))
          else
          (j2 (decide (((z10).toNat : Int) = 44)))))))
    (fun ss =>
    j1 ()) := by
  refine scan_eq z4 hE (fun nn ss (yy : Int) => m_label_isValue_L1 z4 j1 nn yy) _ _ ?_ ()
  intro nn ss ii hi
  show m_label_isValue_L1 z4 j1 (nn + 1) ii = _
  rw [m_label_isValue_L1]
  by_cases h : ii < z4.length
  · rw [if_pos (by omega), dif_pos h]
    simp only [idx_at h, W64_up (show ii + 1 ≤ 9223372036854775807 by omega)]
  · rw [if_neg (by omega), dif_neg h]
theorem m_slices_IndexFunc_api_Pair_api_Pair_s1_L1_scan (x0 : (List T_api_Pair)) (x1_0 : T_api_Pair) (j1 : Unit → Option Int) (hE : x0.length < 4611686018427387904) :
    m_slices_IndexFunc_api_Pair_api_Pair_s1_L1 x0 x1_0 j1 fuel 0 = scanL x0 ()
    (fun ii xx ss kk =>
    (some xx).bind fun z9 =>
    (m_label_Check_1 z9 x1_0).bind fun p11 =>
    if p11 = true then
    (some (ii : Int))
    else
    (kk ()))
    (fun ss =>
    j1 ()) := by
  refine scan_eq x0 hE (fun nn ss (yy : Int) => m_slices_IndexFunc_api_Pair_api_Pair_s1_L1 x0 x1_0 j1 nn yy) _ _ ?_ ()
  intro nn ss ii hi
  show m_slices_IndexFunc_api_Pair_api_Pair_s1_L1 x0 x1_0 j1 (nn + 1) ii = _
  rw [m_slices_IndexFunc_api_Pair_api_Pair_s1_L1]
  by_cases h : ii < x0.length
  · rw [if_pos (by omega), dif_pos h]
    simp only [idx_at h, W64_up (show ii + 1 ≤ 9223372036854775807 by omega)]
  · rw [if_neg (by omega), dif_neg h]
theorem m_label_Check_L1_scan (x1 : (List T_api_Pair)) (j1 : Unit → Option Int) (hE : x1.length < 4611686018427387904) :
    m_label_Check_L1 x1 j1 fuel 0 = scanL x1 ()
    (fun ii xx ss kk =>
    (some xx).bind fun z11 =>
    (m_label_isName z11.Key).bind fun p18 =>
    jn (fun (y20 : Bool) =>
      (if y20 = true then
        (some 3)
        else
        ((cutL x1 0 (ii : Int)).bind fun z23 =>
          (m_slices_ContainsFunc_api_Pair_api_Pair_s2 z23 z11).bind fun p25 =>
          if p25 = true then
          (some 8)
          else
          (kk ())))) fun j2 =>
    if (!p18) = true then
    (j2 true)
    else
    ((m_label_isValue z11.Val).bind fun p29 =>
      j2 (!p29)))
    (fun ss =>
    j1 ()) := by
  refine scan_eq x1 hE (fun nn ss (yy : Int) => m_label_Check_L1 x1 j1 nn yy) _ _ ?_ ()
  intro nn ss ii hi
  show m_label_Check_L1 x1 j1 (nn + 1) ii = _
  rw [m_label_Check_L1]
  by_cases h : ii < x1.length
  · rw [if_pos (by omega), dif_pos h]
    simp only [idx_at h, W64_up (show ii + 1 ≤ 9223372036854775807 by omega)]
  · rw [if_neg (by omega), dif_neg h]
theorem m_label_Text_L1_scan (p13 : (List T_api_Pair)) (j1 : (List UInt8) → Option ((List UInt8) × Int)) (y23 : (List UInt8)) (hE : p13.length < 4611686018427387904) :
    m_label_Text_L1 p13 j1 fuel 0 y23 = scanL p13 y23
    (fun ii xx ss kk =>
    (some xx).bind fun z27 =>
    (catS ([59] : List UInt8) z27.Key).bind fun z31 =>
    (catS z31 ([61] : List UInt8)).bind fun z32 =>
    (catS z32 z27.Val).bind fun z33 =>
    (appL ss z33).bind fun z34 =>
    kk z34)
    (fun ss =>
    j1 ss) := by
  refine scan_eq p13 hE (fun nn ss (yy : Int) => m_label_Text_L1 p13 j1 nn yy ss) _ _ ?_ y23
  intro nn ss ii hi
  show m_label_Text_L1 p13 j1 (nn + 1) ii ss = _
  rw [m_label_Text_L1]
  by_cases h : ii < p13.length
  · rw [if_pos (by omega), dif_pos h]
    simp only [idx_at h, W64_up (show ii + 1 ≤ 9223372036854775807 by omega)]
  · rw [if_neg (by omega), dif_neg h]
theorem m_label_follows_L1_scan (x0 : (List T_api_Pair)) (x1 : (List UInt8)) (j1 : Unit → Option Int) (hE : x0.length < 4611686018427387904) :
    m_label_follows_L1 x0 x1 j1 fuel 0 = scanL x0 ()
    (fun ii xx ss kk =>
    (some xx).bind fun z10 =>
    if z10.Key = x1 then
    (some 8)
    else
    (kk ()))
    (fun ss =>
    j1 ()) := by
  refine scan_eq x0 hE (fun nn ss (yy : Int) => m_label_follows_L1 x0 x1 j1 nn yy) _ _ ?_ ()
  intro nn ss ii hi
  show m_label_follows_L1 x0 x1 j1 (nn + 1) ii = _
  rw [m_label_follows_L1]
  by_cases h : ii < x0.length
  · rw [if_pos (by omega), dif_pos h]
    simp only [idx_at h, W64_up (show ii + 1 ≤ 9223372036854775807 by omega)]
  · rw [if_neg (by omega), dif_neg h]
theorem m_limnographref11_Light_L1_scan (x0 : (List T_api_Pair)) (j1 : Unit → Option Bool) (hE : x0.length < 4611686018427387904) :
    m_limnographref11_Light_L1 x0 j1 fuel 0 = scanL x0 ()
    (fun ii xx ss kk =>
    (some xx).bind fun z8 =>
    jn (fun (y10 : Bool) =>
      (if y10 = true then
        (some false)
        else
        (kk ()))) fun j2 =>
    if (z8.Key.length : Int) > 100 then
    (j2 true)
    else
    ((some xx).bind fun z14 =>
      j2 (decide ((z14.Val.length : Int) > 100))))
    (fun ss =>
    j1 ()) := by
  refine scan_eq x0 hE (fun nn ss (yy : Int) => m_limnographref11_Light_L1 x0 j1 nn yy) _ _ ?_ ()
  intro nn ss ii hi
  show m_limnographref11_Light_L1 x0 j1 (nn + 1) ii = _
  rw [m_limnographref11_Light_L1]
  by_cases h : ii < x0.length
  · rw [if_pos (by omega), dif_pos h]
    simp only [idx_at h, W64_up (show ii + 1 ≤ 9223372036854775807 by omega)]
  · rw [if_neg (by omega), dif_neg h]
theorem m_limnographref11_Name_L1_scan (x0 : (List UInt8)) (j1 : Unit → Option Bool) (hE : x0.length < 4611686018427387904) :
    m_limnographref11_Name_L1 x0 j1 fuel 0 = scanL x0 ()
    (fun ii xx ss kk =>
    (some xx).bind fun z8 =>
    if (¬ ((((z8).toNat : Int) ≥ 97) ∧ (((z8).toNat : Int) ≤ 122))) ∧ (((ii : Int) = 0) ∨ (¬ ((((((z8).toNat : Int) ≥ 48) ∧ (((z8).toNat : Int) ≤ 57)) ∨ (((z8).toNat : Int) = 95)) ∨ (((z8).toNat : Int) = 46)))) then
    (some false)
    else
    (kk ()))
    (fun ss =>
    j1 ()) := by
  refine scan_eq x0 hE (fun nn ss (yy : Int) => m_limnographref11_Name_L1 x0 j1 nn yy) _ _ ?_ ()
  intro nn ss ii hi
  show m_limnographref11_Name_L1 x0 j1 (nn + 1) ii = _
  rw [m_limnographref11_Name_L1]
  by_cases h : ii < x0.length
  · rw [if_pos (by omega), dif_pos h]
    simp only [idx_at h, W64_up (show ii + 1 ≤ 9223372036854775807 by omega)]
  · rw [if_neg (by omega), dif_neg h]
theorem m_limnographref11_Value_L1_scan (x0 : (List UInt8)) (j1 : Unit → Option Bool) (hE : x0.length < 4611686018427387904) :
    m_limnographref11_Value_L1 x0 j1 fuel 0 = scanL x0 ()
    (fun ii xx ss kk =>
    (some xx).bind fun z8 =>
    if ((((((z8).toNat : Int) ≤ 32) ∨ (((z8).toNat : Int) ≥ 127)) ∨ (((z8).toNat : Int) = 61)) ∨ (((z8).toNat : Int) = 59)) ∨ (((z8).toNat : Int) = 44) then
    (some false)
    else
    (kk ()))
    (fun ss =>
    j1 ()) := by
  refine scan_eq x0 hE (fun nn ss (yy : Int) => m_limnographref11_Value_L1 x0 j1 nn yy) _ _ ?_ ()
  intro nn ss ii hi
  show m_limnographref11_Value_L1 x0 j1 (nn + 1) ii = _
  rw [m_limnographref11_Value_L1]
  by_cases h : ii < x0.length
  · rw [if_pos (by omega), dif_pos h]
    simp only [idx_at h, W64_up (show ii + 1 ≤ 9223372036854775807 by omega)]
  · rw [if_neg (by omega), dif_neg h]
theorem m_limnographref11_Check_L1_scan (x1 : (List T_api_Pair)) (j1 : Unit → Option Int) (hE : x1.length < 4611686018427387904) :
    m_limnographref11_Check_L1 x1 j1 fuel 0 = scanL x1 ()
    (fun ii xx ss kk =>
    (some xx).bind fun z11 =>
    (m_limnographref11_Name z11.Key).bind fun p13 =>
    jn (fun (y15 : Bool) =>
      (if y15 = true then
        (some 3)
        else
        (jn (fun (_ : Unit) =>
            (kk ())) fun j3 =>
          m_limnographref11_Check_L2 x1 (ii : Int) j3 fuel 0))) fun j2 =>
    if (!p13) = true then
    (j2 true)
    else
    ((some xx).bind fun z31 =>
      (m_limnographref11_Value z31.Val).bind fun p33 =>
      j2 (!p33)))
    (fun ss =>
    j1 ()) := by
  refine scan_eq x1 hE (fun nn ss (yy : Int) => m_limnographref11_Check_L1 x1 j1 nn yy) _ _ ?_ ()
  intro nn ss ii hi
  show m_limnographref11_Check_L1 x1 j1 (nn + 1) ii = _
  rw [m_limnographref11_Check_L1]
  by_cases h : ii < x1.length
  · rw [if_pos (by omega), dif_pos h]
    simp only [idx_at h, W64_up (show ii + 1 ≤ 9223372036854775807 by omega)]
  · rw [if_neg (by omega), dif_neg h]
theorem m_limnographref11_Sorted_L1_scan (x0 : (List T_api_Pair)) (j1 : (List T_api_Pair) → Option (List T_api_Pair)) (y7 : (List T_api_Pair)) (hE : x0.length < 4611686018427387904) :
    m_limnographref11_Sorted_L1 x0 j1 fuel y7 0 = scanL x0 y7
    (fun ii xx ss kk =>
    jn (fun (y15 : Int) =>
      ((cutL ss 0 y15).bind fun z17 =>
        (appL ([] : List T_api_Pair) z17).bind fun z21 =>
        (some xx).bind fun z25 =>
        (appL z21 [z25]).bind fun z27 =>
        (cutL ss y15 ((ss).length)).bind fun z29 =>
        (appL z27 z29).bind fun z31 =>
        kk z31)) fun j2 =>
    m_limnographref11_Sorted_L2 x0 ss (ii : Int) j2 fuel (ss.length : Int))
    (fun ss =>
    j1 ss) := by
  refine scan_eq x0 hE (fun nn ss (yy : Int) => m_limnographref11_Sorted_L1 x0 j1 nn ss yy) _ _ ?_ y7
  intro nn ss ii hi
  show m_limnographref11_Sorted_L1 x0 j1 (nn + 1) ss ii = _
  rw [m_limnographref11_Sorted_L1]
  by_cases h : ii < x0.length
  · rw [if_pos (by omega), dif_pos h]
    simp only [idx_at h, W64_up (show ii + 1 ≤ 9223372036854775807 by omega)]
  · rw [if_neg (by omega), dif_neg h]
theorem m_limnographref11_Text_L1_scan (p6 : (List T_api_Pair)) (j1 : (List UInt8) → Option ((List UInt8) × Int)) (y11 : (List UInt8)) (hE : p6.length < 4611686018427387904) :
    m_limnographref11_Text_L1 p6 j1 fuel y11 0 = scanL p6 y11
    (fun ii xx ss kk =>
    (catS ss ([59] : List UInt8)).bind fun z16 =>
    (some xx).bind fun z17 =>
    (catS z16 z17.Key).bind fun z18 =>
    (catS z18 ([61] : List UInt8)).bind fun z19 =>
    (some xx).bind fun z20 =>
    (catS z19 z20.Val).bind fun z21 =>
    kk z21)
    (fun ss =>
    j1 ss) := by
  refine scan_eq p6 hE (fun nn ss (yy : Int) => m_limnographref11_Text_L1 p6 j1 nn ss yy) _ _ ?_ y11
  intro nn ss ii hi
  show m_limnographref11_Text_L1 p6 j1 (nn + 1) ss ii = _
  rw [m_limnographref11_Text_L1]
  by_cases h : ii < p6.length
  · rw [if_pos (by omega), dif_pos h]
    simp only [idx_at h, W64_up (show ii + 1 ≤ 9223372036854775807 by omega)]
  · rw [if_neg (by omega), dif_neg h]
theorem m_limnographref11_Same_L1_scan (x0 : (List T_api_Pair)) (x1 : (List T_api_Pair)) (j1 : Unit → Option Bool) (hE : x0.length < 4611686018427387904) :
    m_limnographref11_Same_L1 x0 x1 j1 fuel 0 = scanL x0 ()
    (fun ii xx ss kk =>
    (some xx).bind fun z11 =>
    (idx x1 (ii : Int)).bind fun z14 =>
    if ¬ (z11 = z14) then
    (some false)
    else
    (kk ()))
    (fun ss =>
    j1 ()) := by
  refine scan_eq x0 hE (fun nn ss (yy : Int) => m_limnographref11_Same_L1 x0 x1 j1 nn yy) _ _ ?_ ()
  intro nn ss ii hi
  show m_limnographref11_Same_L1 x0 x1 j1 (nn + 1) ii = _
  rw [m_limnographref11_Same_L1]
  by_cases h : ii < x0.length
  · rw [if_pos (by omega), dif_pos h]
    simp only [idx_at h, W64_up (show ii + 1 ≤ 9223372036854775807 by omega)]
  · rw [if_neg (by omega), dif_neg h]
theorem m_slices_Index_api_Pair_api_Pair_L1_scan (x0 : (List T_api_Pair)) (x1 : T_api_Pair) (j1 : Unit → Option Int) (hE : x0.length < 4611686018427387904) :
    m_slices_Index_api_Pair_api_Pair_L1 x0 x1 j1 fuel 0 = scanL x0 ()
    (fun ii xx ss kk =>
    (some xx).bind fun z11 =>
    if ({ Key := x1.Key, Val := x1.Val } : T_api_Pair) = z11 then
    (some (ii : Int))
    else
    (kk ()))
    (fun ss =>
    j1 ()) := by
  refine scan_eq x0 hE (fun nn ss (yy : Int) => m_slices_Index_api_Pair_api_Pair_L1 x0 x1 j1 nn yy) _ _ ?_ ()
  intro nn ss ii hi
  show m_slices_Index_api_Pair_api_Pair_L1 x0 x1 j1 (nn + 1) ii = _
  rw [m_slices_Index_api_Pair_api_Pair_L1]
  by_cases h : ii < x0.length
  · rw [if_pos (by omega), dif_pos h]
    simp only [idx_at h, W64_up (show ii + 1 ≤ 9223372036854775807 by omega)]
  · rw [if_neg (by omega), dif_neg h]
theorem m_label_Matches_L1_scan (x1 : (List T_api_Pair)) (x3 : (List T_api_Pair)) (j2 : Unit → Option Bool) (hE : x3.length < 4611686018427387904) :
    m_label_Matches_L1 x1 x3 j2 fuel 0 = scanL x3 ()
    (fun ii xx ss kk =>
    (some xx).bind fun z16 =>
    (m_slices_Contains_api_Pair_api_Pair x1 ({ Key := z16.Key, Val := z16.Val } : T_api_Pair)).bind fun p21 =>
    if (!p21) = true then
    (some false)
    else
    (kk ()))
    (fun ss =>
    j2 ()) := by
  refine scan_eq x3 hE (fun nn ss (yy : Int) => m_label_Matches_L1 x1 x3 j2 nn yy) _ _ ?_ ()
  intro nn ss ii hi
  show m_label_Matches_L1 x1 x3 j2 (nn + 1) ii = _
  rw [m_label_Matches_L1]
  by_cases h : ii < x3.length
  · rw [if_pos (by omega), dif_pos h]
    simp only [idx_at h, W64_up (show ii + 1 ≤ 9223372036854775807 by omega)]
  · rw [if_neg (by omega), dif_neg h]
theorem m_limnographlaw11_LabelMatches_L2_scan (x1 : (List T_api_Pair)) (x3 : (List T_api_Pair)) (y40 : Int) (j5 : Bool → Option Bool) (y47 : Bool) (hE : x1.length < 4611686018427387904) :
    m_limnographlaw11_LabelMatches_L2 x1 x3 y40 j5 fuel y47 0 = scanL x1 y47
    (fun ii xx ss kk =>
    jn (fun (y51 : Bool) =>
      (kk y51)) fun j6 =>
    if ss = true then
    (j6 true)
    else
    ((some xx).bind fun z55 =>
      (idx x3 y40).bind fun z58 =>
      j6 (decide (z55 = z58))))
    (fun ss =>
    j5 ss) := by
  refine scan_eq x1 hE (fun nn ss (yy : Int) => m_limnographlaw11_LabelMatches_L2 x1 x3 y40 j5 nn ss yy) _ _ ?_ y47
  intro nn ss ii hi
  show m_limnographlaw11_LabelMatches_L2 x1 x3 y40 j5 (nn + 1) ss ii = _
  rw [m_limnographlaw11_LabelMatches_L2]
  by_cases h : ii < x1.length
  · rw [if_pos (by omega), dif_pos h]
    simp only [idx_at h, W64_up (show ii + 1 ≤ 9223372036854775807 by omega)]
  · rw [if_neg (by omega), dif_neg h]
theorem m_limnographlaw11_LabelMatches_L1_scan (x1 : (List T_api_Pair)) (x3 : (List T_api_Pair)) (j4 : Bool → Option Bool) (y39 : Bool) (hE : x3.length < 4611686018427387904) :
    m_limnographlaw11_LabelMatches_L1 x1 x3 j4 fuel y39 0 = scanL x3 y39
    (fun ii xx ss kk =>
    jn (fun (y43 : Bool) =>
      (kk (decide ((ss = true) ∧ (y43 = true))))) fun j5 =>
    m_limnographlaw11_LabelMatches_L2 x1 x3 (ii : Int) j5 fuel false 0)
    (fun ss =>
    j4 ss) := by
  refine scan_eq x3 hE (fun nn ss (yy : Int) => m_limnographlaw11_LabelMatches_L1 x1 x3 j4 nn ss yy) _ _ ?_ y39
  intro nn ss ii hi
  show m_limnographlaw11_LabelMatches_L1 x1 x3 j4 (nn + 1) ss ii = _
  rw [m_limnographlaw11_LabelMatches_L1]
  by_cases h : ii < x3.length
  · rw [if_pos (by omega), dif_pos h]
    simp only [idx_at h, W64_up (show ii + 1 ≤ 9223372036854775807 by omega)]
  · rw [if_neg (by omega), dif_neg h]
theorem m_limnographref11_Parse_L2_scan (y27 : Int) (y28 : T_limnographref11_Got) (z59 : (List UInt8)) (j4 : Unit → Option T_limnographref11_Got) (hE : y28.Attrs.length < 4611686018427387904) :
    m_limnographref11_Parse_L2 y27 y28 z59 j4 fuel 0 = scanL y28.Attrs ()
    (fun ii xx ss kk =>
    (some xx).bind fun z87 =>
    if z87.Key = z59 then
    (some ({ Name := ([] : List UInt8), Attrs := ([] : List T_api_Pair), At := W64 (y27 + 1), E := 8 } : T_limnographref11_Got))
    else
    (kk ()))
    (fun ss =>
    j4 ()) := by
  refine scan_eq y28.Attrs hE (fun nn ss (yy : Int) => m_limnographref11_Parse_L2 y27 y28 z59 j4 nn yy) _ _ ?_ ()
  intro nn ss ii hi
  show m_limnographref11_Parse_L2 y27 y28 z59 j4 (nn + 1) ii = _
  rw [m_limnographref11_Parse_L2]
  by_cases h : ii < y28.Attrs.length
  · rw [if_pos (by omega), dif_pos h]
    simp only [idx_at h, W64_up (show ii + 1 ≤ 9223372036854775807 by omega)]
  · rw [if_neg (by omega), dif_neg h]
end Go.Proofs.Ytjadbkfodoodaaa
