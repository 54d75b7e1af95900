/-
  Loops over lists by their indices, told as scans. Printed by a program.
-/
import Derived.Test.YtfcpdojcfogkbaaGreatMA
import Derived.Test.YtfcpdojcfogkbaaGreatWp
namespace Go.Proofs.YtfcpdojcfogkbaaGreat
open Go Go.RowKit Go.Wk
set_option maxRecDepth 20000 in
theorem m_label_isName_L1_scan (z6 : (List UInt8)) (j2 : Unit → Option Bool) (hE : z6.length < 4611686018427387904) :
    m_label_isName_L1 z6 j2 fuel 0 = scanL z6 ()
    (fun ii xx ss kk =>
    (some xx).bind fun z12 =>
    (m_label_small z12).bind fun p14 =>
    if ((((!p14) = true) ∧ ((((z12).toNat : Int) < 48) ∨ (((z12).toNat : Int) > 57))) ∧ (((z12).toNat : Int) ≠ 95)) ∧ (((z12).toNat : Int) ≠ 46) then
    (some false)
    else
    (kk ()))
    (fun ss =>
    j2 ()) := by
  have hh := fun B J h => scan_eq z6 hE (fun nn (ss : Unit) (yy : Int) => m_label_isName_L1 z6 j2 nn yy) B J h ()
  have h0 : (fun nn (ss : Unit) (yy : Int) => m_label_isName_L1 z6 j2 nn yy) fuel () 0 = m_label_isName_L1 z6 j2 fuel 0 := by dsimp only
  unfold scanL
  refine h0.symm.trans (hh _ _ ?_)
  intro nn ss ii hi
  show m_label_isName_L1 z6 j2 (nn + 1) ii = _
  rw [m_label_isName_L1]
  by_cases h : ii < z6.length
  · rw [if_pos (by omega), dif_pos h]
    simp only [idx_at h, W64_up (show ii + 1 ≤ 9223372036854775807 by omega)]
  · rw [if_neg (by omega), dif_neg h]
set_option maxRecDepth 20000 in
theorem m_label_isValue_L1_scan (z4 : (List UInt8)) (j1 : Unit → Option Bool) (hE : z4.length < 4611686018427387904) :
    m_label_isValue_L1 z4 j1 fuel 0 = scanL z4 ()
    (fun ii xx ss kk =>
    (some xx).bind fun z10 =>
    jn (fun (y12 : Bool) =>
      (if y12 = true then
        (some false)
        else
        (kk ()))) fun j2 =>
    if ((z10).toNat : Int) < 33 then
    (j2 (decide (((z10).toNat : Int) < 33)))
    else
    (if ((z10).toNat : Int) > 126 then
      (j2 (decide (((z10).toNat : Int) > 126)))
      else
      (if ((z10).toNat : Int) = 61 then
        (j2 (decide (((z10).toNat : Int) = 61)))
        else
        (if ((z10).toNat : Int) = 59 then
          (j2 (decide (((z10).toNat : Int) = 59)))
          else
          (j2 (decide (((z10).toNat : Int) = 44)))))))
    (fun ss =>
    j1 ()) := by
  have hh := fun B J h => scan_eq z4 hE (fun nn (ss : Unit) (yy : Int) => m_label_isValue_L1 z4 j1 nn yy) B J h ()
  have h0 : (fun nn (ss : Unit) (yy : Int) => m_label_isValue_L1 z4 j1 nn yy) fuel () 0 = m_label_isValue_L1 z4 j1 fuel 0 := by dsimp only
  unfold scanL
  refine h0.symm.trans (hh _ _ ?_)
  intro nn ss ii hi
  show m_label_isValue_L1 z4 j1 (nn + 1) ii = _
  rw [m_label_isValue_L1]
  by_cases h : ii < z4.length
  · rw [if_pos (by omega), dif_pos h]
    simp only [idx_at h, W64_up (show ii + 1 ≤ 9223372036854775807 by omega)]
  · rw [if_neg (by omega), dif_neg h]
set_option maxRecDepth 20000 in
theorem m_slices_IndexFunc_api_Pair_api_Pair_s1_L1_scan (x0 : (List T_api_Pair)) (x1_0 : T_api_Pair) (j1 : Unit → Option Int) (hE : x0.length < 4611686018427387904) :
    m_slices_IndexFunc_api_Pair_api_Pair_s1_L1 x0 x1_0 j1 fuel 0 = scanL x0 ()
    (fun ii xx ss kk =>
    (some xx).bind fun z9 =>
    (m_label_Check_1 z9 x1_0).bind fun p11 =>
    if p11 = true then
    (some (ii : Int))
    else
    (kk ()))
    (fun ss =>
    j1 ()) := by
  have hh := fun B J h => scan_eq x0 hE (fun nn (ss : Unit) (yy : Int) => m_slices_IndexFunc_api_Pair_api_Pair_s1_L1 x0 x1_0 j1 nn yy) B J h ()
  have h0 : (fun nn (ss : Unit) (yy : Int) => m_slices_IndexFunc_api_Pair_api_Pair_s1_L1 x0 x1_0 j1 nn yy) fuel () 0 = m_slices_IndexFunc_api_Pair_api_Pair_s1_L1 x0 x1_0 j1 fuel 0 := by dsimp only
  unfold scanL
  refine h0.symm.trans (hh _ _ ?_)
  intro nn ss ii hi
  show m_slices_IndexFunc_api_Pair_api_Pair_s1_L1 x0 x1_0 j1 (nn + 1) ii = _
  rw [m_slices_IndexFunc_api_Pair_api_Pair_s1_L1]
  by_cases h : ii < x0.length
  · rw [if_pos (by omega), dif_pos h]
    simp only [idx_at h, W64_up (show ii + 1 ≤ 9223372036854775807 by omega)]
  · rw [if_neg (by omega), dif_neg h]
set_option maxRecDepth 20000 in
theorem m_label_Check_L1_scan (x1 : (List T_api_Pair)) (j1 : Unit → Option Int) (hE : x1.length < 4611686018427387904) :
    m_label_Check_L1 x1 j1 fuel 0 = scanL x1 ()
    (fun ii xx ss kk =>
    (some xx).bind fun z11 =>
    (m_label_isName z11.Key).bind fun p18 =>
    jn (fun (y20 : Bool) =>
      (if y20 = true then
        (some 3)
        else
        ((cutL x1 0 (ii : Int)).bind fun z23 =>
          (m_slices_ContainsFunc_api_Pair_api_Pair_s2 z23 z11).bind fun p25 =>
          if p25 = true then
          (some 8)
          else
          (kk ())))) fun j2 =>
    if (!p18) = true then
    (j2 true)
    else
    ((m_label_isValue z11.Val).bind fun p29 =>
      j2 (!p29)))
    (fun ss =>
    j1 ()) := by
  have hh := fun B J h => scan_eq x1 hE (fun nn (ss : Unit) (yy : Int) => m_label_Check_L1 x1 j1 nn yy) B J h ()
  have h0 : (fun nn (ss : Unit) (yy : Int) => m_label_Check_L1 x1 j1 nn yy) fuel () 0 = m_label_Check_L1 x1 j1 fuel 0 := by dsimp only
  unfold scanL
  refine h0.symm.trans (hh _ _ ?_)
  intro nn ss ii hi
  show m_label_Check_L1 x1 j1 (nn + 1) ii = _
  rw [m_label_Check_L1]
  by_cases h : ii < x1.length
  · rw [if_pos (by omega), dif_pos h]
    simp only [idx_at h, W64_up (show ii + 1 ≤ 9223372036854775807 by omega)]
  · rw [if_neg (by omega), dif_neg h]
set_option maxRecDepth 20000 in
theorem m_hist_Total_L2_scan (z23 : T_api_Side) (j2 : UInt64 → UInt64 → Option (UInt64 × Bool)) (y32 : UInt64) (y33 : UInt64) (hE : z23.Counts.length < 4611686018427387904) :
    m_hist_Total_L2 z23 j2 fuel y32 y33 0 = scanL z23.Counts (y32, y33)
    (fun ii xx ss kk =>
    (some xx).bind fun z37 =>
    kk ((ss.1 + z37), (ss.2 ||| (cry ss.1 z37))))
    (fun ss =>
    j2 ss.1 ss.2) := by
  have hh := fun B J h => scan_eq z23.Counts hE (fun nn (ss : (UInt64) × (UInt64)) (yy : Int) => m_hist_Total_L2 z23 j2 nn ss.1 ss.2 yy) B J h (y32, y33)
  have h0 : (fun nn (ss : (UInt64) × (UInt64)) (yy : Int) => m_hist_Total_L2 z23 j2 nn ss.1 ss.2 yy) fuel (y32, y33) 0 = m_hist_Total_L2 z23 j2 fuel y32 y33 0 := by dsimp only
  unfold scanL
  refine h0.symm.trans (hh _ _ ?_)
  intro nn ss ii hi
  show m_hist_Total_L2 z23 j2 (nn + 1) ss.1 ss.2 ii = _
  rw [m_hist_Total_L2]
  by_cases h : ii < z23.Counts.length
  · rw [if_pos (by omega), dif_pos h]
    simp only [idx_at h, W64_up (show ii + 1 ≤ 9223372036854775807 by omega)]
  · rw [if_neg (by omega), dif_neg h]
set_option maxRecDepth 20000 in
theorem m_label_Text_L1_scan (p13 : (List T_api_Pair)) (j1 : (List UInt8) → Option ((List UInt8) × Int)) (y23 : (List UInt8)) (hE : p13.length < 4611686018427387904) :
    m_label_Text_L1 p13 j1 fuel 0 y23 = scanL p13 y23
    (fun ii xx ss kk =>
    (some xx).bind fun z27 =>
    (catS ([59] : List UInt8) z27.Key).bind fun z31 =>
    (catS z31 ([61] : List UInt8)).bind fun z32 =>
    (catS z32 z27.Val).bind fun z33 =>
    (appL ss z33).bind fun z34 =>
    kk z34)
    (fun ss =>
    j1 ss) := by
  have hh := fun B J h => scan_eq p13 hE (fun nn (ss : ((List UInt8))) (yy : Int) => m_label_Text_L1 p13 j1 nn yy ss) B J h y23
  have h0 : (fun nn (ss : ((List UInt8))) (yy : Int) => m_label_Text_L1 p13 j1 nn yy ss) fuel y23 0 = m_label_Text_L1 p13 j1 fuel 0 y23 := by dsimp only
  unfold scanL
  refine h0.symm.trans (hh _ _ ?_)
  intro nn ss ii hi
  show m_label_Text_L1 p13 j1 (nn + 1) ii ss = _
  rw [m_label_Text_L1]
  by_cases h : ii < p13.length
  · rw [if_pos (by omega), dif_pos h]
    simp only [idx_at h, W64_up (show ii + 1 ≤ 9223372036854775807 by omega)]
  · rw [if_neg (by omega), dif_neg h]
set_option maxRecDepth 20000 in
theorem m_point_side_L1_scan (x1 : T_api_Side) (j2 : T_pack_Writer → Option T_pack_Writer) (y18 : T_pack_Writer) (hE : x1.Counts.length < 4611686018427387904) :
    m_point_side_L1 x1 j2 fuel 0 y18 = scanL x1.Counts y18
    (fun ii xx ss kk =>
    (some xx).bind fun z21 =>
    (m_pack_Writer_Num ss z21).bind fun p23 =>
    kk p23)
    (fun ss =>
    j2 ss) := by
  have hh := fun B J h => scan_eq x1.Counts hE (fun nn (ss : (T_pack_Writer)) (yy : Int) => m_point_side_L1 x1 j2 nn yy ss) B J h y18
  have h0 : (fun nn (ss : (T_pack_Writer)) (yy : Int) => m_point_side_L1 x1 j2 nn yy ss) fuel y18 0 = m_point_side_L1 x1 j2 fuel 0 y18 := by dsimp only
  unfold scanL
  refine h0.symm.trans (hh _ _ ?_)
  intro nn ss ii hi
  show m_point_side_L1 x1 j2 (nn + 1) ii ss = _
  rw [m_point_side_L1]
  by_cases h : ii < x1.Counts.length
  · rw [if_pos (by omega), dif_pos h]
    simp only [idx_at h, W64_up (show ii + 1 ≤ 9223372036854775807 by omega)]
  · rw [if_neg (by omega), dif_neg h]
set_option maxRecDepth 20000 in
theorem m_pack_Reader_Num_L1_scan (z43 : (List UInt8)) (j3 : UInt64 → Option (UInt64 × T_pack_Reader)) (y68 : UInt64) (hE : z43.length < 4611686018427387904) :
    m_pack_Reader_Num_L1 z43 j3 fuel y68 0 = scanL z43 y68
    (fun ii xx ss kk =>
    (some xx).bind fun z72 =>
    kk ((ss <<< UInt64.ofNat 8) ||| (toU64 ((z72).toNat : Int))))
    (fun ss =>
    j3 ss) := by
  have hh := fun B J h => scan_eq z43 hE (fun nn (ss : (UInt64)) (yy : Int) => m_pack_Reader_Num_L1 z43 j3 nn ss yy) B J h y68
  have h0 : (fun nn (ss : (UInt64)) (yy : Int) => m_pack_Reader_Num_L1 z43 j3 nn ss yy) fuel y68 0 = m_pack_Reader_Num_L1 z43 j3 fuel y68 0 := by dsimp only
  unfold scanL
  refine h0.symm.trans (hh _ _ ?_)
  intro nn ss ii hi
  show m_pack_Reader_Num_L1 z43 j3 (nn + 1) ss ii = _
  rw [m_pack_Reader_Num_L1]
  by_cases h : ii < z43.length
  · rw [if_pos (by omega), dif_pos h]
    simp only [idx_at h, W64_up (show ii + 1 ≤ 9223372036854775807 by omega)]
  · rw [if_neg (by omega), dif_neg h]
set_option maxRecDepth 20000 in
theorem m_pack_Reader_Fix_L1_scan (p2 : ((List UInt8) × T_pack_Reader)) (j1 : UInt64 → Option (UInt64 × T_pack_Reader)) (y11 : UInt64) (hE : p2.1.length < 4611686018427387904) :
    m_pack_Reader_Fix_L1 p2 j1 fuel y11 0 = scanL p2.1 y11
    (fun ii xx ss kk =>
    (some xx).bind fun z15 =>
    kk (ss ||| (shl64 (toU64 ((z15).toNat : Int)) ((toU64 (W64 (8 * (ii : Int)))).toNat))))
    (fun ss =>
    j1 ss) := by
  have hh := fun B J h => scan_eq p2.1 hE (fun nn (ss : (UInt64)) (yy : Int) => m_pack_Reader_Fix_L1 p2 j1 nn ss yy) B J h y11
  have h0 : (fun nn (ss : (UInt64)) (yy : Int) => m_pack_Reader_Fix_L1 p2 j1 nn ss yy) fuel y11 0 = m_pack_Reader_Fix_L1 p2 j1 fuel y11 0 := by dsimp only
  unfold scanL
  refine h0.symm.trans (hh _ _ ?_)
  intro nn ss ii hi
  show m_pack_Reader_Fix_L1 p2 j1 (nn + 1) ss ii = _
  rw [m_pack_Reader_Fix_L1]
  by_cases h : ii < p2.1.length
  · rw [if_pos (by omega), dif_pos h]
    simp only [idx_at h, W64_up (show ii + 1 ≤ 9223372036854775807 by omega)]
  · rw [if_neg (by omega), dif_neg h]
set_option maxRecDepth 20000 in
theorem m_label_follows_L1_scan (x0 : (List T_api_Pair)) (x1 : (List UInt8)) (j1 : Unit → Option Int) (hE : x0.length < 4611686018427387904) :
    m_label_follows_L1 x0 x1 j1 fuel 0 = scanL x0 ()
    (fun ii xx ss kk =>
    (some xx).bind fun z10 =>
    if z10.Key = x1 then
    (some 8)
    else
    (kk ()))
    (fun ss =>
    j1 ()) := by
  have hh := fun B J h => scan_eq x0 hE (fun nn (ss : Unit) (yy : Int) => m_label_follows_L1 x0 x1 j1 nn yy) B J h ()
  have h0 : (fun nn (ss : Unit) (yy : Int) => m_label_follows_L1 x0 x1 j1 nn yy) fuel () 0 = m_label_follows_L1 x0 x1 j1 fuel 0 := by dsimp only
  unfold scanL
  refine h0.symm.trans (hh _ _ ?_)
  intro nn ss ii hi
  show m_label_follows_L1 x0 x1 j1 (nn + 1) ii = _
  rw [m_label_follows_L1]
  by_cases h : ii < x0.length
  · rw [if_pos (by omega), dif_pos h]
    simp only [idx_at h, W64_up (show ii + 1 ≤ 9223372036854775807 by omega)]
  · rw [if_neg (by omega), dif_neg h]
set_option maxRecDepth 20000 in
theorem m_limnographref11_Light_L1_scan (x0 : (List T_api_Pair)) (j1 : Unit → Option Bool) (hE : x0.length < 4611686018427387904) :
    m_limnographref11_Light_L1 x0 j1 fuel 0 = scanL x0 ()
    (fun ii xx ss kk =>
    (some xx).bind fun z8 =>
    jn (fun (y10 : Bool) =>
      (if y10 = true then
        (some false)
        else
        (kk ()))) fun j2 =>
    if (z8.Key.length : Int) > 100 then
    (j2 true)
    else
    ((some xx).bind fun z14 =>
      j2 (decide ((z14.Val.length : Int) > 100))))
    (fun ss =>
    j1 ()) := by
  have hh := fun B J h => scan_eq x0 hE (fun nn (ss : Unit) (yy : Int) => m_limnographref11_Light_L1 x0 j1 nn yy) B J h ()
  have h0 : (fun nn (ss : Unit) (yy : Int) => m_limnographref11_Light_L1 x0 j1 nn yy) fuel () 0 = m_limnographref11_Light_L1 x0 j1 fuel 0 := by dsimp only
  unfold scanL
  refine h0.symm.trans (hh _ _ ?_)
  intro nn ss ii hi
  show m_limnographref11_Light_L1 x0 j1 (nn + 1) ii = _
  rw [m_limnographref11_Light_L1]
  by_cases h : ii < x0.length
  · rw [if_pos (by omega), dif_pos h]
    simp only [idx_at h, W64_up (show ii + 1 ≤ 9223372036854775807 by omega)]
  · rw [if_neg (by omega), dif_neg h]
set_option maxRecDepth 20000 in
theorem m_limnographref11_Sorted_L1_scan (x0 : (List T_api_Pair)) (j1 : (List T_api_Pair) → Option (List T_api_Pair)) (y7 : (List T_api_Pair)) (hE : x0.length < 4611686018427387904) :
    m_limnographref11_Sorted_L1 x0 j1 fuel y7 0 = scanL x0 y7
    (fun ii xx ss kk =>
    jn (fun (y15 : Int) =>
      ((cutL ss 0 y15).bind fun z17 =>
        (appL ([] : List T_api_Pair) z17).bind fun z21 =>
        (some xx).bind fun z25 =>
        (appL z21 [z25]).bind fun z27 =>
        (cutL ss y15 ((ss).length)).bind fun z29 =>
        (appL z27 z29).bind fun z31 =>
        kk z31)) fun j2 =>
    m_limnographref11_Sorted_L2 x0 ss (ii : Int) j2 fuel (ss.length : Int))
    (fun ss =>
    j1 ss) := by
  have hh := fun B J h => scan_eq x0 hE (fun nn (ss : ((List T_api_Pair))) (yy : Int) => m_limnographref11_Sorted_L1 x0 j1 nn ss yy) B J h y7
  have h0 : (fun nn (ss : ((List T_api_Pair))) (yy : Int) => m_limnographref11_Sorted_L1 x0 j1 nn ss yy) fuel y7 0 = m_limnographref11_Sorted_L1 x0 j1 fuel y7 0 := by dsimp only
  unfold scanL
  refine h0.symm.trans (hh _ _ ?_)
  intro nn ss ii hi
  show m_limnographref11_Sorted_L1 x0 j1 (nn + 1) ss ii = _
  rw [m_limnographref11_Sorted_L1]
  by_cases h : ii < x0.length
  · rw [if_pos (by omega), dif_pos h]
    simp only [idx_at h, W64_up (show ii + 1 ≤ 9223372036854775807 by omega)]
  · rw [if_neg (by omega), dif_neg h]
set_option maxRecDepth 20000 in
theorem m_limnographref11_Same_L1_scan (x0 : (List T_api_Pair)) (x1 : (List T_api_Pair)) (j1 : Unit → Option Bool) (hE : x0.length < 4611686018427387904) :
    m_limnographref11_Same_L1 x0 x1 j1 fuel 0 = scanL x0 ()
    (fun ii xx ss kk =>
    (some xx).bind fun z11 =>
    (idx x1 (ii : Int)).bind fun z14 =>
    if ¬ (z11 = z14) then
    (some false)
    else
    (kk ()))
    (fun ss =>
    j1 ()) := by
  have hh := fun B J h => scan_eq x0 hE (fun nn (ss : Unit) (yy : Int) => m_limnographref11_Same_L1 x0 x1 j1 nn yy) B J h ()
  have h0 : (fun nn (ss : Unit) (yy : Int) => m_limnographref11_Same_L1 x0 x1 j1 nn yy) fuel () 0 = m_limnographref11_Same_L1 x0 x1 j1 fuel 0 := by dsimp only
  unfold scanL
  refine h0.symm.trans (hh _ _ ?_)
  intro nn ss ii hi
  show m_limnographref11_Same_L1 x0 x1 j1 (nn + 1) ii = _
  rw [m_limnographref11_Same_L1]
  by_cases h : ii < x0.length
  · rw [if_pos (by omega), dif_pos h]
    simp only [idx_at h, W64_up (show ii + 1 ≤ 9223372036854775807 by omega)]
  · rw [if_neg (by omega), dif_neg h]
set_option maxRecDepth 20000 in
theorem m_limnographref08_SameSide_L1_scan (x0 : T_api_Side) (x1 : T_api_Side) (j1 : Unit → Option Bool) (hE : x0.Counts.length < 4611686018427387904) :
    m_limnographref08_SameSide_L1 x0 x1 j1 fuel 0 = scanL x0.Counts ()
    (fun ii xx ss kk =>
    (some xx).bind fun z21 =>
    (idx x1.Counts (ii : Int)).bind fun z24 =>
    if ((z21).toNat : Int) ≠ ((z24).toNat : Int) then
    (some false)
    else
    (kk ()))
    (fun ss =>
    j1 ()) := by
  have hh := fun B J h => scan_eq x0.Counts hE (fun nn (ss : Unit) (yy : Int) => m_limnographref08_SameSide_L1 x0 x1 j1 nn yy) B J h ()
  have h0 : (fun nn (ss : Unit) (yy : Int) => m_limnographref08_SameSide_L1 x0 x1 j1 nn yy) fuel () 0 = m_limnographref08_SameSide_L1 x0 x1 j1 fuel 0 := by dsimp only
  unfold scanL
  refine h0.symm.trans (hh _ _ ?_)
  intro nn ss ii hi
  show m_limnographref08_SameSide_L1 x0 x1 j1 (nn + 1) ii = _
  rw [m_limnographref08_SameSide_L1]
  by_cases h : ii < x0.Counts.length
  · rw [if_pos (by omega), dif_pos h]
    simp only [idx_at h, W64_up (show ii + 1 ≤ 9223372036854775807 by omega)]
  · rw [if_neg (by omega), dif_neg h]
set_option maxRecDepth 20000 in
theorem m_slices_Equal_api_Pair_api_Pair_L1_scan (x0 : (List T_api_Pair)) (x1 : (List T_api_Pair)) (j1 : Unit → Option Bool) (hE : x0.length < 4611686018427387904) :
    m_slices_Equal_api_Pair_api_Pair_L1 x0 x1 j1 fuel 0 = scanL x0 ()
    (fun ii xx ss kk =>
    (some xx).bind fun z11 =>
    (idx x1 (ii : Int)).bind fun z14 =>
    if ¬ (z11 = z14) then
    (some false)
    else
    (kk ()))
    (fun ss =>
    j1 ()) := by
  have hh := fun B J h => scan_eq x0 hE (fun nn (ss : Unit) (yy : Int) => m_slices_Equal_api_Pair_api_Pair_L1 x0 x1 j1 nn yy) B J h ()
  have h0 : (fun nn (ss : Unit) (yy : Int) => m_slices_Equal_api_Pair_api_Pair_L1 x0 x1 j1 nn yy) fuel () 0 = m_slices_Equal_api_Pair_api_Pair_L1 x0 x1 j1 fuel 0 := by dsimp only
  unfold scanL
  refine h0.symm.trans (hh _ _ ?_)
  intro nn ss ii hi
  show m_slices_Equal_api_Pair_api_Pair_L1 x0 x1 j1 (nn + 1) ii = _
  rw [m_slices_Equal_api_Pair_api_Pair_L1]
  by_cases h : ii < x0.length
  · rw [if_pos (by omega), dif_pos h]
    simp only [idx_at h, W64_up (show ii + 1 ≤ 9223372036854775807 by omega)]
  · rw [if_neg (by omega), dif_neg h]
set_option maxRecDepth 20000 in
theorem m_slices_Equal_uint64_uint64_L1_scan (x0 : (List UInt64)) (x1 : (List UInt64)) (j1 : Unit → Option Bool) (hE : x0.length < 4611686018427387904) :
    m_slices_Equal_uint64_uint64_L1 x0 x1 j1 fuel 0 = scanL x0 ()
    (fun ii xx ss kk =>
    (some xx).bind fun z11 =>
    (idx x1 (ii : Int)).bind fun z14 =>
    if ((z11).toNat : Int) ≠ ((z14).toNat : Int) then
    (some false)
    else
    (kk ()))
    (fun ss =>
    j1 ()) := by
  have hh := fun B J h => scan_eq x0 hE (fun nn (ss : Unit) (yy : Int) => m_slices_Equal_uint64_uint64_L1 x0 x1 j1 nn yy) B J h ()
  have h0 : (fun nn (ss : Unit) (yy : Int) => m_slices_Equal_uint64_uint64_L1 x0 x1 j1 nn yy) fuel () 0 = m_slices_Equal_uint64_uint64_L1 x0 x1 j1 fuel 0 := by dsimp only
  unfold scanL
  refine h0.symm.trans (hh _ _ ?_)
  intro nn ss ii hi
  show m_slices_Equal_uint64_uint64_L1 x0 x1 j1 (nn + 1) ii = _
  rw [m_slices_Equal_uint64_uint64_L1]
  by_cases h : ii < x0.length
  · rw [if_pos (by omega), dif_pos h]
    simp only [idx_at h, W64_up (show ii + 1 ≤ 9223372036854775807 by omega)]
  · rw [if_neg (by omega), dif_neg h]
end Go.Proofs.YtfcpdojcfogkbaaGreat
