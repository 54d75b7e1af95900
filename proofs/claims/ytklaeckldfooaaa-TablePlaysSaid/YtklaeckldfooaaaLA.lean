/-
  Loops over lists by their indices, told as scans. Printed by a program.
-/
import Derived.Test.YtklaeckldfooaaaMA
import Derived.Test.YtklaeckldfooaaaWp
namespace Go.Proofs.Ytklaeckldfooaaa
open Go Go.RowKit Go.Wk
theorem m_limnographlaw14_few_L1_scan (x0 : (List T_limnographlaw14_Act)) (j1 : Unit → Option Bool) (hE : x0.length < 4611686018427387904) :
    m_limnographlaw14_few_L1 x0 j1 fuel 0 = scanL x0 ()
    (fun ii xx ss kk =>
    (some xx).bind fun z8 =>
    if (z8.Key.length : Int) > 60 then
    (some false)
    else
    (kk ()))
    (fun ss =>
    j1 ()) := by
  refine scan_eq x0 hE (fun nn ss (yy : Int) => m_limnographlaw14_few_L1 x0 j1 nn yy) _ _ ?_ ()
  intro nn ss ii hi
  show m_limnographlaw14_few_L1 x0 j1 (nn + 1) ii = _
  rw [m_limnographlaw14_few_L1]
  by_cases h : ii < x0.length
  · rw [if_pos (by omega), dif_pos h]
    simp only [idx_at h, W64_up (show ii + 1 ≤ 9223372036854775807 by omega)]
  · rw [if_neg (by omega), dif_neg h]
theorem m_limnographref14_find_L1_scan (x0 : (List T_limnographref14_Thing)) (x1 : (List UInt8)) (j1 : Unit → Option Int) (hE : x0.length < 4611686018427387904) :
    m_limnographref14_find_L1 x0 x1 j1 fuel 0 = scanL x0 ()
    (fun ii xx ss kk =>
    (some xx).bind fun z7 =>
    if z7.Key = x1 then
    (some (ii : Int))
    else
    (kk ()))
    (fun ss =>
    j1 ()) := by
  refine scan_eq x0 hE (fun nn ss (yy : Int) => m_limnographref14_find_L1 x0 x1 j1 nn yy) _ _ ?_ ()
  intro nn ss ii hi
  show m_limnographref14_find_L1 x0 x1 j1 (nn + 1) ii = _
  rw [m_limnographref14_find_L1]
  by_cases h : ii < x0.length
  · rw [if_pos (by omega), dif_pos h]
    simp only [idx_at h, W64_up (show ii + 1 ≤ 9223372036854775807 by omega)]
  · rw [if_neg (by omega), dif_neg h]
theorem m_limnographref14_Del_L1_scan (x0 : (List T_limnographref14_Thing)) (x1 : (List UInt8)) (j1 : (List T_limnographref14_Thing) → Option (List T_limnographref14_Thing)) (y7 : (List T_limnographref14_Thing)) (hE : x0.length < 4611686018427387904) :
    m_limnographref14_Del_L1 x0 x1 j1 fuel y7 0 = scanL x0 y7
    (fun ii xx ss kk =>
    jn (fun (y15 : (List T_limnographref14_Thing)) =>
      (kk y15)) fun j2 =>
    (some xx).bind fun z19 =>
    if z19.Key ≠ x1 then
    ((some xx).bind fun z22 =>
      (appL ss [z22]).bind fun z24 =>
      j2 z24)
    else
    (j2 ss))
    (fun ss =>
    j1 ss) := by
  refine scan_eq x0 hE (fun nn ss (yy : Int) => m_limnographref14_Del_L1 x0 x1 j1 nn ss yy) _ _ ?_ y7
  intro nn ss ii hi
  show m_limnographref14_Del_L1 x0 x1 j1 (nn + 1) ss ii = _
  rw [m_limnographref14_Del_L1]
  by_cases h : ii < x0.length
  · rw [if_pos (by omega), dif_pos h]
    simp only [idx_at h, W64_up (show ii + 1 ≤ 9223372036854775807 by omega)]
  · rw [if_neg (by omega), dif_neg h]
theorem m_limnographref14_Sorted_L1_scan (x0 : (List T_limnographref14_Thing)) (j1 : (List T_limnographref14_Thing) → Option (List T_limnographref14_Thing)) (y7 : (List T_limnographref14_Thing)) (hE : x0.length < 4611686018427387904) :
    m_limnographref14_Sorted_L1 x0 j1 fuel y7 0 = scanL x0 y7
    (fun ii xx ss kk =>
    jn (fun (y15 : Int) =>
      ((cutL ss 0 y15).bind fun z17 =>
        (appL ([] : List T_limnographref14_Thing) z17).bind fun z21 =>
        (some xx).bind fun z25 =>
        (appL z21 [z25]).bind fun z27 =>
        (cutL ss y15 ((ss).length)).bind fun z29 =>
        (appL z27 z29).bind fun z31 =>
        kk z31)) fun j2 =>
    m_limnographref14_Sorted_L2 x0 ss (ii : Int) j2 fuel (ss.length : Int))
    (fun ss =>
    j1 ss) := by
  refine scan_eq x0 hE (fun nn ss (yy : Int) => m_limnographref14_Sorted_L1 x0 j1 nn ss yy) _ _ ?_ y7
  intro nn ss ii hi
  show m_limnographref14_Sorted_L1 x0 j1 (nn + 1) ss ii = _
  rw [m_limnographref14_Sorted_L1]
  by_cases h : ii < x0.length
  · rw [if_pos (by omega), dif_pos h]
    simp only [idx_at h, W64_up (show ii + 1 ≤ 9223372036854775807 by omega)]
  · rw [if_neg (by omega), dif_neg h]
theorem m_limnographlaw14_same_L1_scan (x0 : T_table_Table_int_) (p5 : (List T_limnographref14_Thing)) (p8 : (List (List UInt8))) (j3 : Unit → Option Bool) (hE : p5.length < 4611686018427387904) :
    m_limnographlaw14_same_L1 x0 p5 p8 j3 fuel 0 = scanL p5 ()
    (fun ii xx ss kk =>
    (some xx).bind fun z29 =>
    (m_table_Table_int_Get x0 z29.Key).bind fun p30 =>
    jn (fun (y32 : Bool) =>
      (if y32 = true then
        (some false)
        else
        (kk ()))) fun j4 =>
    (idx p8 (ii : Int)).bind fun z36 =>
    (some xx).bind fun z37 =>
    if z36 ≠ z37.Key then
    (j4 true)
    else
    ((some xx).bind fun z39 =>
      if p30.1 ≠ z39.V then
      (j4 true)
      else
      (j4 (!p30.2))))
    (fun ss =>
    j3 ()) := by
  refine scan_eq p5 hE (fun nn ss (yy : Int) => m_limnographlaw14_same_L1 x0 p5 p8 j3 nn yy) _ _ ?_ ()
  intro nn ss ii hi
  show m_limnographlaw14_same_L1 x0 p5 p8 j3 (nn + 1) ii = _
  rw [m_limnographlaw14_same_L1]
  by_cases h : ii < p5.length
  · rw [if_pos (by omega), dif_pos h]
    simp only [idx_at h, W64_up (show ii + 1 ≤ 9223372036854775807 by omega)]
  · rw [if_neg (by omega), dif_neg h]
theorem m_limnographlaw14_TablePlays_L1_scan (x0 : Int) (x1 : (List T_limnographlaw14_Act)) (j1 : (List T_limnographref14_Thing) → T_table_Table_int_ → Option Bool) (y24 : (List T_limnographref14_Thing)) (y28 : T_table_Table_int_) (hE : x1.length < 4611686018427387904) :
    m_limnographlaw14_TablePlays_L1 x0 x1 j1 fuel y24 0 y28 = scanL x1 (y24, y28)
    (fun ii xx ss kk =>
    (some xx).bind fun z35 =>
    (m_table_Table_int_Get ss.2 z35.Key).bind fun p40 =>
    (m_limnographref14_Get ss.1 z35.Key).bind fun p42 =>
    if (p40.1 ≠ p42.1) ∨ (p40.2 ≠ p42.2) then
    (some false)
    else
    (jn (fun (y47 : (List T_limnographref14_Thing)) (y50 : T_table_Table_int_) =>
        ((m_limnographlaw14_same y50 y47 x0).bind fun p52 =>
          jn (fun (y55 : Bool) =>
            (if y55 = true then
              (some false)
              else
              (kk (y47, y50)))) fun j3 =>
          if (!p52) = true then
          (j3 true)
          else
          ((m_table_Table_int_Len y50).bind fun p59 =>
            j3 (decide (p59 > max x0 0))))) fun j2 =>
      if z35.Kind = 0 then
      ((m_limnographref14_Put ss.1 x0 z35.Key z35.V).bind fun p62 =>
        (m_table_Table_int_Put ss.2 z35.Key z35.V).bind fun p65 =>
        if p65.1 ≠ p62.2 then
        (some false)
        else
        (j2 p62.1 p65.2))
      else
      (if z35.Kind = 1 then
        ((m_table_Table_int_Del ss.2 z35.Key).bind fun p71 =>
          if p71.1 ≠ p42.2 then
          (some false)
          else
          ((m_limnographref14_Del ss.1 z35.Key).bind fun p76 =>
            j2 p76 p71.2))
        else
        (if z35.Kind = 3 then
          ((m_table_Table_int_Clone ss.2).bind fun p82 =>
            (m_table_Table_int_Del p82 z35.Key).bind fun p87 =>
            (m_table_Table_int_Put p87.2 ([33] : List UInt8) z35.V).bind fun p91 =>
            j2 ss.1 ss.2)
          else
          (j2 ss.1 ss.2)))))
    (fun ss =>
    j1 ss.1 ss.2) := by
  refine scan_eq x1 hE (fun nn ss (yy : Int) => m_limnographlaw14_TablePlays_L1 x0 x1 j1 nn ss.1 yy ss.2) _ _ ?_ (y24, y28)
  intro nn ss ii hi
  show m_limnographlaw14_TablePlays_L1 x0 x1 j1 (nn + 1) ss.1 ii ss.2 = _
  rw [m_limnographlaw14_TablePlays_L1]
  by_cases h : ii < x1.length
  · rw [if_pos (by omega), dif_pos h]
    simp only [idx_at h, W64_up (show ii + 1 ≤ 9223372036854775807 by omega)]
  · rw [if_neg (by omega), dif_neg h]
theorem m_limnographlaw14_TableOldest_L1_scan (y12 : (List (List UInt8))) (j2 : T_table_Table_int_ → Option Bool) (y51 : T_table_Table_int_) (hE : y12.length < 4611686018427387904) :
    m_limnographlaw14_TableOldest_L1 y12 j2 fuel 0 y51 = scanL y12 y51
    (fun ii xx ss kk =>
    (m_table_Table_int_Oldest ss).bind fun p54 =>
    (some xx).bind fun z56 =>
    jn (fun (y61 : Bool) =>
      (jn (fun (y64 : Bool) (y65 : T_table_Table_int_) =>
          (jn (fun (y68 : Bool) (y69 : T_table_Table_int_) =>
              (if y68 = true then
                (some false)
                else
                (kk y69))) fun j8 =>
            if y64 = true then
            (j8 true y65)
            else
            ((m_table_Table_int_Del y65 p54.1).bind fun p73 =>
              j8 p73.1 p73.2))) fun j7 =>
        if y61 = true then
        (j7 true ss)
        else
        ((m_table_Table_int_Del ss p54.1).bind fun p78 =>
          j7 (!p78.1) p78.2))) fun j6 =>
    if (p54.1 ≠ z56) ∨ ((!p54.2) = true) then
    (j6 true)
    else
    ((m_table_Table_int_Len ss).bind fun p83 =>
      j6 (decide (p83 ≠ W64 ((y12.length : Int) - (ii : Int))))))
    (fun ss =>
    j2 ss) := by
  refine scan_eq y12 hE (fun nn ss (yy : Int) => m_limnographlaw14_TableOldest_L1 y12 j2 nn yy ss) _ _ ?_ y51
  intro nn ss ii hi
  show m_limnographlaw14_TableOldest_L1 y12 j2 (nn + 1) ii ss = _
  rw [m_limnographlaw14_TableOldest_L1]
  by_cases h : ii < y12.length
  · rw [if_pos (by omega), dif_pos h]
    simp only [idx_at h, W64_up (show ii + 1 ≤ 9223372036854775807 by omega)]
  · rw [if_neg (by omega), dif_neg h]
theorem m_limnographlaw14_TableOldest_L3_scan (x0 : (List T_limnographlaw14_Act)) (y85 : (List (List UInt8))) (y88 : Int) (j9 : (List (List UInt8)) → Option Bool) (y111 : (List (List UInt8))) (hE : y85.length < 4611686018427387904) :
    m_limnographlaw14_TableOldest_L3 x0 y85 y88 j9 fuel y111 0 = scanL y85 y111
    (fun ii xx ss kk =>
    jn (fun (y120 : (List (List UInt8))) =>
      (kk y120)) fun j10 =>
    (some xx).bind fun z125 =>
    (idx x0 y88).bind fun z126 =>
    if z125 ≠ z126.Key then
    ((some xx).bind fun z130 =>
      (appL ss [z130]).bind fun z131 =>
      j10 z131)
    else
    (j10 ss))
    (fun ss =>
    j9 ss) := by
  refine scan_eq y85 hE (fun nn ss (yy : Int) => m_limnographlaw14_TableOldest_L3 x0 y85 y88 j9 nn ss yy) _ _ ?_ y111
  intro nn ss ii hi
  show m_limnographlaw14_TableOldest_L3 x0 y85 y88 j9 (nn + 1) ss ii = _
  rw [m_limnographlaw14_TableOldest_L3]
  by_cases h : ii < y85.length
  · rw [if_pos (by omega), dif_pos h]
    simp only [idx_at h, W64_up (show ii + 1 ≤ 9223372036854775807 by omega)]
  · rw [if_neg (by omega), dif_neg h]
theorem m_limnographlaw14_TableOldest_L2_scan (x0 : (List T_limnographlaw14_Act)) (j1 : (List (List UInt8)) → T_table_Table_int_ → Option Bool) (y85 : (List (List UInt8))) (y89 : T_table_Table_int_) (hE : x0.length < 4611686018427387904) :
    m_limnographlaw14_TableOldest_L2 x0 j1 fuel y85 0 y89 = scanL x0 (y85, y89)
    (fun ii xx ss kk =>
    (some xx).bind fun z94 =>
    (m_table_Table_int_Put ss.2 z94.Key (ii : Int)).bind fun p96 =>
    if (!p96.1) = true then
    (some false)
    else
    (jn (fun (y102 : (List (List UInt8))) =>
        ((some xx).bind fun z106 =>
          (appL y102 [z106.Key]).bind fun z108 =>
          kk (z108, p96.2))) fun j9 =>
      m_limnographlaw14_TableOldest_L3 x0 ss.1 (ii : Int) j9 fuel ([] : List (List UInt8)) 0))
    (fun ss =>
    j1 ss.1 ss.2) := by
  refine scan_eq x0 hE (fun nn ss (yy : Int) => m_limnographlaw14_TableOldest_L2 x0 j1 nn ss.1 yy ss.2) _ _ ?_ (y85, y89)
  intro nn ss ii hi
  show m_limnographlaw14_TableOldest_L2 x0 j1 (nn + 1) ss.1 ii ss.2 = _
  rw [m_limnographlaw14_TableOldest_L2]
  by_cases h : ii < x0.length
  · rw [if_pos (by omega), dif_pos h]
    simp only [idx_at h, W64_up (show ii + 1 ≤ 9223372036854775807 by omega)]
  · rw [if_neg (by omega), dif_neg h]
end Go.Proofs.Ytklaeckldfooaaa
