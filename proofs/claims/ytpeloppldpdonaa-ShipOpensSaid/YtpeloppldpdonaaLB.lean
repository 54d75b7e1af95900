/-
  Loops over lists by their indices, told as scans. Printed by a program.
-/
import Derived.Test.YtpeloppldpdonaaMB
import Derived.Test.YtpeloppldpdonaaWp
namespace Go.Proofs.Ytpeloppldpdonaa
open Go Go.RowKit Go.Wk
theorem m_pack_Reader_Fix_L1_scan (p2 : ((List UInt8) × T_pack_Reader)) (j1 : UInt64 → Option (UInt64 × T_pack_Reader)) (y11 : UInt64) (hE : p2.1.length < 4611686018427387904) :
    m_pack_Reader_Fix_L1 p2 j1 fuel y11 0 = scanL p2.1 y11
    (fun ii xx ss kk =>
    (some xx).bind fun z15 =>
    kk (ss ||| (shl64 (toU64 ((z15).toNat : Int)) ((toU64 (W64 (8 * (ii : Int)))).toNat))))
    (fun ss =>
    j1 ss) := by
  refine scan_eq p2.1 hE (fun nn ss (yy : Int) => m_pack_Reader_Fix_L1 p2 j1 nn ss yy) _ _ ?_ y11
  intro nn ss ii hi
  show m_pack_Reader_Fix_L1 p2 j1 (nn + 1) ss ii = _
  rw [m_pack_Reader_Fix_L1]
  by_cases h : ii < p2.1.length
  · rw [if_pos (by omega), dif_pos h]
    simp only [idx_at h, W64_up (show ii + 1 ≤ 9223372036854775807 by omega)]
  · rw [if_neg (by omega), dif_neg h]
theorem m_ship_Left_L1_scan (x0 : (List T_api_Span)) (x1 : Int) (j1 : Int → Option Int) (y5 : Int) (hE : x0.length < 4611686018427387904) :
    m_ship_Left_L1 x0 x1 j1 fuel y5 0 = scanL x0 y5
    (fun ii xx ss kk =>
    jn (fun (y9 : Int) =>
      (kk y9)) fun j2 =>
    (some xx).bind fun z11 =>
    if z11.End > x1 then
    (j2 (W64 (ss + 1)))
    else
    (j2 ss))
    (fun ss =>
    j1 ss) := by
  refine scan_eq x0 hE (fun nn ss (yy : Int) => m_ship_Left_L1 x0 x1 j1 nn ss yy) _ _ ?_ y5
  intro nn ss ii hi
  show m_ship_Left_L1 x0 x1 j1 (nn + 1) ss ii = _
  rw [m_ship_Left_L1]
  by_cases h : ii < x0.length
  · rw [if_pos (by omega), dif_pos h]
    simp only [idx_at h, W64_up (show ii + 1 ≤ 9223372036854775807 by omega)]
  · rw [if_neg (by omega), dif_neg h]
theorem m_limnographref18_Name_L1_scan (x0 : (List UInt8)) (j1 : Unit → Option Bool) (hE : x0.length < 4611686018427387904) :
    m_limnographref18_Name_L1 x0 j1 fuel 0 = scanL x0 ()
    (fun ii xx ss kk =>
    (some xx).bind fun z8 =>
    if (((¬ ((((z8).toNat : Int) ≥ 97) ∧ (((z8).toNat : Int) ≤ 122))) ∧ (¬ ((((z8).toNat : Int) ≥ 48) ∧ (((z8).toNat : Int) ≤ 57)))) ∧ (((z8).toNat : Int) ≠ 46)) ∧ (((z8).toNat : Int) ≠ 45) then
    (some false)
    else
    (kk ()))
    (fun ss =>
    j1 ()) := by
  refine scan_eq x0 hE (fun nn ss (yy : Int) => m_limnographref18_Name_L1 x0 j1 nn yy) _ _ ?_ ()
  intro nn ss ii hi
  show m_limnographref18_Name_L1 x0 j1 (nn + 1) ii = _
  rw [m_limnographref18_Name_L1]
  by_cases h : ii < x0.length
  · rw [if_pos (by omega), dif_pos h]
    simp only [idx_at h, W64_up (show ii + 1 ≤ 9223372036854775807 by omega)]
  · rw [if_neg (by omega), dif_neg h]
theorem m_limnographref18_Disk_Find_L1_scan (x0 : T_limnographref18_Disk) (x1 : (List UInt8)) (j1 : Unit → Option Int) (hE : x0.L.length < 4611686018427387904) :
    m_limnographref18_Disk_Find_L1 x0 x1 j1 fuel 0 = scanL x0.L ()
    (fun ii xx ss kk =>
    (some xx).bind fun z12 =>
    if z12.Name = x1 then
    (some (ii : Int))
    else
    (kk ()))
    (fun ss =>
    j1 ()) := by
  refine scan_eq x0.L hE (fun nn ss (yy : Int) => m_limnographref18_Disk_Find_L1 x0 x1 j1 nn yy) _ _ ?_ ()
  intro nn ss ii hi
  show m_limnographref18_Disk_Find_L1 x0 x1 j1 (nn + 1) ii = _
  rw [m_limnographref18_Disk_Find_L1]
  by_cases h : ii < x0.L.length
  · rw [if_pos (by omega), dif_pos h]
    simp only [idx_at h, W64_up (show ii + 1 ≤ 9223372036854775807 by omega)]
  · rw [if_neg (by omega), dif_neg h]
theorem m_limnographref18_Disk_Used_L1_scan (x0 : T_limnographref18_Disk) (j1 : Int → Option Int) (y5 : Int) (hE : x0.L.length < 4611686018427387904) :
    m_limnographref18_Disk_Used_L1 x0 j1 fuel y5 0 = scanL x0.L y5
    (fun ii xx ss kk =>
    (some xx).bind fun z14 =>
    kk (W64 (ss + (z14.Data.length : Int))))
    (fun ss =>
    j1 ss) := by
  refine scan_eq x0.L hE (fun nn ss (yy : Int) => m_limnographref18_Disk_Used_L1 x0 j1 nn ss yy) _ _ ?_ y5
  intro nn ss ii hi
  show m_limnographref18_Disk_Used_L1 x0 j1 (nn + 1) ss ii = _
  rw [m_limnographref18_Disk_Used_L1]
  by_cases h : ii < x0.L.length
  · rw [if_pos (by omega), dif_pos h]
    simp only [idx_at h, W64_up (show ii + 1 ≤ 9223372036854775807 by omega)]
  · rw [if_neg (by omega), dif_neg h]
theorem m_limnographref18_Disk_without_L1_scan (x0 : T_limnographref18_Disk) (x1 : (List UInt8)) (j1 : (List T_limnographref18_File) → Option (List T_limnographref18_File)) (y8 : (List T_limnographref18_File)) (hE : x0.L.length < 4611686018427387904) :
    m_limnographref18_Disk_without_L1 x0 x1 j1 fuel y8 0 = scanL x0.L y8
    (fun ii xx ss kk =>
    jn (fun (y21 : (List T_limnographref18_File)) =>
      (kk y21)) fun j2 =>
    (some xx).bind fun z27 =>
    if z27.Name ≠ x1 then
    ((some xx).bind fun z32 =>
      (appL ss [z32]).bind fun z36 =>
      j2 z36)
    else
    (j2 ss))
    (fun ss =>
    j1 ss) := by
  refine scan_eq x0.L hE (fun nn ss (yy : Int) => m_limnographref18_Disk_without_L1 x0 x1 j1 nn ss yy) _ _ ?_ y8
  intro nn ss ii hi
  show m_limnographref18_Disk_without_L1 x0 x1 j1 (nn + 1) ss ii = _
  rw [m_limnographref18_Disk_without_L1]
  by_cases h : ii < x0.L.length
  · rw [if_pos (by omega), dif_pos h]
    simp only [idx_at h, W64_up (show ii + 1 ≤ 9223372036854775807 by omega)]
  · rw [if_neg (by omega), dif_neg h]
theorem m_limnographref18_New_L1_scan (x0 : (List T_api_File)) (x1 : Int) (j1 : T_limnographref18_Disk → Option (Option T_limnographref18_Disk)) (y23 : T_limnographref18_Disk) (hE : x0.length < 4611686018427387904) :
    m_limnographref18_New_L1 x0 x1 j1 fuel 0 y23 = scanL x0 y23
    (fun ii xx ss kk =>
    (some xx).bind fun z26 =>
    jn (fun (y35 : Bool) =>
      (if y35 = true then
        (some (none : Option T_limnographref18_Disk))
        else
        ((m_limnographref18_Disk_put ss ({ Name := z26.Name, Data := z26.Data, Sure := (z26.Data.length : Int) } : T_limnographref18_File)).bind fun p41 =>
          kk p41))) fun j2 =>
    (m_limnographref18_Name z26.Name).bind fun p48 =>
    if (!p48) = true then
    (j2 true)
    else
    ((m_limnographref18_Disk_Find ss z26.Name).bind fun p51 =>
      if p51 ≥ 0 then
      (j2 true)
      else
      ((m_limnographref18_Disk_Used ss).bind fun p54 =>
        j2 (decide ((z26.Data.length : Int) > W64 (x1 - p54))))))
    (fun ss =>
    j1 ss) := by
  refine scan_eq x0 hE (fun nn ss (yy : Int) => m_limnographref18_New_L1 x0 x1 j1 nn yy ss) _ _ ?_ y23
  intro nn ss ii hi
  show m_limnographref18_New_L1 x0 x1 j1 (nn + 1) ii ss = _
  rw [m_limnographref18_New_L1]
  by_cases h : ii < x0.length
  · rw [if_pos (by omega), dif_pos h]
    simp only [idx_at h, W64_up (show ii + 1 ≤ 9223372036854775807 by omega)]
  · rw [if_neg (by omega), dif_neg h]
theorem m_limnographref03_More_L1_scan (x1 : (List UInt8)) (j1 : UInt32 → Option UInt32) (y5 : UInt32) (hE : x1.length < 4611686018427387904) :
    m_limnographref03_More_L1 x1 j1 fuel y5 0 = scanL x1 y5
    (fun ii xx ss kk =>
    (some xx).bind fun z9 =>
    jn (fun (y11 : UInt32) =>
      (kk y11)) fun j2 =>
    m_limnographref03_More_L2 j2 fuel (ss ^^^ (toU32 ((z9).toNat : Int))) 0)
    (fun ss =>
    j1 ss) := by
  refine scan_eq x1 hE (fun nn ss (yy : Int) => m_limnographref03_More_L1 x1 j1 nn ss yy) _ _ ?_ y5
  intro nn ss ii hi
  show m_limnographref03_More_L1 x1 j1 (nn + 1) ss ii = _
  rw [m_limnographref03_More_L1]
  by_cases h : ii < x1.length
  · rw [if_pos (by omega), dif_pos h]
    simp only [idx_at h, W64_up (show ii + 1 ≤ 9223372036854775807 by omega)]
  · rw [if_neg (by omega), dif_neg h]
theorem m_ship_Sender_Due_L1_scan (x0 : T_ship_Sender) (x1 : (List T_api_Span)) (x2 : Int) (j1 : (List T_api_Span) → Option (List T_api_Span)) (y10 : (List T_api_Span)) (hE : x1.length < 4611686018427387904) :
    m_ship_Sender_Due_L1 x0 x1 x2 j1 fuel y10 0 = scanL x1 y10
    (fun ii xx ss kk =>
    jn (fun (y18 : (List T_api_Span)) =>
      (kk y18)) fun j2 =>
    (some xx).bind fun z22 =>
    jn (fun (y27 : Bool) =>
      (if y27 = true then
        ((appL ss [({ First := z22.First, End := z22.End } : T_api_Span)]).bind fun z30 =>
          j2 z30)
        else
        (j2 ss))) fun j3 =>
    if z22.End > x0.ack then
    (j3 (decide ((ss.length : Int) < x2)))
    else
    (j3 false))
    (fun ss =>
    j1 ss) := by
  refine scan_eq x1 hE (fun nn ss (yy : Int) => m_ship_Sender_Due_L1 x0 x1 x2 j1 nn ss yy) _ _ ?_ y10
  intro nn ss ii hi
  show m_ship_Sender_Due_L1 x0 x1 x2 j1 (nn + 1) ss ii = _
  rw [m_ship_Sender_Due_L1]
  by_cases h : ii < x1.length
  · rw [if_pos (by omega), dif_pos h]
    simp only [idx_at h, W64_up (show ii + 1 ≤ 9223372036854775807 by omega)]
  · rw [if_neg (by omega), dif_neg h]
theorem m_limnographref25_Due_L1_scan (x0 : (List T_api_Span)) (x1 : Int) (x2 : Int) (j1 : (List T_api_Span) → Option (List T_api_Span)) (y7 : (List T_api_Span)) (hE : x0.length < 4611686018427387904) :
    m_limnographref25_Due_L1 x0 x1 x2 j1 fuel y7 0 = scanL x0 y7
    (fun ii xx ss kk =>
    jn (fun (y15 : (List T_api_Span)) =>
      (kk y15)) fun j2 =>
    (some xx).bind fun z19 =>
    if (z19.End > x1) ∧ ((ss.length : Int) < x2) then
    ((some xx).bind fun z24 =>
      (appL ss [z24]).bind fun z26 =>
      j2 z26)
    else
    (j2 ss))
    (fun ss =>
    j1 ss) := by
  refine scan_eq x0 hE (fun nn ss (yy : Int) => m_limnographref25_Due_L1 x0 x1 x2 j1 nn ss yy) _ _ ?_ y7
  intro nn ss ii hi
  show m_limnographref25_Due_L1 x0 x1 x2 j1 (nn + 1) ss ii = _
  rw [m_limnographref25_Due_L1]
  by_cases h : ii < x0.length
  · rw [if_pos (by omega), dif_pos h]
    simp only [idx_at h, W64_up (show ii + 1 ≤ 9223372036854775807 by omega)]
  · rw [if_neg (by omega), dif_neg h]
theorem m_limnographref22_SameSpans_L1_scan (x0 : (List T_api_Span)) (x1 : (List T_api_Span)) (j1 : Unit → Option Bool) (hE : x0.length < 4611686018427387904) :
    m_limnographref22_SameSpans_L1 x0 x1 j1 fuel 0 = scanL x0 ()
    (fun ii xx ss kk =>
    (some xx).bind fun z11 =>
    (idx x1 (ii : Int)).bind fun z14 =>
    if ¬ (z11 = z14) then
    (some false)
    else
    (kk ()))
    (fun ss =>
    j1 ()) := by
  refine scan_eq x0 hE (fun nn ss (yy : Int) => m_limnographref22_SameSpans_L1 x0 x1 j1 nn yy) _ _ ?_ ()
  intro nn ss ii hi
  show m_limnographref22_SameSpans_L1 x0 x1 j1 (nn + 1) ii = _
  rw [m_limnographref22_SameSpans_L1]
  by_cases h : ii < x0.length
  · rw [if_pos (by omega), dif_pos h]
    simp only [idx_at h, W64_up (show ii + 1 ≤ 9223372036854775807 by omega)]
  · rw [if_neg (by omega), dif_neg h]
theorem m_limnographlaw25_ShipDue_L1_scan (x0 : (List T_api_Span)) (x1 : Int) (j2 : Int → Option Bool) (y63 : Int) (hE : x0.length < 4611686018427387904) :
    m_limnographlaw25_ShipDue_L1 x0 x1 j2 fuel y63 0 = scanL x0 y63
    (fun ii xx ss kk =>
    jn (fun (y69 : Int) =>
      (kk y69)) fun j5 =>
    (some xx).bind fun z71 =>
    if z71.End > x1 then
    (j5 (W64 (ss + 1)))
    else
    (j5 ss))
    (fun ss =>
    j2 ss) := by
  refine scan_eq x0 hE (fun nn ss (yy : Int) => m_limnographlaw25_ShipDue_L1 x0 x1 j2 nn ss yy) _ _ ?_ y63
  intro nn ss ii hi
  show m_limnographlaw25_ShipDue_L1 x0 x1 j2 (nn + 1) ss ii = _
  rw [m_limnographlaw25_ShipDue_L1]
  by_cases h : ii < x0.length
  · rw [if_pos (by omega), dif_pos h]
    simp only [idx_at h, W64_up (show ii + 1 ≤ 9223372036854775807 by omega)]
  · rw [if_neg (by omega), dif_neg h]
end Go.Proofs.Ytpeloppldpdonaa
