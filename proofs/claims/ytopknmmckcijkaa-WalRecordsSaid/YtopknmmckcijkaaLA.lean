/-
  Loops over lists by their indices, told as scans. Printed by a program.
-/
import Derived.Test.YtopknmmckcijkaaMA
import Derived.Test.YtopknmmckcijkaaWp
set_option linter.unusedVariables false
set_option linter.unusedSimpArgs false
namespace Go.Proofs.Ytopknmmckcijkaa
open Go Go.RowKit Go.Wk
set_option maxRecDepth 20000 in
theorem m_limnographref03_More_L1_scan (x1 : (List UInt8)) (j1 : UInt32 → Option UInt32) (y5 : UInt32) (hE : x1.length < 4611686018427387904) :
    m_limnographref03_More_L1 x1 j1 fuel y5 0 = scanL x1 y5
    (fun ii xx ss kk =>
    (some xx).bind fun z9 =>
    jn (fun (y11 : UInt32) =>
      (kk y11)) fun j2 =>
    m_limnographref03_More_L2 j2 fuel (ss ^^^ (toU32 ((z9).toNat : Int))) 0)
    (fun ss =>
    j1 ss) := by
  have hh := fun B J h => scan_eq x1 hE (fun nn (ss : (UInt32)) (yy : Int) => m_limnographref03_More_L1 x1 j1 nn ss yy) B J h y5
  have h0 : (fun nn (ss : (UInt32)) (yy : Int) => m_limnographref03_More_L1 x1 j1 nn ss yy) fuel y5 0 = m_limnographref03_More_L1 x1 j1 fuel y5 0 := by dsimp only
  unfold scanL
  refine h0.symm.trans (hh _ _ ?_)
  intro nn ss ii hi
  show m_limnographref03_More_L1 x1 j1 (nn + 1) ss ii = _
  rw [m_limnographref03_More_L1]
  by_cases h : ii < x1.length
  · rw [if_pos (by omega), dif_pos h]
    simp only [idx_at h, W64_up (show ii + 1 ≤ 9223372036854775807 by omega)]
  · rw [if_neg (by omega), dif_neg h]
set_option maxRecDepth 20000 in
theorem m_limnographref04_Same_L1_scan (x0 : (List (List UInt8))) (x1 : (List (List UInt8))) (j1 : Unit → Option Bool) (hE : x0.length < 4611686018427387904) :
    m_limnographref04_Same_L1 x0 x1 j1 fuel 0 = scanL x0 ()
    (fun ii xx ss kk =>
    (some xx).bind fun z11 =>
    (idx x1 (ii : Int)).bind fun z16 =>
    if z11 ≠ z16 then
    (some false)
    else
    (kk ()))
    (fun ss =>
    j1 ()) := by
  have hh := fun B J h => scan_eq x0 hE (fun nn (ss : Unit) (yy : Int) => m_limnographref04_Same_L1 x0 x1 j1 nn yy) B J h ()
  have h0 : (fun nn (ss : Unit) (yy : Int) => m_limnographref04_Same_L1 x0 x1 j1 nn yy) fuel () 0 = m_limnographref04_Same_L1 x0 x1 j1 fuel 0 := by dsimp only
  unfold scanL
  refine h0.symm.trans (hh _ _ ?_)
  intro nn ss ii hi
  show m_limnographref04_Same_L1 x0 x1 j1 (nn + 1) ii = _
  rw [m_limnographref04_Same_L1]
  by_cases h : ii < x0.length
  · rw [if_pos (by omega), dif_pos h]
    simp only [idx_at h, W64_up (show ii + 1 ≤ 9223372036854775807 by omega)]
  · rw [if_neg (by omega), dif_neg h]
set_option maxRecDepth 20000 in
theorem m_limnographlaw19_WalKeeps_L2_scan (x1 : (List Int)) (y178 : Int) (p194 : (Int × T_wal_Log × PD)) (y203 : (List (List UInt8))) (j11 : Int → PD → Option Bool) (y214 : Int) (y216 : PD) (hE : x1.length < 4611686018427387904) :
    m_limnographlaw19_WalKeeps_L2 x1 y178 p194 y203 j11 fuel y214 0 y216 = scanL x1 (y214, y216)
    (fun ii xx ss kk =>
    jn (fun (y220 : Int) (y221 : PD) =>
      (kk (y220, y221))) fun j12 =>
    (some xx).bind fun z223 =>
    jn (fun (y226 : Bool) (y227 : PD) =>
      (if y226 = true then
        (j12 (y203.length : Int) y227)
        else
        (j12 ss.1 y227))) fun j13 =>
    if z223 = y178 then
    ((m_wal_Log_Sync p194.2.1 ss.2).bind fun p231 =>
      j13 (decide (p231.1 = 0)) p231.2)
    else
    (j13 false ss.2))
    (fun ss =>
    j11 ss.1 ss.2) := by
  have hh := fun B J h => scan_eq x1 hE (fun nn (ss : (Int) × (PD)) (yy : Int) => m_limnographlaw19_WalKeeps_L2 x1 y178 p194 y203 j11 nn ss.1 yy ss.2) B J h (y214, y216)
  have h0 : (fun nn (ss : (Int) × (PD)) (yy : Int) => m_limnographlaw19_WalKeeps_L2 x1 y178 p194 y203 j11 nn ss.1 yy ss.2) fuel (y214, y216) 0 = m_limnographlaw19_WalKeeps_L2 x1 y178 p194 y203 j11 fuel y214 0 y216 := by dsimp only
  unfold scanL
  refine h0.symm.trans (hh _ _ ?_)
  intro nn ss ii hi
  show m_limnographlaw19_WalKeeps_L2 x1 y178 p194 y203 j11 (nn + 1) ss.1 ii ss.2 = _
  rw [m_limnographlaw19_WalKeeps_L2]
  by_cases h : ii < x1.length
  · rw [if_pos (by omega), dif_pos h]
    simp only [idx_at h, W64_up (show ii + 1 ≤ 9223372036854775807 by omega)]
  · rw [if_neg (by omega), dif_neg h]
set_option maxRecDepth 20000 in
theorem m_limnographlaw19_WalKeeps_L1_scan (x0 : (List (List UInt8))) (x1 : (List Int)) (j2 : (List (List UInt8)) → Int → PD → (Option T_wal_Log) → Option Bool) (y174 : (List (List UInt8))) (y177 : Int) (y179 : PD) (y180 : (Option T_wal_Log)) (hE : x0.length < 4611686018427387904) :
    m_limnographlaw19_WalKeeps_L1 x0 x1 j2 fuel y174 y177 0 y179 y180 = scanL x0 (y174, y177, y179, y180)
    (fun ii xx ss kk =>
    (ss.2.2.2).bind fun z186 =>
    (m_wal_Log_Size z186 ss.2.2.1).bind fun p185 =>
    (some xx).bind fun z189 =>
    (m_wal_Log_Append z186 z189 ss.2.2.1).bind fun p194 =>
    jn (fun (y203 : (List (List UInt8))) =>
      (jn (fun (y208 : Int) (y209 : PD) =>
          (kk (y203, y208, y209, (some p194.2.1)))) fun j11 =>
        m_limnographlaw19_WalKeeps_L2 x1 (ii : Int) p194 y203 j11 fuel ss.2.1 0 p194.2.2)) fun j10 =>
    if p194.1 = 0 then
    ((some xx).bind fun z237 =>
      (appL ss.1 [z237]).bind fun z242 =>
      j10 z242)
    else
    ((m_wal_Log_Size p194.2.1 p194.2.2).bind fun p244 =>
      if (p244 ≠ p185) ∨ ((p194.1 ≠ 12) ∧ (p194.1 ≠ 13)) then
      (some false)
      else
      (j10 ss.1)))
    (fun ss =>
    j2 ss.1 ss.2.1 ss.2.2.1 ss.2.2.2) := by
  have hh := fun B J h => scan_eq x0 hE (fun nn (ss : ((List (List UInt8))) × (Int) × (PD) × ((Option T_wal_Log))) (yy : Int) => m_limnographlaw19_WalKeeps_L1 x0 x1 j2 nn ss.1 ss.2.1 yy ss.2.2.1 ss.2.2.2) B J h (y174, y177, y179, y180)
  have h0 : (fun nn (ss : ((List (List UInt8))) × (Int) × (PD) × ((Option T_wal_Log))) (yy : Int) => m_limnographlaw19_WalKeeps_L1 x0 x1 j2 nn ss.1 ss.2.1 yy ss.2.2.1 ss.2.2.2) fuel (y174, y177, y179, y180) 0 = m_limnographlaw19_WalKeeps_L1 x0 x1 j2 fuel y174 y177 0 y179 y180 := by dsimp only
  unfold scanL
  refine h0.symm.trans (hh _ _ ?_)
  intro nn ss ii hi
  show m_limnographlaw19_WalKeeps_L1 x0 x1 j2 (nn + 1) ss.1 ss.2.1 ii ss.2.2.1 ss.2.2.2 = _
  rw [m_limnographlaw19_WalKeeps_L1]
  by_cases h : ii < x0.length
  · rw [if_pos (by omega), dif_pos h]
    simp only [idx_at h, W64_up (show ii + 1 ≤ 9223372036854775807 by omega)]
  · rw [if_neg (by omega), dif_neg h]
end Go.Proofs.Ytopknmmckcijkaa
