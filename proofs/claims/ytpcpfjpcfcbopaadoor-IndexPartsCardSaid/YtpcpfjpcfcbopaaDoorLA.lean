/-
  Loops over lists by their indices, told as scans. Printed by a program.
-/
import Derived.Test.YtpcpfjpcfcbopaaDoorMA
import Derived.Test.YtpcpfjpcfcbopaaDoorWp
set_option linter.unusedVariables false
set_option linter.unusedSimpArgs false
namespace Go.Proofs.YtpcpfjpcfcbopaaDoor
open Go Go.RowKit Go.Wk
set_option maxRecDepth 20000 in
theorem m_label_isName_L1_scan (z6 : (List UInt8)) (j2 : Unit → Option Bool) (hE : z6.length < 4611686018427387904) :
    m_label_isName_L1 z6 j2 fuel 0 = scanL z6 ()
    (fun ii xx ss kk =>
    (some xx).bind fun z12 =>
    (m_label_small z12).bind fun p14 =>
    if ((((!p14) = true) ∧ ((((z12).toNat : Int) < 48) ∨ (((z12).toNat : Int) > 57))) ∧ (((z12).toNat : Int) ≠ 95)) ∧ (((z12).toNat : Int) ≠ 46) then
    (some false)
    else
    (kk ()))
    (fun ss =>
    j2 ()) := scanQ hE (fun nn (ss : Unit) (yy : Int) => m_label_isName_L1 z6 j2 nn yy) ()
set_option maxRecDepth 20000 in
theorem m_label_isValue_L1_scan (z4 : (List UInt8)) (j1 : Unit → Option Bool) (hE : z4.length < 4611686018427387904) :
    m_label_isValue_L1 z4 j1 fuel 0 = scanL z4 ()
    (fun ii xx ss kk =>
    (some xx).bind fun z10 =>
    jn (fun (y12 : Bool) =>
      (if y12 = true then
        (some false)
        else
        (kk ()))) fun j2 =>
    if ((z10).toNat : Int) < 33 then
    (j2 (decide (((z10).toNat : Int) < 33)))
    else
    (if ((z10).toNat : Int) > 126 then
      (j2 (decide (((z10).toNat : Int) > 126)))
      else
      (if ((z10).toNat : Int) = 61 then
        (j2 (decide (((z10).toNat : Int) = 61)))
        else
        (if ((z10).toNat : Int) = 59 then
          (j2 (decide (((z10).toNat : Int) = 59)))
          else
          (j2 (decide (((z10).toNat : Int) = 44)))))))
    (fun ss =>
    j1 ()) := scanQ hE (fun nn (ss : Unit) (yy : Int) => m_label_isValue_L1 z4 j1 nn yy) ()
set_option maxRecDepth 20000 in
theorem m_label_follows_L1_scan (x0 : (List T_api_Pair)) (x1 : (List UInt8)) (j1 : Unit → Option Int) (hE : x0.length < 4611686018427387904) :
    m_label_follows_L1 x0 x1 j1 fuel 0 = scanL x0 ()
    (fun ii xx ss kk =>
    (some xx).bind fun z10 =>
    if z10.Key = x1 then
    (some 8)
    else
    (kk ()))
    (fun ss =>
    j1 ()) := scanQ hE (fun nn (ss : Unit) (yy : Int) => m_label_follows_L1 x0 x1 j1 nn yy) ()
set_option maxRecDepth 20000 in
theorem m_slices_IndexFunc_api_Pair_api_Pair_s1_L1_scan (x0 : (List T_api_Pair)) (x1_0 : T_api_Pair) (j1 : Unit → Option Int) (hE : x0.length < 4611686018427387904) :
    m_slices_IndexFunc_api_Pair_api_Pair_s1_L1 x0 x1_0 j1 fuel 0 = scanL x0 ()
    (fun ii xx ss kk =>
    (some xx).bind fun z9 =>
    (m_label_Check_1 z9 x1_0).bind fun p11 =>
    if p11 = true then
    (some (ii : Int))
    else
    (kk ()))
    (fun ss =>
    j1 ()) := scanQ hE (fun nn (ss : Unit) (yy : Int) => m_slices_IndexFunc_api_Pair_api_Pair_s1_L1 x0 x1_0 j1 nn yy) ()
set_option maxRecDepth 20000 in
theorem m_label_Check_L1_scan (x1 : (List T_api_Pair)) (j1 : Unit → Option Int) (hE : x1.length < 4611686018427387904) :
    m_label_Check_L1 x1 j1 fuel 0 = scanL x1 ()
    (fun ii xx ss kk =>
    (some xx).bind fun z11 =>
    (m_label_isName z11.Key).bind fun p18 =>
    jn (fun (y20 : Bool) =>
      (if y20 = true then
        (some 3)
        else
        ((cutL x1 0 (ii : Int)).bind fun z23 =>
          (m_slices_ContainsFunc_api_Pair_api_Pair_s2 z23 z11).bind fun p25 =>
          if p25 = true then
          (some 8)
          else
          (kk ())))) fun j2 =>
    if (!p18) = true then
    (j2 true)
    else
    ((m_label_isValue z11.Val).bind fun p29 =>
      j2 (!p29)))
    (fun ss =>
    j1 ()) := scanQ hE (fun nn (ss : Unit) (yy : Int) => m_label_Check_L1 x1 j1 nn yy) ()
set_option maxRecDepth 20000 in
theorem m_hist_Total_L2_scan (z23 : T_api_Side) (j2 : UInt64 → UInt64 → Option (UInt64 × Bool)) (y32 : UInt64) (y33 : UInt64) (hE : z23.Counts.length < 4611686018427387904) :
    m_hist_Total_L2 z23 j2 fuel y32 y33 0 = scanL z23.Counts (y32, y33)
    (fun ii xx ss kk =>
    (some xx).bind fun z37 =>
    kk ((ss.1 + z37), (ss.2 ||| (cry ss.1 z37))))
    (fun ss =>
    j2 ss.1 ss.2) := scanQ hE (fun nn (ss : (UInt64) × (UInt64)) (yy : Int) => m_hist_Total_L2 z23 j2 nn ss.1 ss.2 yy) (y32, y33)
set_option maxRecDepth 20000 in
theorem m_index_New_L2_scan (y20 : Int) (z53 : (List T_api_Pair)) (j4 : T_index_Index → Option ((Option T_index_Index) × Int × Int)) (y60 : T_index_Index) (hE : z53.length < 4611686018427387904) :
    m_index_New_L2 y20 z53 j4 fuel 0 y60 = scanL z53 y60
    (fun ii xx ss kk =>
    (some xx).bind fun z63 =>
    (appL (lookO z63 ss.rows) ([y20] : List Int)).bind fun z77 =>
    kk ({ keys := ss.keys, rows := (putO z63 z77 ss.rows) } : T_index_Index))
    (fun ss =>
    j4 ss) := scanQ hE (fun nn (ss : (T_index_Index)) (yy : Int) => m_index_New_L2 y20 z53 j4 nn yy ss) y60
set_option maxRecDepth 20000 in
theorem m_index_New_L1_scan (x0 : (List (List UInt8))) (j1 : T_index_Index → Option ((Option T_index_Index) × Int × Int)) (y21 : (Kv Int)) (y22 : T_index_Index) (hE : x0.length < 4611686018427387904) :
    m_index_New_L1 x0 j1 fuel 0 y21 y22 = scanL x0 (y21, y22)
    (fun ii xx ss kk =>
    (some xx).bind fun z25 =>
    (m_chunk_Series z25).bind fun p27 =>
    jn (fun (y36 : Bool) =>
      (jn (fun (y39 : Int) =>
          (if y39 ≠ 0 then
            (some ((none : Option T_index_Index), (ii : Int), y39))
            else
            ((appL ss.2.keys [z25]).bind fun z49 =>
              (appL p27.1.Attrs [({ Key := ([] : List UInt8), Val := p27.1.Name } : T_api_Pair)]).bind fun z53 =>
              jn (fun (y57 : T_index_Index) =>
                (kk ((putP z25 (W64 (((lookP z25 ss.1).getD 0) + 1)) ss.1), y57))) fun j4 =>
              m_index_New_L2 (ii : Int) z53 j4 fuel 0 ({ keys := z49, rows := ss.2.rows } : T_index_Index)))) fun j3 =>
        if y36 = true then
        (j3 8)
        else
        (j3 p27.2))) fun j2 =>
    if p27.2 = 0 then
    (j2 (decide (((lookP z25 ss.1).getD 0) > 0)))
    else
    (j2 false))
    (fun ss =>
    j1 ss.2) := scanQ hE (fun nn (ss : ((Kv Int)) × (T_index_Index)) (yy : Int) => m_index_New_L1 x0 j1 nn yy ss.1 ss.2) (y21, y22)
set_option maxRecDepth 20000 in
theorem m_index_Index_all_L1_scan (z9 : (List Int)) (j1 : (List Int) → Option (List Int)) (y13 : (List Int)) (hE : z9.length < 4611686018427387904) :
    m_index_Index_all_L1 z9 j1 fuel y13 0 = scanL z9 y13
    (fun ii xx ss kk =>
    (idx ss (ii : Int)).bind fun z17 =>
    kk (setI ss (ii : Int) (ii : Int)))
    (fun ss =>
    j1 ss) := scanQ hE (fun nn (ss : ((List Int))) (yy : Int) => m_index_Index_all_L1 z9 j1 nn ss yy) y13
set_option maxRecDepth 20000 in
theorem m_index_Index_ask_L1_scan (x0 : T_index_Index) (x1 : T_api_Match) (x2 : T_glob_Glob) (p8 : (List (List UInt8))) (j1 : (List Int) → (List Int) → Option (List Int)) (y41 : (List Int)) (y44 : (List Int)) (hE : p8.length < 4611686018427387904) :
    m_index_Index_ask_L1 x0 x1 x2 p8 j1 fuel y41 y44 0 = scanL p8 (y41, y44)
    (fun ii xx ss kk =>
    jn (fun (y54 : (List Int)) (y57 : (List Int)) =>
      (kk (y54, y57))) fun j3 =>
    (some xx).bind fun z61 =>
    (m_index_Or ss.2 (lookO ({ Key := x1.Key, Val := z61 } : T_api_Pair) x0.rows)).bind fun p71 =>
    (m_glob_Glob_Match x2 z61).bind fun p74 =>
    if p74 = true then
    ((m_index_Or ss.1 (lookO ({ Key := x1.Key, Val := z61 } : T_api_Pair) x0.rows)).bind fun p77 =>
      j3 p77 p71)
    else
    (j3 ss.1 p71))
    (fun ss =>
    j1 ss.1 ss.2) := scanQ hE (fun nn (ss : ((List Int)) × ((List Int))) (yy : Int) => m_index_Index_ask_L1 x0 x1 x2 p8 j1 nn ss.1 ss.2 yy) (y41, y44)
set_option maxRecDepth 20000 in
theorem m_index_Index_Select_L1_scan (x0 : T_index_Index) (x1 : (List T_api_Match)) (y7 : (List T_glob_Glob)) (j2 : (List Int) → Option ((List Int) × Int × Int)) (y20 : (List Int)) (hE : x1.length < 4611686018427387904) :
    m_index_Index_Select_L1 x0 x1 y7 j2 fuel y20 0 = scanL x1 y20
    (fun ii xx ss kk =>
    (some xx).bind fun z26 =>
    (idx y7 (ii : Int)).bind fun z34 =>
    (m_index_Index_ask x0 z26 z34).bind fun p37 =>
    (m_index_And ss p37).bind fun p40 =>
    kk p40)
    (fun ss =>
    j2 ss) := scanQ hE (fun nn (ss : ((List Int))) (yy : Int) => m_index_Index_Select_L1 x0 x1 y7 j2 nn ss yy) y20
set_option maxRecDepth 20000 in
theorem m_index_Index_Select_L2_scan (x1 : (List T_api_Match)) (j1 : (List T_glob_Glob) → Option ((List Int) × Int × Int)) (y43 : (List T_glob_Glob)) (hE : x1.length < 4611686018427387904) :
    m_index_Index_Select_L2 x1 j1 fuel y43 0 = scanL x1 y43
    (fun ii xx ss kk =>
    (some xx).bind fun z51 =>
    (m_glob_Compile z51.Glob).bind fun p58 =>
    jn (fun (y64 : Bool) =>
      (jn (fun (y67 : Int) =>
          (if y67 ≠ 0 then
            (some (([] : List Int), (ii : Int), y67))
            else
            ((p58.1).bind fun z72 =>
              (appL ss [z72]).bind fun z74 =>
              kk z74))) fun j4 =>
        if y64 = true then
        (j4 3)
        else
        (j4 p58.2.2))) fun j3 =>
    if (p58.2.2 = 0) ∧ (z51.Key ≠ ([] : List UInt8)) then
    ((m_label_Check z51.Key ([] : List T_api_Pair)).bind fun p79 =>
      j3 (decide (p79 ≠ 0)))
    else
    (j3 false))
    (fun ss =>
    j1 ss) := scanQ hE (fun nn (ss : ((List T_glob_Glob))) (yy : Int) => m_index_Index_Select_L2 x1 j1 nn ss yy) y43
set_option maxRecDepth 20000 in
theorem m_index_Bytes_L1_scan (x0 : (List Int)) (j3 : T_pack_Writer → Option ((List UInt8) × Int)) (y21 : Int) (y23 : T_pack_Writer) (hE : x0.length < 4611686018427387904) :
    m_index_Bytes_L1 x0 j3 fuel y21 0 y23 = scanL x0 (y21, y23)
    (fun ii xx ss kk =>
    (some xx).bind fun z26 =>
    (m_pack_Writer_Num ss.2 (toU64 (W64 ((W64 (z26 - ss.1)) - 1)))).bind fun p28 =>
    kk (z26, p28))
    (fun ss =>
    j3 ss.2) := scanQ hE (fun nn (ss : (Int) × (T_pack_Writer)) (yy : Int) => m_index_Bytes_L1 x0 j3 nn ss.1 yy ss.2) (y21, y23)
set_option maxRecDepth 20000 in
theorem m_index_Bytes_L2_scan (x0 : (List Int)) (j1 : Unit → Option ((List UInt8) × Int)) (hE : x0.length < 4611686018427387904) :
    m_index_Bytes_L2 x0 j1 fuel 0 = scanL x0 ()
    (fun ii xx ss kk =>
    (some xx).bind fun z41 =>
    jn (fun (y43 : Bool) =>
      (if y43 = true then
        (some (([] : List UInt8), 9))
        else
        (kk ()))) fun j5 =>
    if z41 < 0 then
    (j5 true)
    else
    (jn (fun (y49 : Bool) =>
        (j5 y49)) fun j6 =>
      if (ii : Int) > 0 then
      ((idx x0 (W64 ((ii : Int) - 1))).bind fun z52 =>
        j6 (decide (z41 ≤ z52)))
      else
      (j6 false)))
    (fun ss =>
    j1 ()) := scanQ hE (fun nn (ss : Unit) (yy : Int) => m_index_Bytes_L2 x0 j1 nn yy) ()
set_option maxRecDepth 20000 in
theorem m_limnographref35_Row_L1_scan (x0 : (List Int)) (j1 : Unit → Option Bool) (hE : x0.length < 4611686018427387904) :
    m_limnographref35_Row_L1 x0 j1 fuel 0 = scanL x0 ()
    (fun ii xx ss kk =>
    jn (fun (y7 : Bool) =>
      (if y7 = true then
        (some false)
        else
        (kk ()))) fun j2 =>
    (some xx).bind fun z11 =>
    if z11 < 0 then
    (j2 true)
    else
    (if (ii : Int) > 0 then
      ((some xx).bind fun z16 =>
        (idx x0 (W64 ((ii : Int) - 1))).bind fun z19 =>
        j2 (decide (z16 ≤ z19)))
      else
      (j2 false)))
    (fun ss =>
    j1 ()) := scanQ hE (fun nn (ss : Unit) (yy : Int) => m_limnographref35_Row_L1 x0 j1 nn yy) ()
set_option maxRecDepth 20000 in
theorem m_limnographref35_In_L1_scan (x0 : (List Int)) (x1 : Int) (j1 : Unit → Option Bool) (hE : x0.length < 4611686018427387904) :
    m_limnographref35_In_L1 x0 x1 j1 fuel 0 = scanL x0 ()
    (fun ii xx ss kk =>
    (some xx).bind fun z7 =>
    if z7 = x1 then
    (some true)
    else
    (kk ()))
    (fun ss =>
    j1 ()) := scanQ hE (fun nn (ss : Unit) (yy : Int) => m_limnographref35_In_L1 x0 x1 j1 nn yy) ()
set_option maxRecDepth 20000 in
theorem m_limnographlaw35_IndexRows_L1_scan (x0 : (List Int)) (x1 : (List Int)) (p13 : (List Int)) (p16 : (List Int)) (p19 : (List Int)) (z43 : (List Int)) (j6 : Unit → Option Bool) (hE : z43.length < 4611686018427387904) :
    m_limnographlaw35_IndexRows_L1 x0 x1 p13 p16 p19 z43 j6 fuel 0 = scanL z43 ()
    (fun ii xx ss kk =>
    (some xx).bind fun z49 =>
    (m_limnographref35_In x0 z49).bind fun p50 =>
    (m_limnographref35_In x1 z49).bind fun p52 =>
    (m_limnographref35_In p13 z49).bind fun p54 =>
    jn (fun (y58 : Bool) =>
      (jn (fun (y60 : Bool) =>
          (if y60 = true then
            (some false)
            else
            (kk ()))) fun j8 =>
        if y58 = true then
        (j8 true)
        else
        ((m_limnographref35_In p19 z49).bind fun p64 =>
          j8 (decide (p64 ≠ decide ((p50 = true) ∧ ((!p52) = true))))))) fun j7 =>
    if p54 ≠ decide ((p50 = true) ∧ (p52 = true)) then
    (j7 true)
    else
    ((m_limnographref35_In p16 z49).bind fun p69 =>
      j7 (decide (p69 ≠ decide ((p50 = true) ∨ (p52 = true))))))
    (fun ss =>
    j6 ()) := scanQ hE (fun nn (ss : Unit) (yy : Int) => m_limnographlaw35_IndexRows_L1 x0 x1 p13 p16 p19 z43 j6 nn yy) ()
set_option maxRecDepth 20000 in
theorem m_limnographref34_Few_L1_scan (x0 : (List (List UInt8))) (j1 : Unit → Option Bool) (hE : x0.length < 4611686018427387904) :
    m_limnographref34_Few_L1 x0 j1 fuel 0 = scanL x0 ()
    (fun ii xx ss kk =>
    (some xx).bind fun z8 =>
    if (z8.length : Int) > 500 then
    (some false)
    else
    (kk ()))
    (fun ss =>
    j1 ()) := scanQ hE (fun nn (ss : Unit) (yy : Int) => m_limnographref34_Few_L1 x0 j1 nn yy) ()
set_option maxRecDepth 20000 in
theorem m_limnographref35_Few_L1_scan (x0 : (List T_api_Match)) (j1 : Unit → Option Bool) (hE : x0.length < 4611686018427387904) :
    m_limnographref35_Few_L1 x0 j1 fuel 0 = scanL x0 ()
    (fun ii xx ss kk =>
    (some xx).bind fun z8 =>
    jn (fun (y10 : Bool) =>
      (if y10 = true then
        (some false)
        else
        (kk ()))) fun j2 =>
    if (z8.Glob.length : Int) > 70 then
    (j2 true)
    else
    ((some xx).bind fun z14 =>
      j2 (decide ((z14.Key.length : Int) > 100))))
    (fun ss =>
    j1 ()) := scanQ hE (fun nn (ss : Unit) (yy : Int) => m_limnographref35_Few_L1 x0 j1 nn yy) ()
set_option maxRecDepth 20000 in
theorem m_limnographref35_Same_L1_scan (x0 : (List Int)) (x1 : (List Int)) (j1 : Unit → Option Bool) (hE : x0.length < 4611686018427387904) :
    m_limnographref35_Same_L1 x0 x1 j1 fuel 0 = scanL x0 ()
    (fun ii xx ss kk =>
    (some xx).bind fun z11 =>
    (idx x1 (ii : Int)).bind fun z14 =>
    if z11 ≠ z14 then
    (some false)
    else
    (kk ()))
    (fun ss =>
    j1 ()) := scanQ hE (fun nn (ss : Unit) (yy : Int) => m_limnographref35_Same_L1 x0 x1 j1 nn yy) ()
end Go.Proofs.YtpcpfjpcfcbopaaDoor
