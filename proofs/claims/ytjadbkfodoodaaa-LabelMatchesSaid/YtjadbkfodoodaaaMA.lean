/-
  Plain forms of functions of the program: what each computes, told over lists and numbers. Printed by a program.
-/
import Derived.Test.YtjadbkfodoodaaaWn
namespace Go.Proofs.Ytjadbkfodoodaaa
open Go Go.RowKit Go.Wk
structure T_api_Pair where
  Key : (List UInt8)
  Val : (List UInt8)
  deriving DecidableEq
def T_api_Pair.rep : Rep T_api_Pair := Rep.map (fun x => (x.Key, x.Val)) (Rep.two textR textR)
theorem T_api_Pair.flat : T_api_Pair.rep.Flat := map_flat _ (two_flat text_flat text_flat)
structure T_limnographref11_Got where
  Name : (List UInt8)
  Attrs : (List T_api_Pair)
  At : Int
  E : Int
  deriving DecidableEq
def T_limnographref11_Got.rep : Rep T_limnographref11_Got := Rep.map (fun x => (x.Name, (x.Attrs, (x.At, x.E)))) (Rep.two textR (Rep.two (Rep.sl T_api_Pair.rep) (Rep.two (intR .i64) (intR .i64))))
def m_label_small (x0 : UInt8) : Option Bool :=
  some (decide ((((x0).toNat : Int) ≥ 97) ∧ (((x0).toNat : Int) ≤ 122)))
def m_label_isName_L1 (z6 : (List UInt8)) (j2 : Unit → Option Bool) : Nat → Int → Option Bool
  | 0, _ => none
  | n + 1, y9 =>
    if y9 < (z6.length : Int) then
    ((idx z6 y9).bind fun z12 =>
      (m_label_small z12).bind fun p14 =>
      if ((((!p14) = true) ∧ ((((z12).toNat : Int) < 48) ∨ (((z12).toNat : Int) > 57))) ∧ (((z12).toNat : Int) ≠ 95)) ∧ (((z12).toNat : Int) ≠ 46) then
      (some false)
      else
      (m_label_isName_L1 z6 j2 n (W64 (y9 + 1))))
    else
    (j2 ())
def m_label_isName (x0 : (List UInt8)) : Option Bool :=
  jn (fun (y3 : Bool) =>
    (if y3 = true then
      (some false)
      else
      ((lenS x0).bind fun z6 =>
        jn (fun (_ : Unit) =>
          (some true)) fun j2 =>
        m_label_isName_L1 z6 j2 fuel 0))) fun j1 =>
  if (x0 = ([] : List UInt8)) ∨ ((x0.length : Int) > 32) then
  (j1 true)
  else
  ((idx x0 0).bind fun z26 =>
    (m_label_small z26).bind fun p27 =>
    j1 (!p27))
def m_label_isValue_L1 (z4 : (List UInt8)) (j1 : Unit → Option Bool) : Nat → Int → Option Bool
  | 0, _ => none
  | n + 1, y7 =>
    if y7 < (z4.length : Int) then
    ((idx z4 y7).bind fun z10 =>
      jn (fun (y12 : Bool) =>
        (if y12 = true then
          (some false)
          else
          (m_label_isValue_L1 z4 j1 n (W64 (y7 + 1))))) fun j2 =>
      if ((z10).toNat : Int) < 33 then
      (j2 (decide (((z10).toNat : Int) < 33)))
      else
      (if ((z10).toNat : Int) > 126 then
        (j2 (decide (((z10).toNat : Int) > 126)))
        else
        (if ((z10).toNat : Int) = 61 then
          (j2 (decide (((z10).toNat : Int) = 61)))
          else
          (if ((z10).toNat : Int) = 59 then
            (j2 (decide (((z10).toNat : Int) = 59)))
            else
            (j2 (decide (((z10).toNat : Int) = 44)))))))
    else
    (j1 ())
def m_label_isValue (x0 : (List UInt8)) : Option Bool :=
  if (x0 = ([] : List UInt8)) ∨ ((x0.length : Int) > 32) then
  (some false)
  else
  ((lenS x0).bind fun z4 =>
    jn (fun (_ : Unit) =>
      (some true)) fun j1 =>
    m_label_isValue_L1 z4 j1 fuel 0)
def m_label_Check_1 (x0 : T_api_Pair) (x1 : T_api_Pair) : Option Bool :=
  some (decide (x0.Key = x1.Key))
def m_slices_IndexFunc_api_Pair_api_Pair_s1_L1 (x0 : (List T_api_Pair)) (x1_0 : T_api_Pair) (j1 : Unit → Option Int) : Nat → Int → Option Int
  | 0, _ => none
  | n + 1, y6 =>
    if y6 < (x0.length : Int) then
    ((idx x0 y6).bind fun z9 =>
      (m_label_Check_1 z9 x1_0).bind fun p11 =>
      if p11 = true then
      (some y6)
      else
      (m_slices_IndexFunc_api_Pair_api_Pair_s1_L1 x0 x1_0 j1 n (W64 (y6 + 1))))
    else
    (j1 ())
def m_slices_IndexFunc_api_Pair_api_Pair_s1 (x0 : (List T_api_Pair)) (x1_0 : T_api_Pair) : Option Int :=
  jn (fun (_ : Unit) =>
    (some (-1))) fun j1 =>
  m_slices_IndexFunc_api_Pair_api_Pair_s1_L1 x0 x1_0 j1 fuel 0
def m_slices_ContainsFunc_api_Pair_api_Pair_s2 (x0 : (List T_api_Pair)) (x1_0 : T_api_Pair) : Option Bool :=
  (m_slices_IndexFunc_api_Pair_api_Pair_s1 x0 x1_0).bind fun p5 =>
  some (decide (p5 ≥ 0))
def m_label_Check_L1 (x1 : (List T_api_Pair)) (j1 : Unit → Option Int) : Nat → Int → Option Int
  | 0, _ => none
  | n + 1, y8 =>
    if y8 < (x1.length : Int) then
    ((idx x1 y8).bind fun z11 =>
      (m_label_isName z11.Key).bind fun p18 =>
      jn (fun (y20 : Bool) =>
        (if y20 = true then
          (some 3)
          else
          ((cutL x1 0 y8).bind fun z23 =>
            (m_slices_ContainsFunc_api_Pair_api_Pair_s2 z23 z11).bind fun p25 =>
            if p25 = true then
            (some 8)
            else
            (m_label_Check_L1 x1 j1 n (W64 (y8 + 1)))))) fun j2 =>
      if (!p18) = true then
      (j2 true)
      else
      ((m_label_isValue z11.Val).bind fun p29 =>
        j2 (!p29)))
    else
    (j1 ())
def m_label_Check (x0 : (List UInt8)) (x1 : (List T_api_Pair)) : Option Int :=
  (m_label_isName x0).bind fun p3 =>
  if (!p3) = true then
  (some 3)
  else
  (if (x1.length : Int) > 4 then
    (some 4)
    else
    (jn (fun (_ : Unit) =>
        (some 0)) fun j1 =>
      m_label_Check_L1 x1 j1 fuel 0))
def m_cmp_isNaN_string (x0 : (List UInt8)) : Option Bool :=
  some (decide (x0 ≠ x0))
def m_cmp_Compare_string (x0 : (List UInt8)) (x1 : (List UInt8)) : Option Int :=
  (m_cmp_isNaN_string x0).bind fun p1 =>
  (m_cmp_isNaN_string x1).bind fun p3 =>
  if p1 = true then
  (if p3 = true then
    (some 0)
    else
    (some (-1)))
  else
  (if p3 = true then
    (some 1)
    else
    (if (Op.bytesLess x0 x1) = true then
      (some (-1))
      else
      (if (Op.bytesLess x1 x0) = true then
        (some 1)
        else
        (some 0))))
def m_label_Sorted_1 (x0 : T_api_Pair) (x1 : T_api_Pair) : Option Int :=
  (m_cmp_Compare_string x0.Key x1.Key).bind fun p7 =>
  some p7
def m_slices_insertionSortCmpFunc_api_Pair_s2_L2 (x1 : Int) (j2 : (List T_api_Pair) → Option (List T_api_Pair)) : Nat → (List T_api_Pair) → Int → Option (List T_api_Pair)
  | 0, _, _ => none
  | n + 1, y10, y11 =>
    jn (fun (y13 : Bool) =>
      (if y13 = true then
        ((idx y10 (W64 (y11 - 1))).bind fun z17 =>
          (idx y10 y11).bind fun z18 =>
          (idx y10 y11).bind fun z20 =>
          (idx (setI y10 y11 z17) (W64 (y11 - 1))).bind fun z22 =>
          m_slices_insertionSortCmpFunc_api_Pair_s2_L2 x1 j2 n (setI (setI y10 y11 z17) (W64 (y11 - 1)) z18) (W64 (y11 - 1)))
        else
        (j2 y10))) fun j3 =>
    if y11 > x1 then
    ((idx y10 y11).bind fun z30 =>
      (idx y10 (W64 (y11 - 1))).bind fun z31 =>
      (m_label_Sorted_1 z30 z31).bind fun p32 =>
      j3 (decide (p32 < 0)))
    else
    (j3 false)
def m_slices_insertionSortCmpFunc_api_Pair_s2_L1 (x1 : Int) (x2 : Int) (j1 : (List T_api_Pair) → Option (List T_api_Pair)) : Nat → (List T_api_Pair) → Int → Option (List T_api_Pair)
  | 0, _, _ => none
  | n + 1, y4, y5 =>
    if y5 < x2 then
    (jn (fun (y8 : (List T_api_Pair)) =>
        (m_slices_insertionSortCmpFunc_api_Pair_s2_L1 x1 x2 j1 n y8 (W64 (y5 + 1)))) fun j2 =>
      m_slices_insertionSortCmpFunc_api_Pair_s2_L2 x1 j2 fuel y4 y5)
    else
    (j1 y4)
def m_slices_insertionSortCmpFunc_api_Pair_s2 (x0 : (List T_api_Pair)) (x1 : Int) (x2 : Int) : Option (List T_api_Pair) :=
  jn (fun (y2 : (List T_api_Pair)) =>
    (some y2)) fun j1 =>
  m_slices_insertionSortCmpFunc_api_Pair_s2_L1 x1 x2 j1 fuel x0 (W64 (x1 + 1))
def m_slices_swapRangeCmpFunc_api_Pair_s2_L1 (x1 : Int) (x2 : Int) (x3 : Int) (j1 : (List T_api_Pair) → Option (List T_api_Pair)) : Nat → (List T_api_Pair) → Int → Option (List T_api_Pair)
  | 0, _, _ => none
  | n + 1, y4, y5 =>
    if y5 < x3 then
    ((idx y4 (W64 (x2 + y5))).bind fun z9 =>
      (idx y4 (W64 (x1 + y5))).bind fun z10 =>
      (idx y4 (W64 (x1 + y5))).bind fun z12 =>
      (idx (setI y4 (W64 (x1 + y5)) z9) (W64 (x2 + y5))).bind fun z14 =>
      m_slices_swapRangeCmpFunc_api_Pair_s2_L1 x1 x2 x3 j1 n (setI (setI y4 (W64 (x1 + y5)) z9) (W64 (x2 + y5)) z10) (W64 (y5 + 1)))
    else
    (j1 y4)
def m_slices_swapRangeCmpFunc_api_Pair_s2 (x0 : (List T_api_Pair)) (x1 : Int) (x2 : Int) (x3 : Int) : Option (List T_api_Pair) :=
  jn (fun (y2 : (List T_api_Pair)) =>
    (some y2)) fun j1 =>
  m_slices_swapRangeCmpFunc_api_Pair_s2_L1 x1 x2 x3 j1 fuel x0 0
def m_slices_rotateCmpFunc_api_Pair_s2_L1 (x2 : Int) (j1 : (List T_api_Pair) → Int → Option (List T_api_Pair)) : Nat → (List T_api_Pair) → Int → Int → Option (List T_api_Pair)
  | 0, _, _, _ => none
  | n + 1, y9, y10, y11 =>
    if y10 ≠ y11 then
    (if y10 > y11 then
      ((m_slices_swapRangeCmpFunc_api_Pair_s2 y9 (W64 (x2 - y10)) x2 y11).bind fun p15 =>
        m_slices_rotateCmpFunc_api_Pair_s2_L1 x2 j1 n p15 (W64 (y10 - y11)) y11)
      else
      ((m_slices_swapRangeCmpFunc_api_Pair_s2 y9 (W64 (x2 - y10)) (W64 ((W64 (x2 + y11)) - y10)) y10).bind fun p19 =>
        m_slices_rotateCmpFunc_api_Pair_s2_L1 x2 j1 n p19 y10 (W64 (y11 - y10))))
    else
    (j1 y9 y10)
def m_slices_rotateCmpFunc_api_Pair_s2 (x0 : (List T_api_Pair)) (x1 : Int) (x2 : Int) (x3 : Int) : Option (List T_api_Pair) :=
  jn (fun (y2 : (List T_api_Pair)) (y3 : Int) =>
    ((m_slices_swapRangeCmpFunc_api_Pair_s2 y2 (W64 (x2 - y3)) x2 y3).bind fun p5 =>
      some p5)) fun j1 =>
  m_slices_rotateCmpFunc_api_Pair_s2_L1 x2 j1 fuel x0 (W64 (x2 - x1)) (W64 (x3 - x2))
def m_slices_symMergeCmpFunc_api_Pair_s2_L1 (y3 : Int) (j2 : (List T_api_Pair) → Option (List T_api_Pair)) : Nat → (List T_api_Pair) → Int → Option (List T_api_Pair)
  | 0, _, _ => none
  | n + 1, y7, y8 =>
    if y8 < W64 (y3 - 1) then
    ((idx y7 (W64 (y8 + 1))).bind fun z12 =>
      (idx y7 y8).bind fun z13 =>
      (idx y7 y8).bind fun z15 =>
      (idx (setI y7 y8 z12) (W64 (y8 + 1))).bind fun z17 =>
      m_slices_symMergeCmpFunc_api_Pair_s2_L1 y3 j2 n (setI (setI y7 y8 z12) (W64 (y8 + 1)) z13) (W64 (y8 + 1)))
    else
    (j2 y7)
def m_slices_symMergeCmpFunc_api_Pair_s2_L2 (x0 : (List T_api_Pair)) (x1 : Int) (j1 : Int → Option (List T_api_Pair)) : Nat → Int → Int → Option (List T_api_Pair)
  | 0, _, _ => none
  | n + 1, y23, y24 =>
    if y23 < y24 then
    ((idx x0 (W64 (((toU64 (W64 (y23 + y24))) >>> UInt64.ofNat 1).toNat : Int))).bind fun z28 =>
      (idx x0 x1).bind fun z29 =>
      (m_label_Sorted_1 z28 z29).bind fun p30 =>
      if p30 < 0 then
      (m_slices_symMergeCmpFunc_api_Pair_s2_L2 x0 x1 j1 n (W64 ((W64 (((toU64 (W64 (y23 + y24))) >>> UInt64.ofNat 1).toNat : Int)) + 1)) y24)
      else
      (m_slices_symMergeCmpFunc_api_Pair_s2_L2 x0 x1 j1 n y23 (W64 (((toU64 (W64 (y23 + y24))) >>> UInt64.ofNat 1).toNat : Int))))
    else
    (j1 y23)
def m_slices_symMergeCmpFunc_api_Pair_s2_L3 (y34 : Int) (j4 : (List T_api_Pair) → Option (List T_api_Pair)) : Nat → (List T_api_Pair) → Int → Option (List T_api_Pair)
  | 0, _, _ => none
  | n + 1, y38, y39 =>
    if y39 > y34 then
    ((idx y38 (W64 (y39 - 1))).bind fun z43 =>
      (idx y38 y39).bind fun z44 =>
      (idx y38 y39).bind fun z46 =>
      (idx (setI y38 y39 z43) (W64 (y39 - 1))).bind fun z48 =>
      m_slices_symMergeCmpFunc_api_Pair_s2_L3 y34 j4 n (setI (setI y38 y39 z43) (W64 (y39 - 1)) z44) (W64 (y39 - 1)))
    else
    (j4 y38)
def m_slices_symMergeCmpFunc_api_Pair_s2_L4 (x0 : (List T_api_Pair)) (x2 : Int) (j3 : Int → Option (List T_api_Pair)) : Nat → Int → Int → Option (List T_api_Pair)
  | 0, _, _ => none
  | n + 1, y54, y55 =>
    if y54 < y55 then
    ((idx x0 x2).bind fun z59 =>
      (idx x0 (W64 (((toU64 (W64 (y54 + y55))) >>> UInt64.ofNat 1).toNat : Int))).bind fun z60 =>
      (m_label_Sorted_1 z59 z60).bind fun p61 =>
      if ¬ (p61 < 0) then
      (m_slices_symMergeCmpFunc_api_Pair_s2_L4 x0 x2 j3 n (W64 ((W64 (((toU64 (W64 (y54 + y55))) >>> UInt64.ofNat 1).toNat : Int)) + 1)) y55)
      else
      (m_slices_symMergeCmpFunc_api_Pair_s2_L4 x0 x2 j3 n y54 (W64 (((toU64 (W64 (y54 + y55))) >>> UInt64.ofNat 1).toNat : Int))))
    else
    (j3 y54)
def m_slices_symMergeCmpFunc_api_Pair_s2_L5 (x0 : (List T_api_Pair)) (x1 : Int) (x2 : Int) (x3 : Int) (j6 : Int → Option (List T_api_Pair)) : Nat → Int → Int → Option (List T_api_Pair)
  | 0, _, _ => none
  | n + 1, y87, y88 =>
    if y87 < y88 then
    ((idx x0 (W64 ((W64 ((W64 ((W64 (((toU64 (W64 (x1 + x3))) >>> UInt64.ofNat 1).toNat : Int)) + x2)) - 1)) - (W64 (((toU64 (W64 (y87 + y88))) >>> UInt64.ofNat 1).toNat : Int))))).bind fun z92 =>
      (idx x0 (W64 (((toU64 (W64 (y87 + y88))) >>> UInt64.ofNat 1).toNat : Int))).bind fun z93 =>
      (m_label_Sorted_1 z92 z93).bind fun p94 =>
      if ¬ (p94 < 0) then
      (m_slices_symMergeCmpFunc_api_Pair_s2_L5 x0 x1 x2 x3 j6 n (W64 ((W64 (((toU64 (W64 (y87 + y88))) >>> UInt64.ofNat 1).toNat : Int)) + 1)) y88)
      else
      (m_slices_symMergeCmpFunc_api_Pair_s2_L5 x0 x1 x2 x3 j6 n y87 (W64 (((toU64 (W64 (y87 + y88))) >>> UInt64.ofNat 1).toNat : Int))))
    else
    (j6 y87)
def m_slices_symMergeCmpFunc_api_Pair_s2 (x0 : (List T_api_Pair)) (x1 : Int) (x2 : Int) (x3 : Int) : Option (List T_api_Pair) :=
  if W64 (x2 - x1) = 1 then
  (jn (fun (y3 : Int) =>
      (jn (fun (y5 : (List T_api_Pair)) =>
          (some y5)) fun j2 =>
        m_slices_symMergeCmpFunc_api_Pair_s2_L1 y3 j2 fuel x0 x1)) fun j1 =>
    m_slices_symMergeCmpFunc_api_Pair_s2_L2 x0 x1 j1 fuel x2 x3)
  else
  (if W64 (x3 - x2) = 1 then
    (jn (fun (y34 : Int) =>
        (jn (fun (y36 : (List T_api_Pair)) =>
            (some y36)) fun j4 =>
          m_slices_symMergeCmpFunc_api_Pair_s2_L3 y34 j4 fuel x0 x2)) fun j3 =>
      m_slices_symMergeCmpFunc_api_Pair_s2_L4 x0 x2 j3 fuel x1 x2)
    else
    (jn (fun (y64 : Int) (y65 : Int) =>
        (jn (fun (y67 : Int) =>
            (jn (fun (y71 : (List T_api_Pair)) =>
                (jn (fun (_ : Unit) =>
                    (if (W64 (((toU64 (W64 (x1 + x3))) >>> UInt64.ofNat 1).toNat : Int) < W64 ((W64 ((W64 (((toU64 (W64 (x1 + x3))) >>> UInt64.ofNat 1).toNat : Int)) + x2)) - y67)) ∧ (W64 ((W64 ((W64 (((toU64 (W64 (x1 + x3))) >>> UInt64.ofNat 1).toNat : Int)) + x2)) - y67) < x3) then
                      (none)
                      else
                      (some y71))) fun j8 =>
                  if (x1 < y67) ∧ (y67 < W64 (((toU64 (W64 (x1 + x3))) >>> UInt64.ofNat 1).toNat : Int)) then
                  (none)
                  else
                  (j8 ()))) fun j7 =>
              if (y67 < x2) ∧ (x2 < W64 ((W64 ((W64 (((toU64 (W64 (x1 + x3))) >>> UInt64.ofNat 1).toNat : Int)) + x2)) - y67)) then
              ((m_slices_rotateCmpFunc_api_Pair_s2 x0 y67 x2 (W64 ((W64 ((W64 (((toU64 (W64 (x1 + x3))) >>> UInt64.ofNat 1).toNat : Int)) + x2)) - y67))).bind fun p83 =>
                j7 p83)
              else
              (j7 x0))) fun j6 =>
          m_slices_symMergeCmpFunc_api_Pair_s2_L5 x0 x1 x2 x3 j6 fuel y64 y65)) fun j5 =>
      if x2 > W64 (((toU64 (W64 (x1 + x3))) >>> UInt64.ofNat 1).toNat : Int) then
      (j5 (W64 ((W64 ((W64 (((toU64 (W64 (x1 + x3))) >>> UInt64.ofNat 1).toNat : Int)) + x2)) - x3)) (W64 (((toU64 (W64 (x1 + x3))) >>> UInt64.ofNat 1).toNat : Int)))
      else
      (j5 x1 x2)))
def m_slices_stableCmpFunc_api_Pair_s1_L2 (x1 : Int) (y12 : Int) (j3 : (List T_api_Pair) → Int → Option (List T_api_Pair)) : Nat → (List T_api_Pair) → Int → Int → Option (List T_api_Pair)
  | 0, _, _, _ => none
  | n + 1, y25, y26, y27 =>
    if y27 ≤ x1 then
    ((m_slices_symMergeCmpFunc_api_Pair_s2 y25 y26 (W64 (y26 + y12)) y27).bind fun p30 =>
      m_slices_stableCmpFunc_api_Pair_s1_L2 x1 y12 j3 n p30 y27 (W64 (y27 + (W64 (2 * y12)))))
    else
    (j3 y25 y26)
def m_slices_stableCmpFunc_api_Pair_s1_L1 (x1 : Int) (j2 : (List T_api_Pair) → Option (List T_api_Pair)) : Nat → (List T_api_Pair) → Int → Option (List T_api_Pair)
  | 0, _, _ => none
  | n + 1, y11, y12 =>
    if y12 < x1 then
    (jn (fun (y15 : (List T_api_Pair)) (y16 : Int) =>
        (jn (fun (y18 : (List T_api_Pair)) =>
            (m_slices_stableCmpFunc_api_Pair_s1_L1 x1 j2 n y18 (W64 (y12 * 2)))) fun j4 =>
          if W64 (y16 + y12) < x1 then
          ((m_slices_symMergeCmpFunc_api_Pair_s2 y15 y16 (W64 (y16 + y12)) x1).bind fun p21 =>
            j4 p21)
          else
          (j4 y15))) fun j3 =>
      m_slices_stableCmpFunc_api_Pair_s1_L2 x1 y12 j3 fuel y11 0 (W64 (2 * y12)))
    else
    (j2 y11)
def m_slices_stableCmpFunc_api_Pair_s1_L3 (x1 : Int) (j1 : (List T_api_Pair) → Int → Option (List T_api_Pair)) : Nat → (List T_api_Pair) → Int → Int → Option (List T_api_Pair)
  | 0, _, _, _ => none
  | n + 1, y34, y35, y36 =>
    if y36 ≤ x1 then
    ((m_slices_insertionSortCmpFunc_api_Pair_s2 y34 y35 y36).bind fun p39 =>
      m_slices_stableCmpFunc_api_Pair_s1_L3 x1 j1 n p39 y36 (W64 (y36 + 20)))
    else
    (j1 y34 y35)
def m_slices_stableCmpFunc_api_Pair_s1 (x0 : (List T_api_Pair)) (x1 : Int) : Option (List T_api_Pair) :=
  jn (fun (y2 : (List T_api_Pair)) (y3 : Int) =>
    ((m_slices_insertionSortCmpFunc_api_Pair_s2 y2 y3 x1).bind fun p5 =>
      jn (fun (y9 : (List T_api_Pair)) =>
        (some y9)) fun j2 =>
      m_slices_stableCmpFunc_api_Pair_s1_L1 x1 j2 fuel p5 20)) fun j1 =>
  m_slices_stableCmpFunc_api_Pair_s1_L3 x1 j1 fuel x0 0 20
def m_slices_SortStableFunc_api_Pair_api_Pair_s1 (x0 : (List T_api_Pair)) : Option (List T_api_Pair) :=
  (m_slices_stableCmpFunc_api_Pair_s1 x0 (x0.length : Int)).bind fun p2 =>
  some p2
def m_label_Sorted (x0 : (List T_api_Pair)) : Option (List T_api_Pair) :=
  (appL [] x0).bind fun z3 =>
  (m_slices_SortStableFunc_api_Pair_api_Pair_s1 z3).bind fun p6 =>
  some p6
def m_label_Text_L1 (p13 : (List T_api_Pair)) (j1 : (List UInt8) → Option ((List UInt8) × Int)) : Nat → Int → (List UInt8) → Option ((List UInt8) × Int)
  | 0, _, _ => none
  | n + 1, y22, y23 =>
    if y22 < (p13.length : Int) then
    ((idx p13 y22).bind fun z27 =>
      (catS ([59] : List UInt8) z27.Key).bind fun z31 =>
      (catS z31 ([61] : List UInt8)).bind fun z32 =>
      (catS z32 z27.Val).bind fun z33 =>
      (appL y23 z33).bind fun z34 =>
      m_label_Text_L1 p13 j1 n (W64 (y22 + 1)) z34)
    else
    (j1 y23)
def m_label_Text (x0 : (List UInt8)) (x1 : (List T_api_Pair)) : Option ((List UInt8) × Int) :=
  (m_label_Check x0 x1).bind fun p3 =>
  if p3 ≠ 0 then
  (some (([] : List UInt8), p3))
  else
  ((appL ([] : List UInt8) x0).bind fun z10 =>
    (m_label_Sorted x1).bind fun p13 =>
    jn (fun (y16 : (List UInt8)) =>
      (some (y16, 0))) fun j1 =>
    m_label_Text_L1 p13 j1 fuel 0 z10)
def m_internal_stringslite_IndexByte (x0 : (List UInt8)) (x1 : UInt8) : Option Int :=
  some (Lib.indexByte x0 x1)
def m_internal_stringslite_Index (x0 : (List UInt8)) (x1 : (List UInt8)) : Option Int :=
  if ((x1.length : Int) = 0) ∨ (x1 = x0) then
  (some 0)
  else
  (if (x1.length : Int) = 1 then
    ((idx x1 0).bind fun z5 =>
      (m_internal_stringslite_IndexByte x0 z5).bind fun p6 =>
      some p6)
    else
    (if (x1.length : Int) ≥ (x0.length : Int) then
      (some (-1))
      else
      (none)))
def m_internal_stringslite_Cut (x0 : (List UInt8)) (x1 : (List UInt8)) : Option ((List UInt8) × (List UInt8) × Bool) :=
  (m_internal_stringslite_Index x0 x1).bind fun p1 =>
  if p1 ≥ 0 then
  ((cutL x0 0 p1).bind fun z5 =>
    (cutL x0 (W64 (p1 + (x1.length : Int))) ((x0).length)).bind fun z6 =>
    some (z5, z6, true))
  else
  (some (x0, ([] : List UInt8), false))
def m_strings_Cut (x0 : (List UInt8)) (x1 : (List UInt8)) : Option ((List UInt8) × (List UInt8) × Bool) :=
  (m_internal_stringslite_Cut x0 x1).bind fun p1 =>
  some (p1.1, p1.2.1, p1.2.2)
def m_label_pair (x0 : (List UInt8)) : Option (T_api_Pair × Int) :=
  (m_strings_Cut x0 ([61] : List UInt8)).bind fun p4 =>
  jn (fun (y6 : Bool) =>
    (jn (fun (y8 : Bool) =>
        (if y8 = true then
          (some (({ Key := ([] : List UInt8), Val := ([] : List UInt8) } : T_api_Pair), 3))
          else
          (some (({ Key := p4.1, Val := p4.2.1 } : T_api_Pair), 0)))) fun j2 =>
      if y6 = true then
      (j2 true)
      else
      ((m_label_isValue p4.2.1).bind fun p16 =>
        j2 (!p16)))) fun j1 =>
  if (!p4.2.2) = true then
  (j1 true)
  else
  ((m_label_isName p4.1).bind fun p19 =>
    j1 (!p19))
def m_label_follows_L1 (x0 : (List T_api_Pair)) (x1 : (List UInt8)) (j1 : Unit → Option Int) : Nat → Int → Option Int
  | 0, _ => none
  | n + 1, y7 =>
    if y7 < (x0.length : Int) then
    ((idx x0 y7).bind fun z10 =>
      if z10.Key = x1 then
      (some 8)
      else
      (m_label_follows_L1 x0 x1 j1 n (W64 (y7 + 1))))
    else
    (j1 ())
def m_label_follows (x0 : (List T_api_Pair)) (x1 : (List UInt8)) : Option Int :=
  jn (fun (_ : Unit) =>
    ((idx x0 (W64 ((x0.length : Int) - 1))).bind fun z4 =>
      if (Op.bytesLess x1 z4.Key) = true then
      (some 9)
      else
      (some 0))) fun j1 =>
  m_label_follows_L1 x0 x1 j1 fuel 0
def m_label_Parse_L1 (j1 : (List T_api_Pair) → Option ((List UInt8) × (List T_api_Pair) × Int × Int)) : Nat → (List T_api_Pair) → Int → (List UInt8) → Bool → Option ((List UInt8) × (List T_api_Pair) × Int × Int)
  | 0, _, _, _, _ => none
  | n + 1, y12, y15, y16, y17 =>
    if y17 = true then
    ((m_strings_Cut y16 ([59] : List UInt8)).bind fun p22 =>
      (m_label_pair p22.1).bind fun p24 =>
      jn (fun (y29 : Int) =>
        (jn (fun (y33 : Int) =>
            (if y33 ≠ 0 then
              (some (([] : List UInt8), ([] : List T_api_Pair), y15, y33))
              else
              ((appL y12 [({ Key := p24.1.Key, Val := p24.1.Val } : T_api_Pair)]).bind fun z38 =>
                m_label_Parse_L1 j1 n z38 (W64 (y15 + (W64 ((p22.1.length : Int) + 1)))) p22.2.1 p22.2.2))) fun j3 =>
          if (y29 = 0) ∧ ((y12.length : Int) > 0) then
          ((m_label_follows y12 p24.1.Key).bind fun p41 =>
            j3 p41)
          else
          (j3 y29))) fun j2 =>
      if (y12.length : Int) = 4 then
      (j2 4)
      else
      (j2 p24.2))
    else
    (j1 y12)
def m_label_Parse (x0 : (List UInt8)) : Option ((List UInt8) × (List T_api_Pair) × Int × Int) :=
  (m_strings_Cut x0 ([59] : List UInt8)).bind fun p1 =>
  (m_label_isName p1.1).bind fun p3 =>
  if (!p3) = true then
  (some (([] : List UInt8), ([] : List T_api_Pair), 0, 3))
  else
  (jn (fun (y8 : (List T_api_Pair)) =>
      (some (p1.1, y8, 0, 0))) fun j1 =>
    m_label_Parse_L1 j1 fuel ([] : List T_api_Pair) (W64 ((p1.1.length : Int) + 1)) p1.2.1 p1.2.2)
def m_limnographlaw11_awake  : Option Bool :=
  (m_label_Text ([99, 112, 117] : List UInt8) ([({ Key := ([98] : List UInt8), Val := ([50] : List UInt8) } : T_api_Pair), ({ Key := ([97] : List UInt8), Val := ([49] : List UInt8) } : T_api_Pair)] : List T_api_Pair)).bind fun p4 =>
  (m_label_Parse ([99, 112, 117, 59, 98, 61, 50, 59, 97, 61, 49] : List UInt8)).bind fun p6 =>
  some (decide ((((p4.1 = ([99, 112, 117, 59, 97, 61, 49, 59, 98, 61, 50] : List UInt8)) ∧ (p4.2 = 0)) ∧ (p6.2.2.1 = 8)) ∧ (p6.2.2.2 = 9)))
def m_limnographref11_Light_L1 (x0 : (List T_api_Pair)) (j1 : Unit → Option Bool) : Nat → Int → Option Bool
  | 0, _ => none
  | n + 1, y5 =>
    if y5 < (x0.length : Int) then
    ((idx x0 y5).bind fun z8 =>
      jn (fun (y10 : Bool) =>
        (if y10 = true then
          (some false)
          else
          (m_limnographref11_Light_L1 x0 j1 n (W64 (y5 + 1))))) fun j2 =>
      if (z8.Key.length : Int) > 100 then
      (j2 true)
      else
      ((idx x0 y5).bind fun z14 =>
        j2 (decide ((z14.Val.length : Int) > 100))))
    else
    (j1 ())
def m_limnographref11_Light (x0 : (List T_api_Pair)) : Option Bool :=
  if (x0.length : Int) > 20 then
  (some false)
  else
  (jn (fun (_ : Unit) =>
      (some true)) fun j1 =>
    m_limnographref11_Light_L1 x0 j1 fuel 0)
def m_limnographref11_Name_L1 (x0 : (List UInt8)) (j1 : Unit → Option Bool) : Nat → Int → Option Bool
  | 0, _ => none
  | n + 1, y5 =>
    if y5 < (x0.length : Int) then
    ((idx x0 y5).bind fun z8 =>
      if (¬ ((((z8).toNat : Int) ≥ 97) ∧ (((z8).toNat : Int) ≤ 122))) ∧ ((y5 = 0) ∨ (¬ ((((((z8).toNat : Int) ≥ 48) ∧ (((z8).toNat : Int) ≤ 57)) ∨ (((z8).toNat : Int) = 95)) ∨ (((z8).toNat : Int) = 46)))) then
      (some false)
      else
      (m_limnographref11_Name_L1 x0 j1 n (W64 (y5 + 1))))
    else
    (j1 ())
def m_limnographref11_Name (x0 : (List UInt8)) : Option Bool :=
  if ((x0.length : Int) < 1) ∨ ((x0.length : Int) > 32) then
  (some false)
  else
  (jn (fun (_ : Unit) =>
      (some true)) fun j1 =>
    m_limnographref11_Name_L1 x0 j1 fuel 0)
def m_limnographref11_Value_L1 (x0 : (List UInt8)) (j1 : Unit → Option Bool) : Nat → Int → Option Bool
  | 0, _ => none
  | n + 1, y5 =>
    if y5 < (x0.length : Int) then
    ((idx x0 y5).bind fun z8 =>
      if ((((((z8).toNat : Int) ≤ 32) ∨ (((z8).toNat : Int) ≥ 127)) ∨ (((z8).toNat : Int) = 61)) ∨ (((z8).toNat : Int) = 59)) ∨ (((z8).toNat : Int) = 44) then
      (some false)
      else
      (m_limnographref11_Value_L1 x0 j1 n (W64 (y5 + 1))))
    else
    (j1 ())
def m_limnographref11_Value (x0 : (List UInt8)) : Option Bool :=
  if ((x0.length : Int) < 1) ∨ ((x0.length : Int) > 32) then
  (some false)
  else
  (jn (fun (_ : Unit) =>
      (some true)) fun j1 =>
    m_limnographref11_Value_L1 x0 j1 fuel 0)
def m_limnographref11_Check_L2 (x1 : (List T_api_Pair)) (y8 : Int) (j3 : Unit → Option Int) : Nat → Int → Option Int
  | 0, _ => none
  | n + 1, y19 =>
    if y19 < y8 then
    ((idx x1 y19).bind fun z23 =>
      (idx x1 y8).bind fun z26 =>
      if z23.Key = z26.Key then
      (some 8)
      else
      (m_limnographref11_Check_L2 x1 y8 j3 n (W64 (y19 + 1))))
    else
    (j3 ())
def m_limnographref11_Check_L1 (x1 : (List T_api_Pair)) (j1 : Unit → Option Int) : Nat → Int → Option Int
  | 0, _ => none
  | n + 1, y8 =>
    if y8 < (x1.length : Int) then
    ((idx x1 y8).bind fun z11 =>
      (m_limnographref11_Name z11.Key).bind fun p13 =>
      jn (fun (y15 : Bool) =>
        (if y15 = true then
          (some 3)
          else
          (jn (fun (_ : Unit) =>
              (m_limnographref11_Check_L1 x1 j1 n (W64 (y8 + 1)))) fun j3 =>
            m_limnographref11_Check_L2 x1 y8 j3 fuel 0))) fun j2 =>
      if (!p13) = true then
      (j2 true)
      else
      ((idx x1 y8).bind fun z31 =>
        (m_limnographref11_Value z31.Val).bind fun p33 =>
        j2 (!p33)))
    else
    (j1 ())
def m_limnographref11_Check (x0 : (List UInt8)) (x1 : (List T_api_Pair)) : Option Int :=
  (m_limnographref11_Name x0).bind fun p3 =>
  if (!p3) = true then
  (some 3)
  else
  (if (x1.length : Int) > 4 then
    (some 4)
    else
    (jn (fun (_ : Unit) =>
        (some 0)) fun j1 =>
      m_limnographref11_Check_L1 x1 j1 fuel 0))
def m_limnographref11_Sorted_L2 (x0 : (List T_api_Pair)) (y7 : (List T_api_Pair)) (y10 : Int) (j2 : Int → Option (List T_api_Pair)) : Nat → Int → Option (List T_api_Pair)
  | 0, _ => none
  | n + 1, y33 =>
    jn (fun (y35 : Bool) =>
      (if y35 = true then
        (m_limnographref11_Sorted_L2 x0 y7 y10 j2 n (W64 (y33 - 1)))
        else
        (j2 y33))) fun j3 =>
    if y33 > 0 then
    ((idx y7 (W64 (y33 - 1))).bind fun z40 =>
      (idx x0 y10).bind fun z41 =>
      j3 (Op.bytesLess z41.Key z40.Key))
    else
    (j3 false)
def m_limnographref11_Sorted_L1 (x0 : (List T_api_Pair)) (j1 : (List T_api_Pair) → Option (List T_api_Pair)) : Nat → (List T_api_Pair) → Int → Option (List T_api_Pair)
  | 0, _, _ => none
  | n + 1, y7, y10 =>
    if y10 < (x0.length : Int) then
    (jn (fun (y15 : Int) =>
        ((cutL y7 0 y15).bind fun z17 =>
          (appL ([] : List T_api_Pair) z17).bind fun z21 =>
          (idx x0 y10).bind fun z25 =>
          (appL z21 [z25]).bind fun z27 =>
          (cutL y7 y15 ((y7).length)).bind fun z29 =>
          (appL z27 z29).bind fun z31 =>
          m_limnographref11_Sorted_L1 x0 j1 n z31 (W64 (y10 + 1)))) fun j2 =>
      m_limnographref11_Sorted_L2 x0 y7 y10 j2 fuel (y7.length : Int))
    else
    (j1 y7)
def m_limnographref11_Sorted (x0 : (List T_api_Pair)) : Option (List T_api_Pair) :=
  jn (fun (y3 : (List T_api_Pair)) =>
    (some y3)) fun j1 =>
  m_limnographref11_Sorted_L1 x0 j1 fuel ([] : List T_api_Pair) 0
def m_limnographref11_Text_L1 (p6 : (List T_api_Pair)) (j1 : (List UInt8) → Option ((List UInt8) × Int)) : Nat → (List UInt8) → Int → Option ((List UInt8) × Int)
  | 0, _, _ => none
  | n + 1, y11, y12 =>
    if y12 < (p6.length : Int) then
    ((catS y11 ([59] : List UInt8)).bind fun z16 =>
      (idx p6 y12).bind fun z17 =>
      (catS z16 z17.Key).bind fun z18 =>
      (catS z18 ([61] : List UInt8)).bind fun z19 =>
      (idx p6 y12).bind fun z20 =>
      (catS z19 z20.Val).bind fun z21 =>
      m_limnographref11_Text_L1 p6 j1 n z21 (W64 (y12 + 1)))
    else
    (j1 y11)
def m_limnographref11_Text (x0 : (List UInt8)) (x1 : (List T_api_Pair)) : Option ((List UInt8) × Int) :=
  (m_limnographref11_Check x0 x1).bind fun p3 =>
  if p3 ≠ 0 then
  (some (([] : List UInt8), p3))
  else
  ((m_limnographref11_Sorted x1).bind fun p6 =>
    jn (fun (y9 : (List UInt8)) =>
      (some (y9, 0))) fun j1 =>
    m_limnographref11_Text_L1 p6 j1 fuel x0 0)
def m_limnographref11_Same_L1 (x0 : (List T_api_Pair)) (x1 : (List T_api_Pair)) (j1 : Unit → Option Bool) : Nat → Int → Option Bool
  | 0, _ => none
  | n + 1, y7 =>
    if y7 < (x0.length : Int) then
    ((idx x0 y7).bind fun z11 =>
      (idx x1 y7).bind fun z14 =>
      if ¬ (z11 = z14) then
      (some false)
      else
      (m_limnographref11_Same_L1 x0 x1 j1 n (W64 (y7 + 1))))
    else
    (j1 ())
def m_limnographref11_Same (x0 : (List T_api_Pair)) (x1 : (List T_api_Pair)) : Option Bool :=
  if (x0.length : Int) ≠ (x1.length : Int) then
  (some false)
  else
  (jn (fun (_ : Unit) =>
      (some true)) fun j1 =>
    m_limnographref11_Same_L1 x0 x1 j1 fuel 0)
def m_limnographlaw11_LabelTexts (x0 : (List UInt8)) (x1 : (List T_api_Pair)) : Option Bool :=
  (m_limnographlaw11_awake ).bind fun p3 =>
  if (!p3) = true then
  (some false)
  else
  (jn (fun (y6 : Bool) =>
      (if y6 = true then
        (some true)
        else
        ((m_label_Text x0 x1).bind fun p9 =>
          (m_limnographref11_Text x0 x1).bind fun p11 =>
          jn (fun (y15 : Bool) =>
            (jn (fun (y17 : Bool) =>
                (some y17)) fun j3 =>
              if y15 = true then
              ((m_label_Sorted x1).bind fun p20 =>
                (m_limnographref11_Sorted x1).bind fun p23 =>
                (m_limnographref11_Same p20 p23).bind fun p26 =>
                j3 p26)
              else
              (j3 false))) fun j2 =>
          if (p9.1 = p11.1) ∧ (p9.2 = p11.2) then
          ((m_label_Check x0 x1).bind fun p29 =>
            j2 (decide (p29 = p11.2)))
          else
          (j2 false)))) fun j1 =>
    if (x0.length : Int) > 100 then
    (j1 true)
    else
    ((m_limnographref11_Light x1).bind fun p32 =>
      j1 (!p32)))
def m_slices_Index_api_Pair_api_Pair_L1 (x0 : (List T_api_Pair)) (x1 : T_api_Pair) (j1 : Unit → Option Int) : Nat → Int → Option Int
  | 0, _ => none
  | n + 1, y7 =>
    if y7 < (x0.length : Int) then
    ((idx x0 y7).bind fun z11 =>
      if ({ Key := x1.Key, Val := x1.Val } : T_api_Pair) = z11 then
      (some y7)
      else
      (m_slices_Index_api_Pair_api_Pair_L1 x0 x1 j1 n (W64 (y7 + 1))))
    else
    (j1 ())
def m_slices_Index_api_Pair_api_Pair (x0 : (List T_api_Pair)) (x1 : T_api_Pair) : Option Int :=
  jn (fun (_ : Unit) =>
    (some (-1))) fun j1 =>
  m_slices_Index_api_Pair_api_Pair_L1 x0 x1 j1 fuel 0
def m_slices_Contains_api_Pair_api_Pair (x0 : (List T_api_Pair)) (x1 : T_api_Pair) : Option Bool :=
  (m_slices_Index_api_Pair_api_Pair x0 ({ Key := x1.Key, Val := x1.Val } : T_api_Pair)).bind fun p6 =>
  some (decide (p6 ≥ 0))
def m_label_Matches_L1 (x1 : (List T_api_Pair)) (x3 : (List T_api_Pair)) (j2 : Unit → Option Bool) : Nat → Int → Option Bool
  | 0, _ => none
  | n + 1, y13 =>
    if y13 < (x3.length : Int) then
    ((idx x3 y13).bind fun z16 =>
      (m_slices_Contains_api_Pair_api_Pair x1 ({ Key := z16.Key, Val := z16.Val } : T_api_Pair)).bind fun p21 =>
      if (!p21) = true then
      (some false)
      else
      (m_label_Matches_L1 x1 x3 j2 n (W64 (y13 + 1))))
    else
    (j2 ())
def m_label_Matches (x0 : (List UInt8)) (x1 : (List T_api_Pair)) (x2 : (List UInt8)) (x3 : (List T_api_Pair)) : Option Bool :=
  (m_label_Check x0 x1).bind fun p5 =>
  jn (fun (y7 : Bool) =>
    (if (y7 = true) ∨ (x0 ≠ x2) then
      (some false)
      else
      (jn (fun (_ : Unit) =>
          (some true)) fun j2 =>
        m_label_Matches_L1 x1 x3 j2 fuel 0))) fun j1 =>
  if p5 ≠ 0 then
  (j1 true)
  else
  ((m_label_Check x2 x3).bind fun p25 =>
    j1 (decide (p25 ≠ 0)))
def m_limnographlaw11_LabelMatches_L2 (x1 : (List T_api_Pair)) (x3 : (List T_api_Pair)) (y40 : Int) (j5 : Bool → Option Bool) : Nat → Bool → Int → Option Bool
  | 0, _, _ => none
  | n + 1, y47, y48 =>
    if y48 < (x1.length : Int) then
    (jn (fun (y51 : Bool) =>
        (m_limnographlaw11_LabelMatches_L2 x1 x3 y40 j5 n y51 (W64 (y48 + 1)))) fun j6 =>
      if y47 = true then
      (j6 true)
      else
      ((idx x1 y48).bind fun z55 =>
        (idx x3 y40).bind fun z58 =>
        j6 (decide (z55 = z58))))
    else
    (j5 y47)
def m_limnographlaw11_LabelMatches_L1 (x1 : (List T_api_Pair)) (x3 : (List T_api_Pair)) (j4 : Bool → Option Bool) : Nat → Bool → Int → Option Bool
  | 0, _, _ => none
  | n + 1, y39, y40 =>
    if y40 < (x3.length : Int) then
    (jn (fun (y43 : Bool) =>
        (m_limnographlaw11_LabelMatches_L1 x1 x3 j4 n (decide ((y39 = true) ∧ (y43 = true))) (W64 (y40 + 1)))) fun j5 =>
      m_limnographlaw11_LabelMatches_L2 x1 x3 y40 j5 fuel false 0)
    else
    (j4 y39)
def m_limnographlaw11_LabelMatches (x0 : (List UInt8)) (x1 : (List T_api_Pair)) (x2 : (List UInt8)) (x3 : (List T_api_Pair)) : Option Bool :=
  (m_limnographlaw11_awake ).bind fun p5 =>
  if (!p5) = true then
  (some false)
  else
  (jn (fun (y10 : Bool) =>
      (jn (fun (y12 : Bool) =>
          (if y12 = true then
            (some true)
            else
            ((m_limnographref11_Check x0 x1).bind fun p15 =>
              jn (fun (y17 : Bool) =>
                (jn (fun (y21 : Bool) =>
                    ((m_label_Matches x0 x1 x2 x3).bind fun p23 =>
                      (m_label_Matches x2 x3 x0 x1).bind fun p25 =>
                      (m_label_Text x0 x1).bind fun p27 =>
                      (m_label_Text x2 x3).bind fun p29 =>
                      some (decide ((p23 = y21) ∧ (decide ((p23 = true) ∧ (p25 = true)) = decide (((p27.2 = 0) ∧ (p29.2 = 0)) ∧ (p27.1 = p29.1))))))) fun j4 =>
                  m_limnographlaw11_LabelMatches_L1 x1 x3 j4 fuel (decide ((y17 = true) ∧ (x0 = x2))) 0)) fun j3 =>
              if p15 = 0 then
              ((m_limnographref11_Check x2 x3).bind fun p62 =>
                j3 (decide (p62 = 0)))
              else
              (j3 false)))) fun j2 =>
        if y10 = true then
        (j2 true)
        else
        ((m_limnographref11_Light x3).bind fun p65 =>
          j2 (!p65)))) fun j1 =>
    if ((x0.length : Int) > 100) ∨ ((x2.length : Int) > 100) then
    (j1 true)
    else
    ((m_limnographref11_Light x1).bind fun p68 =>
      j1 (!p68)))
def m_limnographlaw11_LabelBack (x0 : (List UInt8)) (x1 : (List T_api_Pair)) (x2 : (List UInt8)) (x3 : (List T_api_Pair)) : Option Bool :=
  (m_limnographlaw11_awake ).bind fun p5 =>
  if (!p5) = true then
  (some false)
  else
  (jn (fun (y10 : Bool) =>
      (jn (fun (y12 : Bool) =>
          (if y12 = true then
            (some true)
            else
            ((m_label_Text x0 x1).bind fun p15 =>
              (m_label_Text x2 x3).bind fun p17 =>
              if (p15.2 ≠ 0) ∨ (p17.2 ≠ 0) then
              (some (decide ((p15.2 = 0) ∨ (p15.1 = ([] : List UInt8)))))
              else
              ((m_label_Parse p15.1).bind fun p24 =>
                (m_label_Sorted x1).bind fun p27 =>
                (m_label_Sorted x3).bind fun p30 =>
                jn (fun (y35 : Bool) =>
                  (if y35 = true then
                    (some false)
                    else
                    (jn (fun (y38 : Bool) =>
                        (some (decide (decide (p15.1 = p17.1) = y38)))) fun j4 =>
                      if x0 = x2 then
                      ((m_limnographref11_Same p27 p30).bind fun p41 =>
                        j4 p41)
                      else
                      (j4 false)))) fun j3 =>
                if (p24.2.2.2 ≠ 0) ∨ (p24.1 ≠ x0) then
                (j3 true)
                else
                ((m_limnographref11_Same p24.2.1 p27).bind fun p44 =>
                  j3 (!p44)))))) fun j2 =>
        if y10 = true then
        (j2 true)
        else
        ((m_limnographref11_Light x3).bind fun p47 =>
          j2 (!p47)))) fun j1 =>
    if ((x0.length : Int) > 100) ∨ ((x2.length : Int) > 100) then
    (j1 true)
    else
    ((m_limnographref11_Light x1).bind fun p50 =>
      j1 (!p50)))
def m_limnographref11_find_L1 (x0 : (List UInt8)) (x2 : UInt8) (j1 : Int → Option Int) : Nat → Int → Option Int
  | 0, _ => none
  | n + 1, y3 =>
    jn (fun (y5 : Bool) =>
      (if y5 = true then
        (m_limnographref11_find_L1 x0 x2 j1 n (W64 (y3 + 1)))
        else
        (j1 y3))) fun j2 =>
    if y3 < (x0.length : Int) then
    ((idx x0 y3).bind fun z9 =>
      j2 (decide (((z9).toNat : Int) ≠ ((x2).toNat : Int))))
    else
    (j2 false)
def m_limnographref11_find (x0 : (List UInt8)) (x1 : Int) (x2 : UInt8) : Option Int :=
  jn (fun (y1 : Int) =>
    (some y1)) fun j1 =>
  m_limnographref11_find_L1 x0 x2 j1 fuel x1
def m_limnographref11_Parse_L2 (y27 : Int) (y28 : T_limnographref11_Got) (z59 : (List UInt8)) (j4 : Unit → Option T_limnographref11_Got) : Nat → Int → Option T_limnographref11_Got
  | 0, _ => none
  | n + 1, y83 =>
    if y83 < (y28.Attrs.length : Int) then
    ((idx y28.Attrs y83).bind fun z87 =>
      if z87.Key = z59 then
      (some ({ Name := ([] : List UInt8), Attrs := ([] : List T_api_Pair), At := W64 (y27 + 1), E := 8 } : T_limnographref11_Got))
      else
      (m_limnographref11_Parse_L2 y27 y28 z59 j4 n (W64 (y83 + 1))))
    else
    (j4 ())
def m_limnographref11_Parse_L1 (x0 : (List UInt8)) (j1 : T_limnographref11_Got → Option T_limnographref11_Got) : Nat → Int → T_limnographref11_Got → Option T_limnographref11_Got
  | 0, _, _ => none
  | n + 1, y27, y28 =>
    if y27 < (x0.length : Int) then
    ((m_limnographref11_find x0 (W64 (y27 + 1)) (59 : UInt8)).bind fun p35 =>
      (cutL x0 (W64 (y27 + 1)) p35).bind fun z37 =>
      if (y28.Attrs.length : Int) = 4 then
      (some ({ Name := ([] : List UInt8), Attrs := ([] : List T_api_Pair), At := W64 (y27 + 1), E := 4 } : T_limnographref11_Got))
      else
      ((m_limnographref11_find z37 0 (61 : UInt8)).bind fun p45 =>
        jn (fun (y47 : Bool) =>
          (jn (fun (y49 : Bool) =>
              (if y49 = true then
                (some ({ Name := ([] : List UInt8), Attrs := ([] : List T_api_Pair), At := W64 (y27 + 1), E := 3 } : T_limnographref11_Got))
                else
                ((cutL z37 0 p45).bind fun z59 =>
                  (cutL z37 (W64 (p45 + 1)) ((z37).length)).bind fun z60 =>
                  jn (fun (_ : Unit) =>
                    (jn (fun (y67 : Bool) =>
                        (if y67 = true then
                          (some ({ Name := ([] : List UInt8), Attrs := ([] : List T_api_Pair), At := W64 (y27 + 1), E := 9 } : T_limnographref11_Got))
                          else
                          ((appL y28.Attrs [({ Key := z59, Val := z60 } : T_api_Pair)]).bind fun z76 =>
                            m_limnographref11_Parse_L1 x0 j1 n p35 ({ Name := y28.Name, Attrs := z76, At := y28.At, E := y28.E } : T_limnographref11_Got)))) fun j5 =>
                      if (y28.Attrs.length : Int) > 0 then
                      ((idx y28.Attrs (W64 ((y28.Attrs.length : Int) - 1))).bind fun z82 =>
                        j5 (Op.bytesLess z59 z82.Key))
                      else
                      (j5 false))) fun j4 =>
                  m_limnographref11_Parse_L2 y27 y28 z59 j4 fuel 0))) fun j3 =>
            if y47 = true then
            (j3 true)
            else
            ((cutL z37 (W64 (p45 + 1)) ((z37).length)).bind fun z96 =>
              (m_limnographref11_Value z96).bind fun p97 =>
              j3 (!p97)))) fun j2 =>
        if p45 = (z37.length : Int) then
        (j2 true)
        else
        ((cutL z37 0 p45).bind fun z100 =>
          (m_limnographref11_Name z100).bind fun p101 =>
          j2 (!p101))))
    else
    (j1 ({ Name := y28.Name, Attrs := y28.Attrs, At := y28.At, E := y28.E } : T_limnographref11_Got))
def m_limnographref11_Parse (x0 : (List UInt8)) : Option T_limnographref11_Got :=
  (m_limnographref11_find x0 0 (59 : UInt8)).bind fun p4 =>
  (cutL x0 0 p4).bind fun z6 =>
  (m_limnographref11_Name z6).bind fun p10 =>
  if (!p10) = true then
  (some ({ Name := ([] : List UInt8), Attrs := ([] : List T_api_Pair), At := 0, E := 3 } : T_limnographref11_Got))
  else
  (jn (fun (y19 : T_limnographref11_Got) =>
      (some ({ Name := y19.Name, Attrs := y19.Attrs, At := y19.At, E := y19.E } : T_limnographref11_Got))) fun j1 =>
    m_limnographref11_Parse_L1 x0 j1 fuel p4 ({ Name := z6, Attrs := ([] : List T_api_Pair), At := 0, E := 0 } : T_limnographref11_Got))
def m_limnographlaw11_LabelParses (x0 : (List UInt8)) : Option Bool :=
  (m_limnographlaw11_awake ).bind fun p1 =>
  if (!p1) = true then
  (some false)
  else
  (if (x0.length : Int) > 1000 then
    (some true)
    else
    ((m_label_Parse x0).bind fun p5 =>
      (m_limnographref11_Parse x0).bind fun p8 =>
      jn (fun (y14 : Bool) =>
        (if ((y14 = true) ∨ (p5.2.2.1 ≠ p8.At)) ∨ (p5.2.2.2 ≠ p8.E) then
          (some false)
          else
          (if p5.2.2.2 ≠ 0 then
            (some true)
            else
            ((m_label_Text p5.1 p5.2.1).bind fun p22 =>
              some (decide ((p22.1 = x0) ∧ (p22.2 = 0))))))) fun j1 =>
      if p5.1 ≠ p8.Name then
      (j1 true)
      else
      ((m_limnographref11_Same p5.2.1 p8.Attrs).bind fun p27 =>
        j1 (!p27))))
end Go.Proofs.Ytjadbkfodoodaaa
