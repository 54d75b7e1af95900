/-
  Plain forms of functions of the program: what each computes, told over lists and numbers. Printed by a program.
-/
import Derived.Test.YtfcpdojcfogkbaaGreatWw
namespace Go.Proofs.YtfcpdojcfogkbaaGreat
open Go Go.RowKit Go.Wk
structure T_api_Pair where
  Key : (List UInt8)
  Val : (List UInt8)
  deriving DecidableEq
def T_api_Pair.rep : Rep T_api_Pair := Rep.map (fun x => (x.Key, x.Val)) (Rep.two textR textR)
theorem T_api_Pair.flat : T_api_Pair.rep.Flat := map_flat _ (two_flat text_flat text_flat)
structure T_api_Side where
  Offset : Int
  Counts : (List UInt64)
  deriving DecidableEq
def T_api_Side.rep : Rep T_api_Side := Rep.map (fun x => (x.Offset, x.Counts)) (Rep.two (intR .i64) (Rep.sl w64R))
structure T_api_Hist where
  Scale : Int
  Zero : UInt64
  Pos : T_api_Side
  Neg : T_api_Side
  deriving DecidableEq
def T_api_Hist.rep : Rep T_api_Hist := Rep.map (fun x => (x.Scale, (x.Zero, (x.Pos, x.Neg)))) (Rep.two (intR .i64) (Rep.two w64R (Rep.two T_api_Side.rep T_api_Side.rep)))
structure T_api_Point where
  Name : (List UInt8)
  Attrs : (List T_api_Pair)
  Kind : Int
  Temp : Int
  Mono : Bool
  Start : Int
  Time : Int
  Int_ : Int
  Re : UInt64
  Im : UInt64
  Hist : T_api_Hist
  Flags : Int
  deriving DecidableEq
def T_api_Point.rep : Rep T_api_Point := Rep.map (fun x => (x.Name, (x.Attrs, (x.Kind, (x.Temp, (x.Mono, (x.Start, (x.Time, (x.Int_, (x.Re, (x.Im, (x.Hist, x.Flags)))))))))))) (Rep.two textR (Rep.two (Rep.sl T_api_Pair.rep) (Rep.two (intR .i64) (Rep.two (intR .i64) (Rep.two boolR (Rep.two (intR .i64) (Rep.two (intR .i64) (Rep.two (intR .i64) (Rep.two w64R (Rep.two w64R (Rep.two T_api_Hist.rep (intR .i64))))))))))))
structure T_arr2_api_Side where
  a0 : T_api_Side
  a1 : T_api_Side
  deriving DecidableEq
def T_arr2_api_Side.rep : Rep T_arr2_api_Side := Rep.map (fun x => (x.a0, x.a1)) (Rep.two T_api_Side.rep T_api_Side.rep)
structure T_pack_Writer where
  b : (List UInt8)
  deriving DecidableEq
def T_pack_Writer.rep : Rep T_pack_Writer := Rep.map (fun x => x.b) (Rep.sl byteR)
structure T_pack_Reader where
  b : (List UInt8)
  at_ : Int
  e : Int
  deriving DecidableEq
def T_pack_Reader.rep : Rep T_pack_Reader := Rep.map (fun x => (x.b, (x.at_, x.e))) (Rep.two (Rep.sl byteR) (Rep.two (intR .i64) (intR .i64)))
structure T_point_reader where
  Reader : T_pack_Reader
  e : Int
  deriving DecidableEq
structure T_point_what where
  kind : Int
  temp : Int
  start : Int
  time : Int
  value : Int
  flags : Int
  mono : Bool
  re : UInt64
  im : UInt64
  deriving DecidableEq
def T_point_what.rep : Rep T_point_what := Rep.map (fun x => (x.kind, (x.temp, (x.start, (x.time, (x.value, (x.flags, (x.mono, (x.re, x.im))))))))) (Rep.two (intR .i64) (Rep.two (intR .i64) (Rep.two (intR .i64) (Rep.two (intR .i64) (Rep.two (intR .i64) (Rep.two (intR .i64) (Rep.two boolR (Rep.two w64R w64R))))))))
theorem T_point_what.flat : T_point_what.rep.Flat := map_flat _ (two_flat (int_flat _) (two_flat (int_flat _) (two_flat (int_flat _) (two_flat (int_flat _) (two_flat (int_flat _) (two_flat (int_flat _) (two_flat bool_flat (two_flat w64_flat w64_flat))))))))
def T_pack_Writer.sh (b : Nat) (x : T_pack_Writer) : List Rs → Prop := fun L => ∃ (A1_0 : Option Addr) (c1_0 : Nat), L = [boxR b 82 [.slice A1_0 (x.b).length c1_0], ownR 5 A1_0 c1_0 byteR x.b]
def T_pack_Writer.obj (F : Nat → Prop) (b : Nat) (x : T_pack_Writer) : Rs := objR F (T_pack_Writer.sh b x)
def T_pack_Reader.sh (b : Nat) (x : T_pack_Reader) : List Rs → Prop := fun L => ∃ (A1_0 : Option Addr) (c1_0 : Nat), L = [boxR b 106 [.slice A1_0 (x.b).length c1_0, .int .i64 (x.at_), .int .i64 (x.e)], slR A1_0 c1_0 byteR x.b]
def T_pack_Reader.obj (F : Nat → Prop) (b : Nat) (x : T_pack_Reader) : Rs := objR F (T_pack_Reader.sh b x)
def T_point_reader.sh (b : Nat) (x : T_point_reader) : List Rs → Prop := fun L => ∃ (F1_0 : (Nat → Prop)) (b1_0 : Nat), L = [boxR b 68 [.pointer (some ⟨b1_0, 0, none⟩), .int .i64 (x.e)], T_pack_Reader.obj F1_0 b1_0 x.Reader]
def T_point_reader.obj (F : Nat → Prop) (b : Nat) (x : T_point_reader) : Rs := objR F (T_point_reader.sh b x)
def T_api_Point.sh (b : Nat) (x : T_api_Point) : List Rs → Prop := fun L => ∃ (A1_0 : Option Addr) (c1_0 : Nat) (A1_1 : Option Addr) (c1_1 : Nat) (A1_2 : Option Addr) (c1_2 : Nat), L = [boxR b 30 [Str (x.Name), .slice A1_0 (x.Attrs).length c1_0, .int .i64 (x.Kind), .int .i64 (x.Temp), .bool (x.Mono), .int .i64 (x.Start), .int .i64 (x.Time), .int .i64 (x.Int_), .int .u64 (((x.Re).toNat : Nat) : Int), .int .u64 (((x.Im).toNat : Nat) : Int), .int .i64 (x.Hist.Scale), .int .u64 (((x.Hist.Zero).toNat : Nat) : Int), .int .i64 (x.Hist.Pos.Offset), .slice A1_1 (x.Hist.Pos.Counts).length c1_1, .int .i64 (x.Hist.Neg.Offset), .slice A1_2 (x.Hist.Neg.Counts).length c1_2, .int .i64 (x.Flags)], ownR 42 A1_0 c1_0 T_api_Pair.rep x.Attrs, ownR 23 A1_1 c1_1 w64R x.Hist.Pos.Counts, ownR 23 A1_2 c1_2 w64R x.Hist.Neg.Counts]
def T_api_Point.obj (F : Nat → Prop) (b : Nat) (x : T_api_Point) : Rs := objR F (T_api_Point.sh b x)
def m_label_small (x0 : UInt8) : Option Bool :=
  some (decide ((((x0).toNat : Int) ≥ 97) ∧ (((x0).toNat : Int) ≤ 122)))
def m_label_isName_L1 (z6 : (List UInt8)) (j2 : Unit → Option Bool) : Nat → Int → Option Bool
  | 0, _ => none
  | n + 1, y9 =>
    if y9 < (z6.length : Int) then
    ((idx z6 y9).bind fun z12 =>
      (m_label_small z12).bind fun p14 =>
      if ((((!p14) = true) ∧ ((((z12).toNat : Int) < 48) ∨ (((z12).toNat : Int) > 57))) ∧ (((z12).toNat : Int) ≠ 95)) ∧ (((z12).toNat : Int) ≠ 46) then
      (some false)
      else
      (m_label_isName_L1 z6 j2 n (W64 (y9 + 1))))
    else
    (j2 ())
def m_label_isName (x0 : (List UInt8)) : Option Bool :=
  jn (fun (y3 : Bool) =>
    (if y3 = true then
      (some false)
      else
      ((lenS x0).bind fun z6 =>
        jn (fun (_ : Unit) =>
          (some true)) fun j2 =>
        m_label_isName_L1 z6 j2 fuel 0))) fun j1 =>
  if (x0 = ([] : List UInt8)) ∨ ((x0.length : Int) > 32) then
  (j1 true)
  else
  ((idx x0 0).bind fun z26 =>
    (m_label_small z26).bind fun p27 =>
    j1 (!p27))
def m_label_isValue_L1 (z4 : (List UInt8)) (j1 : Unit → Option Bool) : Nat → Int → Option Bool
  | 0, _ => none
  | n + 1, y7 =>
    if y7 < (z4.length : Int) then
    ((idx z4 y7).bind fun z10 =>
      jn (fun (y12 : Bool) =>
        (if y12 = true then
          (some false)
          else
          (m_label_isValue_L1 z4 j1 n (W64 (y7 + 1))))) fun j2 =>
      if ((z10).toNat : Int) < 33 then
      (j2 (decide (((z10).toNat : Int) < 33)))
      else
      (if ((z10).toNat : Int) > 126 then
        (j2 (decide (((z10).toNat : Int) > 126)))
        else
        (if ((z10).toNat : Int) = 61 then
          (j2 (decide (((z10).toNat : Int) = 61)))
          else
          (if ((z10).toNat : Int) = 59 then
            (j2 (decide (((z10).toNat : Int) = 59)))
            else
            (j2 (decide (((z10).toNat : Int) = 44)))))))
    else
    (j1 ())
def m_label_isValue (x0 : (List UInt8)) : Option Bool :=
  if (x0 = ([] : List UInt8)) ∨ ((x0.length : Int) > 32) then
  (some false)
  else
  ((lenS x0).bind fun z4 =>
    jn (fun (_ : Unit) =>
      (some true)) fun j1 =>
    m_label_isValue_L1 z4 j1 fuel 0)
def m_label_Check_1 (x0 : T_api_Pair) (x1 : T_api_Pair) : Option Bool :=
  some (decide (x0.Key = x1.Key))
def m_slices_IndexFunc_api_Pair_api_Pair_s1_L1 (x0 : (List T_api_Pair)) (x1_0 : T_api_Pair) (j1 : Unit → Option Int) : Nat → Int → Option Int
  | 0, _ => none
  | n + 1, y6 =>
    if y6 < (x0.length : Int) then
    ((idx x0 y6).bind fun z9 =>
      (m_label_Check_1 z9 x1_0).bind fun p11 =>
      if p11 = true then
      (some y6)
      else
      (m_slices_IndexFunc_api_Pair_api_Pair_s1_L1 x0 x1_0 j1 n (W64 (y6 + 1))))
    else
    (j1 ())
def m_slices_IndexFunc_api_Pair_api_Pair_s1 (x0 : (List T_api_Pair)) (x1_0 : T_api_Pair) : Option Int :=
  jn (fun (_ : Unit) =>
    (some (-1))) fun j1 =>
  m_slices_IndexFunc_api_Pair_api_Pair_s1_L1 x0 x1_0 j1 fuel 0
def m_slices_ContainsFunc_api_Pair_api_Pair_s2 (x0 : (List T_api_Pair)) (x1_0 : T_api_Pair) : Option Bool :=
  (m_slices_IndexFunc_api_Pair_api_Pair_s1 x0 x1_0).bind fun p5 =>
  some (decide (p5 ≥ 0))
def m_label_Check_L1 (x1 : (List T_api_Pair)) (j1 : Unit → Option Int) : Nat → Int → Option Int
  | 0, _ => none
  | n + 1, y8 =>
    if y8 < (x1.length : Int) then
    ((idx x1 y8).bind fun z11 =>
      (m_label_isName z11.Key).bind fun p18 =>
      jn (fun (y20 : Bool) =>
        (if y20 = true then
          (some 3)
          else
          ((cutL x1 0 y8).bind fun z23 =>
            (m_slices_ContainsFunc_api_Pair_api_Pair_s2 z23 z11).bind fun p25 =>
            if p25 = true then
            (some 8)
            else
            (m_label_Check_L1 x1 j1 n (W64 (y8 + 1)))))) fun j2 =>
      if (!p18) = true then
      (j2 true)
      else
      ((m_label_isValue z11.Val).bind fun p29 =>
        j2 (!p29)))
    else
    (j1 ())
def m_label_Check (x0 : (List UInt8)) (x1 : (List T_api_Pair)) : Option Int :=
  (m_label_isName x0).bind fun p3 =>
  if (!p3) = true then
  (some 3)
  else
  (if (x1.length : Int) > 4 then
    (some 4)
    else
    (jn (fun (_ : Unit) =>
        (some 0)) fun j1 =>
      m_label_Check_L1 x1 j1 fuel 0))
def m_point_kinds (x0 : T_api_Point) : Option Bool :=
  if x0.Kind = 3 then
  (some (decide (x0.Temp = 0)))
  else
  (jn (fun (y14 : Bool) =>
      (if y14 = true then
        (some (decide ((x0.Temp = 1) ∨ (x0.Temp = 2))))
        else
        (some false))) fun j1 =>
    if x0.Kind = 1 then
    (j1 (decide (x0.Kind = 1)))
    else
    (if x0.Kind = 2 then
      (j1 (decide (x0.Kind = 2)))
      else
      (if x0.Kind = 4 then
        (j1 (decide (x0.Kind = 4)))
        else
        (j1 (decide (x0.Kind = 5))))))
def m_point_sum (x0 : T_api_Point) : Option Bool :=
  some (decide ((x0.Kind = 1) ∨ (x0.Kind = 2)))
def m_point_times (x0 : T_api_Point) : Option Bool :=
  if (x0.Start < 0) ∨ (x0.Time > 4503599627370496) then
  (some false)
  else
  (if x0.Kind = 3 then
    (some (decide (x0.Start = x0.Time)))
    else
    (some (decide (x0.Start < x0.Time))))
def m_point_bare (x0 : T_api_Hist) : Option Bool :=
  jn (fun (y16 : Bool) =>
    (some y16)) fun j1 =>
  if (((x0.Scale = 0) ∧ (((x0.Zero).toNat : Int) = 0)) ∧ (x0.Pos.Offset = 0)) ∧ (x0.Neg.Offset = 0) then
  (j1 (decide (W64 ((x0.Pos.Counts.length : Int) + (x0.Neg.Counts.length : Int)) = 0)))
  else
  (j1 false)
def m_point_own (x0 : T_api_Point) : Option Bool :=
  jn (fun (y19 : Bool) =>
    (if y19 = true then
      (some false)
      else
      (some true))) fun j1 =>
  if (x0.Kind ≠ 1) ∧ (x0.Int_ ≠ 0) then
  (j1 (decide ((x0.Kind ≠ 1) ∧ (x0.Int_ ≠ 0))))
  else
  (if (¬ (((x0.Kind = 2) ∨ (x0.Kind = 3)) ∨ (x0.Kind = 5))) ∧ (((x0.Re).toNat : Int) ≠ 0) then
    (j1 (decide ((¬ (((x0.Kind = 2) ∨ (x0.Kind = 3)) ∨ (x0.Kind = 5))) ∧ (((x0.Re).toNat : Int) ≠ 0))))
    else
    (if (x0.Kind ≠ 5) ∧ (((x0.Im).toNat : Int) ≠ 0) then
      (j1 (decide ((x0.Kind ≠ 5) ∧ (((x0.Im).toNat : Int) ≠ 0))))
      else
      (jn (fun (y29 : Bool) =>
          (if y29 = true then
            (j1 y29)
            else
            (j1 (decide ((x0.Flags < 0) ∨ (x0.Flags > 31)))))) fun j2 =>
        if x0.Kind ≠ 4 then
        ((m_point_bare x0.Hist).bind fun p35 =>
          j2 (!p35))
        else
        (j2 false))))
def m_num_Finite (x0 : UInt64) : Option Bool :=
  some (decide (((x0 &&& (9218868437227405312 : UInt64)).toNat : Int) ≠ 9218868437227405312))
def m_num_of (x0 : UInt64) : Option UInt64 :=
  some x0
def m_num_Less (x0 : UInt64) (x1 : UInt64) : Option Bool :=
  (m_num_of x0).bind fun p1 =>
  (m_num_of x1).bind fun p3 =>
  some (fltLt p1 p3)
def m_hist_sides (x0 : T_api_Hist) : Option T_arr2_api_Side :=
  some ({ a0 := x0.Pos, a1 := x0.Neg } : T_arr2_api_Side)
def m_hist_check (x0 : T_api_Side) : Option Int :=
  if (x0.Counts.length : Int) > 160 then
  (some 4)
  else
  (if ((x0.Counts.length : Int) = 0) ∧ (x0.Offset ≠ 0) then
    (some 3)
    else
    (if (x0.Counts.length : Int) = 0 then
      (some 0)
      else
      ((idx x0.Counts 0).bind fun z12 =>
        jn (fun (y14 : Bool) =>
          (if y14 = true then
            (some 3)
            else
            (jn (fun (y17 : Bool) =>
                (if y17 = true then
                  (some 1)
                  else
                  (some 0))) fun j2 =>
              if x0.Offset < (-1073741824) then
              (j2 true)
              else
              (j2 (decide (x0.Offset > W64 (1073741824 - (W64 ((x0.Counts.length : Int) - 1))))))))) fun j1 =>
        if ((z12).toNat : Int) = 0 then
        (j1 true)
        else
        ((idx x0.Counts (W64 ((x0.Counts.length : Int) - 1))).bind fun z22 =>
          j1 (decide (((z22).toNat : Int) = 0))))))
def m_hist_Total_L2 (z23 : T_api_Side) (j2 : UInt64 → UInt64 → Option (UInt64 × Bool)) : Nat → UInt64 → UInt64 → Int → Option (UInt64 × Bool)
  | 0, _, _, _ => none
  | n + 1, y32, y33, y34 =>
    if y34 < (z23.Counts.length : Int) then
    ((idx z23.Counts y34).bind fun z37 =>
      m_hist_Total_L2 z23 j2 n (y32 + z37) (y33 ||| (cry y32 z37)) (W64 (y34 + 1)))
    else
    (j2 y32 y33)
def m_hist_Total_L1 (p10 : T_arr2_api_Side) (j1 : UInt64 → UInt64 → Option (UInt64 × Bool)) : Nat → UInt64 → UInt64 → Int → Option (UInt64 × Bool)
  | 0, _, _, _ => none
  | n + 1, y18, y19, y20 =>
    if y20 < 2 then
    ((idx ([p10.a0, p10.a1] : List T_api_Side) y20).bind fun z23 =>
      jn (fun (y29 : UInt64) (y30 : UInt64) =>
        (m_hist_Total_L1 p10 j1 n y29 y30 (W64 (y20 + 1)))) fun j2 =>
      m_hist_Total_L2 z23 j2 fuel y18 y19 0)
    else
    (j1 y18 y19)
def m_hist_Total (x0 : T_api_Hist) : Option (UInt64 × Bool) :=
  (m_hist_sides x0).bind fun p10 =>
  jn (fun (y14 : UInt64) (y15 : UInt64) =>
    (if ((y15).toNat : Int) ≠ 0 then
      (some ((0 : UInt64), false))
      else
      (some (y14, true)))) fun j1 =>
  m_hist_Total_L1 p10 j1 fuel x0.Zero (0 : UInt64) 0
def m_hist_Check_L1 (p13 : T_arr2_api_Side) (j1 : Unit → Option Int) : Nat → Int → Option Int
  | 0, _ => none
  | n + 1, y21 =>
    if y21 < 2 then
    ((idx ([p13.a0, p13.a1] : List T_api_Side) y21).bind fun z24 =>
      (m_hist_check z24).bind fun p30 =>
      if p30 ≠ 0 then
      (some p30)
      else
      (m_hist_Check_L1 p13 j1 n (W64 (y21 + 1))))
    else
    (j1 ())
def m_hist_Check (x0 : T_api_Hist) : Option Int :=
  if (x0.Scale < (-10)) ∨ (x0.Scale > 20) then
  (some 1)
  else
  ((m_hist_sides x0).bind fun p13 =>
    jn (fun (_ : Unit) =>
      ((m_hist_Total x0).bind fun p18 =>
        if (!p18.2) = true then
        (some 4)
        else
        (some 0))) fun j1 =>
    m_hist_Check_L1 p13 j1 fuel 0)
def m_point_Check (x0 : T_api_Point) : Option Int :=
  (m_label_Check x0.Name x0.Attrs).bind fun p13 =>
  if p13 ≠ 0 then
  (some p13)
  else
  ((m_point_kinds x0).bind fun p16 =>
    if (!p16) = true then
    (some 14)
    else
    (jn (fun (y19 : Bool) =>
        (jn (fun (y21 : Bool) =>
            (if y21 = true then
              (some 1)
              else
              ((m_point_own x0).bind fun p24 =>
                if (!p24) = true then
                (some 3)
                else
                (jn (fun (y29 : Bool) =>
                    (if y29 = true then
                      (some 11)
                      else
                      (jn (fun (y32 : Bool) =>
                          (if y32 = true then
                            (some 1)
                            else
                            (if x0.Kind = 4 then
                              ((m_hist_Check x0.Hist).bind fun p36 =>
                                some p36)
                              else
                              (some 0)))) fun j4 =>
                        if x0.Mono = true then
                        (jn (fun (y39 : Bool) =>
                            (j4 y39)) fun j5 =>
                          if x0.Int_ < 0 then
                          (j5 true)
                          else
                          ((m_num_Less x0.Re (0 : UInt64)).bind fun p42 =>
                            j5 p42))
                        else
                        (j4 false)))) fun j3 =>
                  if (x0.Mono = true) ∧ (x0.Kind = 2) then
                  ((m_num_Finite x0.Re).bind fun p45 =>
                    j3 (!p45))
                  else
                  (j3 false))))) fun j2 =>
          if y19 = true then
          (j2 y19)
          else
          ((m_point_times x0).bind fun p48 =>
            j2 (!p48)))) fun j1 =>
      if x0.Mono = true then
      ((m_point_sum x0).bind fun p51 =>
        j1 (!p51))
      else
      (j1 false)))
def m_slices_Clone_api_Pair_api_Pair (x0 : (List T_api_Pair)) : Option (List T_api_Pair) :=
  appL [] x0
def m_cmp_isNaN_string (x0 : (List UInt8)) : Option Bool :=
  some (decide (x0 ≠ x0))
def m_cmp_Compare_string (x0 : (List UInt8)) (x1 : (List UInt8)) : Option Int :=
  (m_cmp_isNaN_string x0).bind fun p1 =>
  (m_cmp_isNaN_string x1).bind fun p3 =>
  if p1 = true then
  (if p3 = true then
    (some 0)
    else
    (some (-1)))
  else
  (if p3 = true then
    (some 1)
    else
    (if (Op.bytesLess x0 x1) = true then
      (some (-1))
      else
      (if (Op.bytesLess x1 x0) = true then
        (some 1)
        else
        (some 0))))
def m_label_Sorted_1 (x0 : T_api_Pair) (x1 : T_api_Pair) : Option Int :=
  (m_cmp_Compare_string x0.Key x1.Key).bind fun p7 =>
  some p7
def m_slices_insertionSortCmpFunc_api_Pair_s2_L2 (x1 : Int) (j2 : (List T_api_Pair) → Option (List T_api_Pair)) : Nat → (List T_api_Pair) → Int → Option (List T_api_Pair)
  | 0, _, _ => none
  | n + 1, y10, y11 =>
    jn (fun (y13 : Bool) =>
      (if y13 = true then
        ((idx y10 (W64 (y11 - 1))).bind fun z17 =>
          (idx y10 y11).bind fun z18 =>
          (idx y10 y11).bind fun z20 =>
          (idx (setI y10 y11 z17) (W64 (y11 - 1))).bind fun z22 =>
          m_slices_insertionSortCmpFunc_api_Pair_s2_L2 x1 j2 n (setI (setI y10 y11 z17) (W64 (y11 - 1)) z18) (W64 (y11 - 1)))
        else
        (j2 y10))) fun j3 =>
    if y11 > x1 then
    ((idx y10 y11).bind fun z30 =>
      (idx y10 (W64 (y11 - 1))).bind fun z31 =>
      (m_label_Sorted_1 z30 z31).bind fun p32 =>
      j3 (decide (p32 < 0)))
    else
    (j3 false)
def m_slices_insertionSortCmpFunc_api_Pair_s2_L1 (x1 : Int) (x2 : Int) (j1 : (List T_api_Pair) → Option (List T_api_Pair)) : Nat → (List T_api_Pair) → Int → Option (List T_api_Pair)
  | 0, _, _ => none
  | n + 1, y4, y5 =>
    if y5 < x2 then
    (jn (fun (y8 : (List T_api_Pair)) =>
        (m_slices_insertionSortCmpFunc_api_Pair_s2_L1 x1 x2 j1 n y8 (W64 (y5 + 1)))) fun j2 =>
      m_slices_insertionSortCmpFunc_api_Pair_s2_L2 x1 j2 fuel y4 y5)
    else
    (j1 y4)
def m_slices_insertionSortCmpFunc_api_Pair_s2 (x0 : (List T_api_Pair)) (x1 : Int) (x2 : Int) : Option (List T_api_Pair) :=
  jn (fun (y2 : (List T_api_Pair)) =>
    (some y2)) fun j1 =>
  m_slices_insertionSortCmpFunc_api_Pair_s2_L1 x1 x2 j1 fuel x0 (W64 (x1 + 1))
def m_slices_swapRangeCmpFunc_api_Pair_s2_L1 (x1 : Int) (x2 : Int) (x3 : Int) (j1 : (List T_api_Pair) → Option (List T_api_Pair)) : Nat → (List T_api_Pair) → Int → Option (List T_api_Pair)
  | 0, _, _ => none
  | n + 1, y4, y5 =>
    if y5 < x3 then
    ((idx y4 (W64 (x2 + y5))).bind fun z9 =>
      (idx y4 (W64 (x1 + y5))).bind fun z10 =>
      (idx y4 (W64 (x1 + y5))).bind fun z12 =>
      (idx (setI y4 (W64 (x1 + y5)) z9) (W64 (x2 + y5))).bind fun z14 =>
      m_slices_swapRangeCmpFunc_api_Pair_s2_L1 x1 x2 x3 j1 n (setI (setI y4 (W64 (x1 + y5)) z9) (W64 (x2 + y5)) z10) (W64 (y5 + 1)))
    else
    (j1 y4)
def m_slices_swapRangeCmpFunc_api_Pair_s2 (x0 : (List T_api_Pair)) (x1 : Int) (x2 : Int) (x3 : Int) : Option (List T_api_Pair) :=
  jn (fun (y2 : (List T_api_Pair)) =>
    (some y2)) fun j1 =>
  m_slices_swapRangeCmpFunc_api_Pair_s2_L1 x1 x2 x3 j1 fuel x0 0
def m_slices_rotateCmpFunc_api_Pair_s2_L1 (x2 : Int) (j1 : (List T_api_Pair) → Int → Option (List T_api_Pair)) : Nat → (List T_api_Pair) → Int → Int → Option (List T_api_Pair)
  | 0, _, _, _ => none
  | n + 1, y9, y10, y11 =>
    if y10 ≠ y11 then
    (if y10 > y11 then
      ((m_slices_swapRangeCmpFunc_api_Pair_s2 y9 (W64 (x2 - y10)) x2 y11).bind fun p15 =>
        m_slices_rotateCmpFunc_api_Pair_s2_L1 x2 j1 n p15 (W64 (y10 - y11)) y11)
      else
      ((m_slices_swapRangeCmpFunc_api_Pair_s2 y9 (W64 (x2 - y10)) (W64 ((W64 (x2 + y11)) - y10)) y10).bind fun p19 =>
        m_slices_rotateCmpFunc_api_Pair_s2_L1 x2 j1 n p19 y10 (W64 (y11 - y10))))
    else
    (j1 y9 y10)
def m_slices_rotateCmpFunc_api_Pair_s2 (x0 : (List T_api_Pair)) (x1 : Int) (x2 : Int) (x3 : Int) : Option (List T_api_Pair) :=
  jn (fun (y2 : (List T_api_Pair)) (y3 : Int) =>
    ((m_slices_swapRangeCmpFunc_api_Pair_s2 y2 (W64 (x2 - y3)) x2 y3).bind fun p5 =>
      some p5)) fun j1 =>
  m_slices_rotateCmpFunc_api_Pair_s2_L1 x2 j1 fuel x0 (W64 (x2 - x1)) (W64 (x3 - x2))
def m_slices_symMergeCmpFunc_api_Pair_s2_L1 (y3 : Int) (j2 : (List T_api_Pair) → Option (List T_api_Pair)) : Nat → (List T_api_Pair) → Int → Option (List T_api_Pair)
  | 0, _, _ => none
  | n + 1, y7, y8 =>
    if y8 < W64 (y3 - 1) then
    ((idx y7 (W64 (y8 + 1))).bind fun z12 =>
      (idx y7 y8).bind fun z13 =>
      (idx y7 y8).bind fun z15 =>
      (idx (setI y7 y8 z12) (W64 (y8 + 1))).bind fun z17 =>
      m_slices_symMergeCmpFunc_api_Pair_s2_L1 y3 j2 n (setI (setI y7 y8 z12) (W64 (y8 + 1)) z13) (W64 (y8 + 1)))
    else
    (j2 y7)
def m_slices_symMergeCmpFunc_api_Pair_s2_L2 (x0 : (List T_api_Pair)) (x1 : Int) (j1 : Int → Option (List T_api_Pair)) : Nat → Int → Int → Option (List T_api_Pair)
  | 0, _, _ => none
  | n + 1, y23, y24 =>
    if y23 < y24 then
    ((idx x0 (W64 (((toU64 (W64 (y23 + y24))) >>> UInt64.ofNat 1).toNat : Int))).bind fun z28 =>
      (idx x0 x1).bind fun z29 =>
      (m_label_Sorted_1 z28 z29).bind fun p30 =>
      if p30 < 0 then
      (m_slices_symMergeCmpFunc_api_Pair_s2_L2 x0 x1 j1 n (W64 ((W64 (((toU64 (W64 (y23 + y24))) >>> UInt64.ofNat 1).toNat : Int)) + 1)) y24)
      else
      (m_slices_symMergeCmpFunc_api_Pair_s2_L2 x0 x1 j1 n y23 (W64 (((toU64 (W64 (y23 + y24))) >>> UInt64.ofNat 1).toNat : Int))))
    else
    (j1 y23)
def m_slices_symMergeCmpFunc_api_Pair_s2_L3 (y34 : Int) (j4 : (List T_api_Pair) → Option (List T_api_Pair)) : Nat → (List T_api_Pair) → Int → Option (List T_api_Pair)
  | 0, _, _ => none
  | n + 1, y38, y39 =>
    if y39 > y34 then
    ((idx y38 (W64 (y39 - 1))).bind fun z43 =>
      (idx y38 y39).bind fun z44 =>
      (idx y38 y39).bind fun z46 =>
      (idx (setI y38 y39 z43) (W64 (y39 - 1))).bind fun z48 =>
      m_slices_symMergeCmpFunc_api_Pair_s2_L3 y34 j4 n (setI (setI y38 y39 z43) (W64 (y39 - 1)) z44) (W64 (y39 - 1)))
    else
    (j4 y38)
def m_slices_symMergeCmpFunc_api_Pair_s2_L4 (x0 : (List T_api_Pair)) (x2 : Int) (j3 : Int → Option (List T_api_Pair)) : Nat → Int → Int → Option (List T_api_Pair)
  | 0, _, _ => none
  | n + 1, y54, y55 =>
    if y54 < y55 then
    ((idx x0 x2).bind fun z59 =>
      (idx x0 (W64 (((toU64 (W64 (y54 + y55))) >>> UInt64.ofNat 1).toNat : Int))).bind fun z60 =>
      (m_label_Sorted_1 z59 z60).bind fun p61 =>
      if ¬ (p61 < 0) then
      (m_slices_symMergeCmpFunc_api_Pair_s2_L4 x0 x2 j3 n (W64 ((W64 (((toU64 (W64 (y54 + y55))) >>> UInt64.ofNat 1).toNat : Int)) + 1)) y55)
      else
      (m_slices_symMergeCmpFunc_api_Pair_s2_L4 x0 x2 j3 n y54 (W64 (((toU64 (W64 (y54 + y55))) >>> UInt64.ofNat 1).toNat : Int))))
    else
    (j3 y54)
def m_slices_symMergeCmpFunc_api_Pair_s2_L5 (x0 : (List T_api_Pair)) (x1 : Int) (x2 : Int) (x3 : Int) (j6 : Int → Option (List T_api_Pair)) : Nat → Int → Int → Option (List T_api_Pair)
  | 0, _, _ => none
  | n + 1, y87, y88 =>
    if y87 < y88 then
    ((idx x0 (W64 ((W64 ((W64 ((W64 (((toU64 (W64 (x1 + x3))) >>> UInt64.ofNat 1).toNat : Int)) + x2)) - 1)) - (W64 (((toU64 (W64 (y87 + y88))) >>> UInt64.ofNat 1).toNat : Int))))).bind fun z92 =>
      (idx x0 (W64 (((toU64 (W64 (y87 + y88))) >>> UInt64.ofNat 1).toNat : Int))).bind fun z93 =>
      (m_label_Sorted_1 z92 z93).bind fun p94 =>
      if ¬ (p94 < 0) then
      (m_slices_symMergeCmpFunc_api_Pair_s2_L5 x0 x1 x2 x3 j6 n (W64 ((W64 (((toU64 (W64 (y87 + y88))) >>> UInt64.ofNat 1).toNat : Int)) + 1)) y88)
      else
      (m_slices_symMergeCmpFunc_api_Pair_s2_L5 x0 x1 x2 x3 j6 n y87 (W64 (((toU64 (W64 (y87 + y88))) >>> UInt64.ofNat 1).toNat : Int))))
    else
    (j6 y87)
def m_slices_symMergeCmpFunc_api_Pair_s2 (x0 : (List T_api_Pair)) (x1 : Int) (x2 : Int) (x3 : Int) : Option (List T_api_Pair) :=
  if W64 (x2 - x1) = 1 then
  (jn (fun (y3 : Int) =>
      (jn (fun (y5 : (List T_api_Pair)) =>
          (some y5)) fun j2 =>
        m_slices_symMergeCmpFunc_api_Pair_s2_L1 y3 j2 fuel x0 x1)) fun j1 =>
    m_slices_symMergeCmpFunc_api_Pair_s2_L2 x0 x1 j1 fuel x2 x3)
  else
  (if W64 (x3 - x2) = 1 then
    (jn (fun (y34 : Int) =>
        (jn (fun (y36 : (List T_api_Pair)) =>
            (some y36)) fun j4 =>
          m_slices_symMergeCmpFunc_api_Pair_s2_L3 y34 j4 fuel x0 x2)) fun j3 =>
      m_slices_symMergeCmpFunc_api_Pair_s2_L4 x0 x2 j3 fuel x1 x2)
    else
    (jn (fun (y64 : Int) (y65 : Int) =>
        (jn (fun (y67 : Int) =>
            (jn (fun (y71 : (List T_api_Pair)) =>
                (jn (fun (_ : Unit) =>
                    (if (W64 (((toU64 (W64 (x1 + x3))) >>> UInt64.ofNat 1).toNat : Int) < W64 ((W64 ((W64 (((toU64 (W64 (x1 + x3))) >>> UInt64.ofNat 1).toNat : Int)) + x2)) - y67)) ∧ (W64 ((W64 ((W64 (((toU64 (W64 (x1 + x3))) >>> UInt64.ofNat 1).toNat : Int)) + x2)) - y67) < x3) then
                      (none)
                      else
                      (some y71))) fun j8 =>
                  if (x1 < y67) ∧ (y67 < W64 (((toU64 (W64 (x1 + x3))) >>> UInt64.ofNat 1).toNat : Int)) then
                  (none)
                  else
                  (j8 ()))) fun j7 =>
              if (y67 < x2) ∧ (x2 < W64 ((W64 ((W64 (((toU64 (W64 (x1 + x3))) >>> UInt64.ofNat 1).toNat : Int)) + x2)) - y67)) then
              ((m_slices_rotateCmpFunc_api_Pair_s2 x0 y67 x2 (W64 ((W64 ((W64 (((toU64 (W64 (x1 + x3))) >>> UInt64.ofNat 1).toNat : Int)) + x2)) - y67))).bind fun p83 =>
                j7 p83)
              else
              (j7 x0))) fun j6 =>
          m_slices_symMergeCmpFunc_api_Pair_s2_L5 x0 x1 x2 x3 j6 fuel y64 y65)) fun j5 =>
      if x2 > W64 (((toU64 (W64 (x1 + x3))) >>> UInt64.ofNat 1).toNat : Int) then
      (j5 (W64 ((W64 ((W64 (((toU64 (W64 (x1 + x3))) >>> UInt64.ofNat 1).toNat : Int)) + x2)) - x3)) (W64 (((toU64 (W64 (x1 + x3))) >>> UInt64.ofNat 1).toNat : Int)))
      else
      (j5 x1 x2)))
def m_slices_stableCmpFunc_api_Pair_s1_L2 (x1 : Int) (y12 : Int) (j3 : (List T_api_Pair) → Int → Option (List T_api_Pair)) : Nat → (List T_api_Pair) → Int → Int → Option (List T_api_Pair)
  | 0, _, _, _ => none
  | n + 1, y25, y26, y27 =>
    if y27 ≤ x1 then
    ((m_slices_symMergeCmpFunc_api_Pair_s2 y25 y26 (W64 (y26 + y12)) y27).bind fun p30 =>
      m_slices_stableCmpFunc_api_Pair_s1_L2 x1 y12 j3 n p30 y27 (W64 (y27 + (W64 (2 * y12)))))
    else
    (j3 y25 y26)
def m_slices_stableCmpFunc_api_Pair_s1_L1 (x1 : Int) (j2 : (List T_api_Pair) → Option (List T_api_Pair)) : Nat → (List T_api_Pair) → Int → Option (List T_api_Pair)
  | 0, _, _ => none
  | n + 1, y11, y12 =>
    if y12 < x1 then
    (jn (fun (y15 : (List T_api_Pair)) (y16 : Int) =>
        (jn (fun (y18 : (List T_api_Pair)) =>
            (m_slices_stableCmpFunc_api_Pair_s1_L1 x1 j2 n y18 (W64 (y12 * 2)))) fun j4 =>
          if W64 (y16 + y12) < x1 then
          ((m_slices_symMergeCmpFunc_api_Pair_s2 y15 y16 (W64 (y16 + y12)) x1).bind fun p21 =>
            j4 p21)
          else
          (j4 y15))) fun j3 =>
      m_slices_stableCmpFunc_api_Pair_s1_L2 x1 y12 j3 fuel y11 0 (W64 (2 * y12)))
    else
    (j2 y11)
def m_slices_stableCmpFunc_api_Pair_s1_L3 (x1 : Int) (j1 : (List T_api_Pair) → Int → Option (List T_api_Pair)) : Nat → (List T_api_Pair) → Int → Int → Option (List T_api_Pair)
  | 0, _, _, _ => none
  | n + 1, y34, y35, y36 =>
    if y36 ≤ x1 then
    ((m_slices_insertionSortCmpFunc_api_Pair_s2 y34 y35 y36).bind fun p39 =>
      m_slices_stableCmpFunc_api_Pair_s1_L3 x1 j1 n p39 y36 (W64 (y36 + 20)))
    else
    (j1 y34 y35)
def m_slices_stableCmpFunc_api_Pair_s1 (x0 : (List T_api_Pair)) (x1 : Int) : Option (List T_api_Pair) :=
  jn (fun (y2 : (List T_api_Pair)) (y3 : Int) =>
    ((m_slices_insertionSortCmpFunc_api_Pair_s2 y2 y3 x1).bind fun p5 =>
      jn (fun (y9 : (List T_api_Pair)) =>
        (some y9)) fun j2 =>
      m_slices_stableCmpFunc_api_Pair_s1_L1 x1 j2 fuel p5 20)) fun j1 =>
  m_slices_stableCmpFunc_api_Pair_s1_L3 x1 j1 fuel x0 0 20
def m_slices_SortStableFunc_api_Pair_api_Pair_s1 (x0 : (List T_api_Pair)) : Option (List T_api_Pair) :=
  (m_slices_stableCmpFunc_api_Pair_s1 x0 (x0.length : Int)).bind fun p2 =>
  some p2
def m_label_Sorted (x0 : (List T_api_Pair)) : Option (List T_api_Pair) :=
  (m_slices_Clone_api_Pair_api_Pair x0).bind fun p3 =>
  (m_slices_SortStableFunc_api_Pair_api_Pair_s1 p3).bind fun p6 =>
  some p6
def m_label_Text_L1 (p13 : (List T_api_Pair)) (j1 : (List UInt8) → Option ((List UInt8) × Int)) : Nat → Int → (List UInt8) → Option ((List UInt8) × Int)
  | 0, _, _ => none
  | n + 1, y22, y23 =>
    if y22 < (p13.length : Int) then
    ((idx p13 y22).bind fun z27 =>
      (catS ([59] : List UInt8) z27.Key).bind fun z31 =>
      (catS z31 ([61] : List UInt8)).bind fun z32 =>
      (catS z32 z27.Val).bind fun z33 =>
      (appL y23 z33).bind fun z34 =>
      m_label_Text_L1 p13 j1 n (W64 (y22 + 1)) z34)
    else
    (j1 y23)
def m_label_Text (x0 : (List UInt8)) (x1 : (List T_api_Pair)) : Option ((List UInt8) × Int) :=
  (m_label_Check x0 x1).bind fun p3 =>
  if p3 ≠ 0 then
  (some (([] : List UInt8), p3))
  else
  ((appL ([] : List UInt8) x0).bind fun z10 =>
    (m_label_Sorted x1).bind fun p13 =>
    jn (fun (y16 : (List UInt8)) =>
      (some (y16, 0))) fun j1 =>
    m_label_Text_L1 p13 j1 fuel 0 z10)
def m_point_bit (x0 : Bool) : Option Int :=
  if x0 = true then
  (some 1)
  else
  (some 0)
def m_point_Key (x0 : T_api_Point) : Option ((List UInt8) × Int) :=
  (m_point_Check x0).bind fun p13 =>
  if p13 ≠ 0 then
  (some (([] : List UInt8), p13))
  else
  ((m_label_Text x0.Name x0.Attrs).bind fun p16 =>
    (catS p16.1 ([32] : List UInt8)).bind fun z19 =>
    (m_point_bit x0.Mono).bind fun p20 =>
    (catS z19 ([toU8 (W64 (48 + x0.Kind)), toU8 (W64 (48 + x0.Temp)), toU8 (W64 (48 + p20))] : List UInt8)).bind fun z25 =>
    some (z25, 0))
def m_pack_NewWriter  : Option T_pack_Writer :=
  some ({ b := ([] : List UInt8) } : T_pack_Writer)
def m_math_bits_Len64 (x0 : UInt64) : Option Int :=
  jn (fun (y1 : UInt64) (y2 : Int) =>
    (jn (fun (y4 : UInt64) (y5 : Int) =>
        (jn (fun (y7 : UInt64) (y8 : Int) =>
            ((idx ([0, 1, 2, 2, 3, 3, 3, 3, 4, 4, 4, 4, 4, 4, 4, 4, 5, 5, 5, 5, 5, 5, 5, 5, 5, 5, 5, 5, 5, 5, 5, 5, 6, 6, 6, 6, 6, 6, 6, 6, 6, 6, 6, 6, 6, 6, 6, 6, 6, 6, 6, 6, 6, 6, 6, 6, 6, 6, 6, 6, 6, 6, 6, 6, 7, 7, 7, 7, 7, 7, 7, 7, 7, 7, 7, 7, 7, 7, 7, 7, 7, 7, 7, 7, 7, 7, 7, 7, 7, 7, 7, 7, 7, 7, 7, 7, 7, 7, 7, 7, 7, 7, 7, 7, 7, 7, 7, 7, 7, 7, 7, 7, 7, 7, 7, 7, 7, 7, 7, 7, 7, 7, 7, 7, 7, 7, 7, 7, 8, 8, 8, 8, 8, 8, 8, 8, 8, 8, 8, 8, 8, 8, 8, 8, 8, 8, 8, 8, 8, 8, 8, 8, 8, 8, 8, 8, 8, 8, 8, 8, 8, 8, 8, 8, 8, 8, 8, 8, 8, 8, 8, 8, 8, 8, 8, 8, 8, 8, 8, 8, 8, 8, 8, 8, 8, 8, 8, 8, 8, 8, 8, 8, 8, 8, 8, 8, 8, 8, 8, 8, 8, 8, 8, 8, 8, 8, 8, 8, 8, 8, 8, 8, 8, 8, 8, 8, 8, 8, 8, 8, 8, 8, 8, 8, 8, 8, 8, 8, 8, 8, 8, 8, 8, 8, 8, 8, 8, 8, 8, 8, 8, 8, 8, 8, 8, 8, 8, 8, 8, 8, 8, 8, 8, 8, 8, 8] : List UInt8) ((toU8 ((y7).toNat : Int)).toNat : Int)).bind fun z10 =>
              some (W64 (y8 + (z10.toNat : Int))))) fun j3 =>
          if ((y4).toNat : Int) ≥ 256 then
          (j3 (y4 >>> UInt64.ofNat 8) (W64 (y5 + 8)))
          else
          (j3 y4 y5))) fun j2 =>
      if ((y1).toNat : Int) ≥ 65536 then
      (j2 (y1 >>> UInt64.ofNat 16) (W64 (y2 + 16)))
      else
      (j2 y1 y2))) fun j1 =>
  if ((x0).toNat : Int) ≥ 4294967296 then
  (j1 (x0 >>> UInt64.ofNat 32) 32)
  else
  (j1 x0 0)
def m_pack_others (x0 : UInt64) : Option Int :=
  (m_math_bits_Len64 x0).bind fun p1 =>
  if p1 > 56 then
  (some 8)
  else
  ((quoZ (max (W64 (p1 - 1)) 0) 7).bind fun z4 =>
    some z4)
def m_pack_Writer_Num_L1 (x1 : UInt64) (j2 : T_pack_Writer → Option T_pack_Writer) : Nat → Int → T_pack_Writer → Option T_pack_Writer
  | 0, _, _ => none
  | n + 1, y17, y18 =>
    if y17 > 0 then
    ((appL y18.b [toU8 ((shr64 x1 ((toU64 (W64 ((W64 (8 * y17)) - 8))).toNat)).toNat : Int)]).bind fun z23 =>
      m_pack_Writer_Num_L1 x1 j2 n (W64 (y17 - 1)) ({ b := z23 } : T_pack_Writer))
    else
    (j2 y18)
def m_pack_Writer_Num (x0 : T_pack_Writer) (x1 : UInt64) : Option T_pack_Writer :=
  (m_pack_others x1).bind fun p2 =>
  jn (fun (y5 : UInt8) =>
    ((appL x0.b [y5]).bind fun z9 =>
      jn (fun (y15 : T_pack_Writer) =>
        (some y15)) fun j2 =>
      m_pack_Writer_Num_L1 x1 j2 fuel p2 ({ b := z9 } : T_pack_Writer))) fun j1 =>
  if p2 < 8 then
  (j1 ((shl8 (255 : UInt8) ((toU64 (W64 (8 - p2))).toNat)) ||| (toU8 ((shr64 x1 ((toU64 (W64 (8 * p2))).toNat)).toNat : Int))))
  else
  (j1 (shl8 (255 : UInt8) ((toU64 (W64 (8 - p2))).toNat)))
def m_pack_Writer_Text (x0 : T_pack_Writer) (x1 : (List UInt8)) : Option T_pack_Writer :=
  (m_pack_Writer_Num x0 (toU64 (x1.length : Int))).bind fun p2 =>
  (appL p2.b x1).bind fun z8 =>
  some ({ b := z8 } : T_pack_Writer)
def m_pack_Zig (x0 : Int) : Option UInt64 :=
  some (((toU64 x0) <<< UInt64.ofNat 1) ^^^ (toU64 (shrZ x0 63)))
def m_pack_Writer_Int (x0 : T_pack_Writer) (x1 : Int) : Option T_pack_Writer :=
  (m_pack_Zig x1).bind fun p2 =>
  (m_pack_Writer_Num x0 p2).bind fun p4 =>
  some p4
def m_pack_Writer_Fix_L1 (x1 : UInt64) (j1 : T_pack_Writer → Option T_pack_Writer) : Nat → Int → T_pack_Writer → Option T_pack_Writer
  | 0, _, _ => none
  | n + 1, y4, y5 =>
    if y4 < 8 then
    ((appL y5.b [toU8 ((shr64 x1 ((toU64 (W64 (8 * y4))).toNat)).toNat : Int)]).bind fun z10 =>
      m_pack_Writer_Fix_L1 x1 j1 n (W64 (y4 + 1)) ({ b := z10 } : T_pack_Writer))
    else
    (j1 y5)
def m_pack_Writer_Fix (x0 : T_pack_Writer) (x1 : UInt64) : Option T_pack_Writer :=
  jn (fun (y2 : T_pack_Writer) =>
    (some y2)) fun j1 =>
  m_pack_Writer_Fix_L1 x1 j1 fuel 0 x0
def m_point_side_L1 (x1 : T_api_Side) (j2 : T_pack_Writer → Option T_pack_Writer) : Nat → Int → T_pack_Writer → Option T_pack_Writer
  | 0, _, _ => none
  | n + 1, y17, y18 =>
    if y17 < (x1.Counts.length : Int) then
    ((idx x1.Counts y17).bind fun z21 =>
      (m_pack_Writer_Num y18 z21).bind fun p23 =>
      m_point_side_L1 x1 j2 n (W64 (y17 + 1)) p23)
    else
    (j2 y18)
def m_point_side (x0 : T_pack_Writer) (x1 : T_api_Side) : Option T_pack_Writer :=
  (m_pack_Writer_Num x0 (toU64 (x1.Counts.length : Int))).bind fun p9 =>
  jn (fun (y13 : T_pack_Writer) =>
    (jn (fun (y15 : T_pack_Writer) =>
        (some y15)) fun j2 =>
      m_point_side_L1 x1 j2 fuel 0 y13)) fun j1 =>
  if (x1.Counts.length : Int) > 0 then
  ((m_pack_Writer_Int p9 x1.Offset).bind fun p28 =>
    j1 p28)
  else
  (j1 p9)
def m_bytes_Clone (x0 : (List UInt8)) : Option (List UInt8) :=
  appL [] x0
def m_pack_Writer_Bytes (x0 : T_pack_Writer) : Option (List UInt8) :=
  (m_bytes_Clone x0.b).bind fun p8 =>
  some p8
def m_point_Bytes_L1 (x0 : T_api_Point) (p28 : Int) (j1 : T_pack_Writer → Option ((List UInt8) × Int)) : Nat → Int → T_pack_Writer → Option ((List UInt8) × Int)
  | 0, _, _ => none
  | n + 1, y79, y80 =>
    if y79 < (([x0.Kind, x0.Temp, p28, x0.Flags, x0.Start, W64 (x0.Time - x0.Start)] : List Int).length : Int) then
    ((idx ([x0.Kind, x0.Temp, p28, x0.Flags, x0.Start, W64 (x0.Time - x0.Start)] : List Int) y79).bind fun z83 =>
      (m_pack_Writer_Num y80 (toU64 z83)).bind fun p84 =>
      m_point_Bytes_L1 x0 p28 j1 n (W64 (y79 + 1)) p84)
    else
    (j1 y80)
def m_point_Bytes (x0 : T_api_Point) : Option ((List UInt8) × Int) :=
  (m_point_Check x0).bind fun p13 =>
  if p13 ≠ 0 then
  (some (([] : List UInt8), p13))
  else
  ((m_pack_NewWriter ).bind fun p18 =>
    (m_label_Text x0.Name x0.Attrs).bind fun p21 =>
    (m_pack_Writer_Text p18 p21.1).bind fun p23 =>
    (m_point_bit x0.Mono).bind fun p28 =>
    jn (fun (y33 : T_pack_Writer) =>
      (jn (fun (y35 : T_pack_Writer) =>
          ((m_pack_Writer_Bytes y35).bind fun p37 =>
            some (p37, 0))) fun j2 =>
        if x0.Kind = 1 then
        ((m_pack_Writer_Int y33 x0.Int_).bind fun p41 =>
          j2 p41)
        else
        (if x0.Kind = 5 then
          ((m_pack_Writer_Fix y33 x0.Re).bind fun p46 =>
            (m_pack_Writer_Fix p46 x0.Im).bind fun p50 =>
            j2 p50)
          else
          (if x0.Kind = 4 then
            ((m_pack_Writer_Int y33 x0.Hist.Scale).bind fun p55 =>
              (m_pack_Writer_Num p55 x0.Hist.Zero).bind fun p59 =>
              (m_point_side p59 x0.Hist.Pos).bind fun p63 =>
              (m_point_side p63 x0.Hist.Neg).bind fun p69 =>
              j2 p69)
            else
            ((m_pack_Writer_Fix y33 x0.Re).bind fun p75 =>
              j2 p75))))) fun j1 =>
    m_point_Bytes_L1 x0 p28 j1 fuel 0 p23)
def m_pack_NewReader (x0 : (List UInt8)) : Option T_pack_Reader :=
  (m_bytes_Clone x0).bind fun p3 =>
  some ({ b := p3, at_ := 0, e := 0 } : T_pack_Reader)
def m_pack_Reader_Left (x0 : T_pack_Reader) : Option Int :=
  some (W64 ((x0.b.length : Int) - x0.at_))
def m_math_bits_Len8 (x0 : UInt8) : Option Int :=
  (idx ([0, 1, 2, 2, 3, 3, 3, 3, 4, 4, 4, 4, 4, 4, 4, 4, 5, 5, 5, 5, 5, 5, 5, 5, 5, 5, 5, 5, 5, 5, 5, 5, 6, 6, 6, 6, 6, 6, 6, 6, 6, 6, 6, 6, 6, 6, 6, 6, 6, 6, 6, 6, 6, 6, 6, 6, 6, 6, 6, 6, 6, 6, 6, 6, 7, 7, 7, 7, 7, 7, 7, 7, 7, 7, 7, 7, 7, 7, 7, 7, 7, 7, 7, 7, 7, 7, 7, 7, 7, 7, 7, 7, 7, 7, 7, 7, 7, 7, 7, 7, 7, 7, 7, 7, 7, 7, 7, 7, 7, 7, 7, 7, 7, 7, 7, 7, 7, 7, 7, 7, 7, 7, 7, 7, 7, 7, 7, 7, 8, 8, 8, 8, 8, 8, 8, 8, 8, 8, 8, 8, 8, 8, 8, 8, 8, 8, 8, 8, 8, 8, 8, 8, 8, 8, 8, 8, 8, 8, 8, 8, 8, 8, 8, 8, 8, 8, 8, 8, 8, 8, 8, 8, 8, 8, 8, 8, 8, 8, 8, 8, 8, 8, 8, 8, 8, 8, 8, 8, 8, 8, 8, 8, 8, 8, 8, 8, 8, 8, 8, 8, 8, 8, 8, 8, 8, 8, 8, 8, 8, 8, 8, 8, 8, 8, 8, 8, 8, 8, 8, 8, 8, 8, 8, 8, 8, 8, 8, 8, 8, 8, 8, 8, 8, 8, 8, 8, 8, 8, 8, 8, 8, 8, 8, 8, 8, 8, 8, 8, 8, 8, 8, 8, 8, 8, 8, 8] : List UInt8) ((x0).toNat : Int)).bind fun z1 =>
  some (z1.toNat : Int)
def m_math_bits_LeadingZeros8 (x0 : UInt8) : Option Int :=
  (m_math_bits_Len8 x0).bind fun p1 =>
  some (W64 (8 - p1))
def m_pack_Reader_fail (x0 : T_pack_Reader) (x1 : Int) : Option T_pack_Reader :=
  if x0.e = 0 then
  (some ({ b := x0.b, at_ := x0.at_, e := x1 } : T_pack_Reader))
  else
  (some x0)
def m_pack_Reader_Num_L1 (z43 : (List UInt8)) (j3 : UInt64 → Option (UInt64 × T_pack_Reader)) : Nat → UInt64 → Int → Option (UInt64 × T_pack_Reader)
  | 0, _, _ => none
  | n + 1, y68, y69 =>
    if y69 < (z43.length : Int) then
    ((idx z43 y69).bind fun z72 =>
      m_pack_Reader_Num_L1 z43 j3 n ((y68 <<< UInt64.ofNat 8) ||| (toU64 ((z72).toNat : Int))) (W64 (y69 + 1)))
    else
    (j3 y68)
def m_pack_Reader_Num (x0 : T_pack_Reader) : Option (UInt64 × T_pack_Reader) :=
  jn (fun (_ : Unit) =>
    ((m_pack_Reader_fail x0 2).bind fun p4 =>
      some ((0 : UInt64), p4))) fun j1 =>
  if x0.e ≠ 0 then
  (some ((0 : UInt64), x0))
  else
  ((m_pack_Reader_Left x0).bind fun p15 =>
    if p15 = 0 then
    (j1 ())
    else
    ((idx x0.b x0.at_).bind fun z25 =>
      (m_math_bits_LeadingZeros8 (~~~ z25)).bind fun p28 =>
      (m_pack_Reader_Left x0).bind fun p30 =>
      if p28 ≥ p30 then
      (j1 ())
      else
      (jn (fun (y38 : UInt64) =>
          ((cutL x0.b (W64 (x0.at_ + 1)) (W64 ((W64 (x0.at_ + 1)) + p28))).bind fun z43 =>
            jn (fun (y50 : UInt64) =>
              ((m_pack_others y50).bind fun p52 =>
                if p52 ≠ p28 then
                ((m_pack_Reader_fail x0 3).bind fun p55 =>
                  some ((0 : UInt64), p55))
                else
                (some (y50, ({ b := x0.b, at_ := W64 (x0.at_ + (W64 (1 + p28))), e := x0.e } : T_pack_Reader))))) fun j3 =>
            m_pack_Reader_Num_L1 z43 j3 fuel y38 0)) fun j2 =>
        if p28 < 8 then
        ((idx x0.b x0.at_).bind fun z78 =>
          j2 (toU64 ((z78 &&& (shr8 (127 : UInt8) ((toU64 p28).toNat))).toNat : Int)))
        else
        (j2 (0 : UInt64)))))
def m_pack_Reader_Count (x0 : T_pack_Reader) (x1 : Int) : Option (Int × T_pack_Reader) :=
  (m_pack_Reader_Num x0).bind fun p4 =>
  if (p4.2.e = 0) ∧ ((x1 < 0) ∨ (((p4.1).toNat : Int) > ((toU64 x1).toNat : Int))) then
  ((m_pack_Reader_fail ({ b := p4.2.b, at_ := x0.at_, e := p4.2.e } : T_pack_Reader) 4).bind fun p21 =>
    some (0, p21))
  else
  (some (W64 ((p4.1).toNat : Int), p4.2))
def m_pack_Reader_Raw (x0 : T_pack_Reader) (x1 : Int) : Option ((List UInt8) × T_pack_Reader) :=
  if x0.e ≠ 0 then
  (some (([] : List UInt8), x0))
  else
  (if x1 < 0 then
    ((m_pack_Reader_fail x0 1).bind fun p12 =>
      some (([] : List UInt8), p12))
    else
    ((m_pack_Reader_Left x0).bind fun p22 =>
      if x1 > p22 then
      ((m_pack_Reader_fail x0 2).bind fun p29 =>
        some (([] : List UInt8), p29))
      else
      ((cutL x0.b (W64 ((W64 (x0.at_ + x1)) - x1)) (W64 (x0.at_ + x1))).bind fun z40 =>
        (m_bytes_Clone z40).bind fun p42 =>
        some (p42, ({ b := x0.b, at_ := W64 (x0.at_ + x1), e := x0.e } : T_pack_Reader)))))
def m_pack_Reader_Text (x0 : T_pack_Reader) (x1 : Int) : Option ((List UInt8) × T_pack_Reader) :=
  (m_pack_Reader_Count x0 x1).bind fun p4 =>
  (m_pack_Reader_Raw p4.2 p4.1).bind fun p12 =>
  jn (fun (y23 : T_pack_Reader) =>
    (some (p12.1, y23))) fun j1 =>
  if p12.2.e ≠ 0 then
  (j1 ({ b := p12.2.b, at_ := x0.at_, e := p12.2.e } : T_pack_Reader))
  else
  (j1 p12.2)
def m_pack_Zag (x0 : UInt64) : Option Int :=
  some (xorZ (W64 ((x0 >>> UInt64.ofNat 1).toNat : Int)) (IntKind.i64.wrap (0 - (W64 ((x0 &&& (1 : UInt64)).toNat : Int)))))
def m_pack_Reader_Int (x0 : T_pack_Reader) : Option (Int × T_pack_Reader) :=
  (m_pack_Reader_Num x0).bind fun p2 =>
  (m_pack_Zag p2.1).bind fun p6 =>
  some (p6, p2.2)
def m_pack_Reader_Fix_L1 (p2 : ((List UInt8) × T_pack_Reader)) (j1 : UInt64 → Option (UInt64 × T_pack_Reader)) : Nat → UInt64 → Int → Option (UInt64 × T_pack_Reader)
  | 0, _, _ => none
  | n + 1, y11, y12 =>
    if y12 < (p2.1.length : Int) then
    ((idx p2.1 y12).bind fun z15 =>
      m_pack_Reader_Fix_L1 p2 j1 n (y11 ||| (shl64 (toU64 ((z15).toNat : Int)) ((toU64 (W64 (8 * y12))).toNat))) (W64 (y12 + 1)))
    else
    (j1 y11)
def m_pack_Reader_Fix (x0 : T_pack_Reader) : Option (UInt64 × T_pack_Reader) :=
  (m_pack_Reader_Raw x0 8).bind fun p2 =>
  jn (fun (y8 : UInt64) =>
    (some (y8, p2.2))) fun j1 =>
  m_pack_Reader_Fix_L1 p2 j1 fuel (0 : UInt64) 0
def m_pack_Reader_Err (x0 : T_pack_Reader) : Option Int :=
  some x0.e
def m_point_reader_signed (x0 : T_point_reader) : Option (Int × T_point_reader) :=
  (m_pack_Reader_Int x0.Reader).bind fun p4 =>
  jn (fun (y11 : Bool) =>
    (jn (fun (y14 : Bool) =>
        (jn (fun (y16 : T_point_reader) =>
            (some (p4.1, y16))) fun j3 =>
          if y14 = true then
          (j3 ({ Reader := p4.2, e := 4 } : T_point_reader))
          else
          (j3 ({ Reader := p4.2, e := x0.e } : T_point_reader)))) fun j2 =>
      if y11 = true then
      ((m_pack_Zig p4.1).bind fun p26 =>
        j2 (decide (((p26).toNat : Int) > 9007199254740992)))
      else
      (j2 false))) fun j1 =>
  if x0.e = 0 then
  ((m_pack_Reader_Err p4.2).bind fun p31 =>
    j1 (decide (p31 = 0)))
  else
  (j1 false)
def m_point_reader_side_L1 (y9 : Int) (j3 : T_point_reader → T_api_Side → Option (T_api_Side × T_point_reader)) : Nat → Int → T_point_reader → T_api_Side → Option (T_api_Side × T_point_reader)
  | 0, _, _, _ => none
  | n + 1, y24, y25, y26 =>
    jn (fun (y33 : Bool) =>
      (jn (fun (y36 : Bool) =>
          (if y36 = true then
            (jn (fun (y39 : T_point_reader) (y40 : T_api_Side) =>
                (m_point_reader_side_L1 y9 j3 n (W64 (y24 + 1)) y39 y40)) fun j6 =>
              (m_pack_Reader_Num y25.Reader).bind fun p49 =>
              (appL y26.Counts ([p49.1] : List UInt64)).bind fun z56 =>
              j6 ({ Reader := p49.2, e := y25.e } : T_point_reader) ({ Offset := y26.Offset, Counts := z56 } : T_api_Side))
            else
            (j3 y25 y26))) fun j5 =>
        if y33 = true then
        ((m_pack_Reader_Err y25.Reader).bind fun p106 =>
          j5 (decide (p106 = 0)))
        else
        (j5 false))) fun j4 =>
    if y24 < y9 then
    (j4 (decide (y25.e = 0)))
    else
    (j4 false)
def m_point_reader_side (x0 : T_point_reader) : Option (T_api_Side × T_point_reader) :=
  jn (fun (y9 : Int) (y10 : T_point_reader) =>
    (jn (fun (y12 : T_point_reader) (y13 : T_api_Side) =>
        (jn (fun (y17 : T_point_reader) (y18 : T_api_Side) =>
            (some (y18, y17))) fun j3 =>
          m_point_reader_side_L1 y9 j3 fuel 0 y12 y13)) fun j2 =>
      if y9 > 0 then
      ((m_point_reader_signed y10).bind fun p116 =>
        j2 p116.2 ({ Offset := p116.1, Counts := ([] : List UInt64) } : T_api_Side))
      else
      (j2 y10 ({ Offset := 0, Counts := ([] : List UInt64) } : T_api_Side)))) fun j1 =>
  if x0.e = 0 then
  ((m_pack_Reader_Count x0.Reader 160).bind fun p129 =>
    j1 p129.1 ({ Reader := p129.2, e := x0.e } : T_point_reader))
  else
  (j1 0 x0)
def m_point_reader_value (x0 : T_point_reader) (x1 : T_api_Point) : Option (T_point_reader × T_api_Point) :=
  if x1.Kind = 1 then
  ((m_pack_Reader_Int x0.Reader).bind fun p10 =>
    some (({ Reader := p10.2, e := x0.e } : T_point_reader), ({ Name := x1.Name, Attrs := x1.Attrs, Kind := x1.Kind, Temp := x1.Temp, Mono := x1.Mono, Start := x1.Start, Time := x1.Time, Int_ := p10.1, Re := x1.Re, Im := x1.Im, Hist := x1.Hist, Flags := x1.Flags } : T_api_Point)))
  else
  (jn (fun (y24 : Bool) =>
      (if y24 = true then
        ((m_pack_Reader_Fix x0.Reader).bind fun p29 =>
          some (({ Reader := p29.2, e := x0.e } : T_point_reader), ({ Name := x1.Name, Attrs := x1.Attrs, Kind := x1.Kind, Temp := x1.Temp, Mono := x1.Mono, Start := x1.Start, Time := x1.Time, Int_ := x1.Int_, Re := p29.1, Im := x1.Im, Hist := x1.Hist, Flags := x1.Flags } : T_api_Point)))
        else
        (if x1.Kind = 5 then
          ((m_pack_Reader_Fix x0.Reader).bind fun p49 =>
            (m_pack_Reader_Fix p49.2).bind fun p53 =>
            some (({ Reader := p53.2, e := x0.e } : T_point_reader), ({ Name := x1.Name, Attrs := x1.Attrs, Kind := x1.Kind, Temp := x1.Temp, Mono := x1.Mono, Start := x1.Start, Time := x1.Time, Int_ := x1.Int_, Re := p49.1, Im := p53.1, Hist := x1.Hist, Flags := x1.Flags } : T_api_Point)))
          else
          (if x1.Kind = 4 then
            ((m_point_reader_signed x0).bind fun p72 =>
              jn (fun (y88 : T_api_Point) (y89 : T_point_reader) =>
                ((m_point_reader_side y89).bind fun p91 =>
                  (m_point_reader_side p91.2).bind fun p102 =>
                  some (p102.2, ({ Name := y88.Name, Attrs := y88.Attrs, Kind := y88.Kind, Temp := y88.Temp, Mono := y88.Mono, Start := y88.Start, Time := y88.Time, Int_ := y88.Int_, Re := y88.Re, Im := y88.Im, Hist := ({ Scale := y88.Hist.Scale, Zero := y88.Hist.Zero, Pos := p91.1, Neg := p102.1 } : T_api_Hist), Flags := y88.Flags } : T_api_Point)))) fun j2 =>
              if p72.2.e = 0 then
              ((m_pack_Reader_Num p72.2.Reader).bind fun p114 =>
                j2 ({ Name := x1.Name, Attrs := x1.Attrs, Kind := x1.Kind, Temp := x1.Temp, Mono := x1.Mono, Start := x1.Start, Time := x1.Time, Int_ := x1.Int_, Re := x1.Re, Im := x1.Im, Hist := ({ Scale := p72.1, Zero := p114.1, Pos := x1.Hist.Pos, Neg := x1.Hist.Neg } : T_api_Hist), Flags := x1.Flags } : T_api_Point) ({ Reader := p114.2, e := p72.2.e } : T_point_reader))
              else
              (j2 ({ Name := x1.Name, Attrs := x1.Attrs, Kind := x1.Kind, Temp := x1.Temp, Mono := x1.Mono, Start := x1.Start, Time := x1.Time, Int_ := x1.Int_, Re := x1.Re, Im := x1.Im, Hist := ({ Scale := p72.1, Zero := x1.Hist.Zero, Pos := x1.Hist.Pos, Neg := x1.Hist.Neg } : T_api_Hist), Flags := x1.Flags } : T_api_Point) p72.2))
            else
            (some (x0, x1)))))) fun j1 =>
    if x1.Kind = 2 then
    (j1 (decide (x1.Kind = 2)))
    else
    (j1 (decide (x1.Kind = 3))))
def m_pack_Reader_Done (x0 : T_pack_Reader) : Option Int :=
  jn (fun (y8 : Bool) =>
    (if y8 = true then
      (some 3)
      else
      (some x0.e))) fun j1 =>
  if x0.e = 0 then
  ((m_pack_Reader_Left x0).bind fun p12 =>
    j1 (decide (p12 > 0)))
  else
  (j1 false)
def m_internal_stringslite_IndexByte (x0 : (List UInt8)) (x1 : UInt8) : Option Int :=
  some (Lib.indexByte x0 x1)
def m_internal_stringslite_Index (x0 : (List UInt8)) (x1 : (List UInt8)) : Option Int :=
  if ((x1.length : Int) = 0) ∨ (x1 = x0) then
  (some 0)
  else
  (if (x1.length : Int) = 1 then
    ((idx x1 0).bind fun z5 =>
      (m_internal_stringslite_IndexByte x0 z5).bind fun p6 =>
      some p6)
    else
    (if (x1.length : Int) ≥ (x0.length : Int) then
      (some (-1))
      else
      (none)))
def m_internal_stringslite_Cut (x0 : (List UInt8)) (x1 : (List UInt8)) : Option ((List UInt8) × (List UInt8) × Bool) :=
  (m_internal_stringslite_Index x0 x1).bind fun p1 =>
  if p1 ≥ 0 then
  ((cutL x0 0 p1).bind fun z5 =>
    (cutL x0 (W64 (p1 + (x1.length : Int))) ((x0).length)).bind fun z6 =>
    some (z5, z6, true))
  else
  (some (x0, ([] : List UInt8), false))
def m_strings_Cut (x0 : (List UInt8)) (x1 : (List UInt8)) : Option ((List UInt8) × (List UInt8) × Bool) :=
  (m_internal_stringslite_Cut x0 x1).bind fun p1 =>
  some (p1.1, p1.2.1, p1.2.2)
def m_label_pair (x0 : (List UInt8)) : Option (T_api_Pair × Int) :=
  (m_strings_Cut x0 ([61] : List UInt8)).bind fun p4 =>
  jn (fun (y6 : Bool) =>
    (jn (fun (y8 : Bool) =>
        (if y8 = true then
          (some (({ Key := ([] : List UInt8), Val := ([] : List UInt8) } : T_api_Pair), 3))
          else
          (some (({ Key := p4.1, Val := p4.2.1 } : T_api_Pair), 0)))) fun j2 =>
      if y6 = true then
      (j2 true)
      else
      ((m_label_isValue p4.2.1).bind fun p16 =>
        j2 (!p16)))) fun j1 =>
  if (!p4.2.2) = true then
  (j1 true)
  else
  ((m_label_isName p4.1).bind fun p19 =>
    j1 (!p19))
def m_label_follows_L1 (x0 : (List T_api_Pair)) (x1 : (List UInt8)) (j1 : Unit → Option Int) : Nat → Int → Option Int
  | 0, _ => none
  | n + 1, y7 =>
    if y7 < (x0.length : Int) then
    ((idx x0 y7).bind fun z10 =>
      if z10.Key = x1 then
      (some 8)
      else
      (m_label_follows_L1 x0 x1 j1 n (W64 (y7 + 1))))
    else
    (j1 ())
def m_label_follows (x0 : (List T_api_Pair)) (x1 : (List UInt8)) : Option Int :=
  jn (fun (_ : Unit) =>
    ((idx x0 (W64 ((x0.length : Int) - 1))).bind fun z4 =>
      if (Op.bytesLess x1 z4.Key) = true then
      (some 9)
      else
      (some 0))) fun j1 =>
  m_label_follows_L1 x0 x1 j1 fuel 0
def m_label_Parse_L1 (j1 : (List T_api_Pair) → Option ((List UInt8) × (List T_api_Pair) × Int × Int)) : Nat → (List T_api_Pair) → Int → (List UInt8) → Bool → Option ((List UInt8) × (List T_api_Pair) × Int × Int)
  | 0, _, _, _, _ => none
  | n + 1, y12, y15, y16, y17 =>
    if y17 = true then
    ((m_strings_Cut y16 ([59] : List UInt8)).bind fun p22 =>
      (m_label_pair p22.1).bind fun p24 =>
      jn (fun (y29 : Int) =>
        (jn (fun (y33 : Int) =>
            (if y33 ≠ 0 then
              (some (([] : List UInt8), ([] : List T_api_Pair), y15, y33))
              else
              ((appL y12 [p24.1]).bind fun z38 =>
                m_label_Parse_L1 j1 n z38 (W64 (y15 + (W64 ((p22.1.length : Int) + 1)))) p22.2.1 p22.2.2))) fun j3 =>
          if (y29 = 0) ∧ ((y12.length : Int) > 0) then
          ((m_label_follows y12 p24.1.Key).bind fun p41 =>
            j3 p41)
          else
          (j3 y29))) fun j2 =>
      if (y12.length : Int) = 4 then
      (j2 4)
      else
      (j2 p24.2))
    else
    (j1 y12)
def m_label_Parse (x0 : (List UInt8)) : Option ((List UInt8) × (List T_api_Pair) × Int × Int) :=
  (m_strings_Cut x0 ([59] : List UInt8)).bind fun p1 =>
  (m_label_isName p1.1).bind fun p3 =>
  if (!p3) = true then
  (some (([] : List UInt8), ([] : List T_api_Pair), 0, 3))
  else
  (jn (fun (y8 : (List T_api_Pair)) =>
      (some (p1.1, y8, 0, 0))) fun j1 =>
    m_label_Parse_L1 j1 fuel ([] : List T_api_Pair) (W64 ((p1.1.length : Int) + 1)) p1.2.1 p1.2.2)
def m_point_Read (x0 : (List UInt8)) : Option (T_api_Point × Int) :=
  (m_pack_NewReader x0).bind fun p6 =>
  (m_pack_Reader_Text p6 400).bind fun p15 =>
  (m_pack_Reader_Count p15.2 9007199254740992).bind fun p31 =>
  (m_pack_Reader_Count p31.2 9007199254740992).bind fun p35 =>
  (m_pack_Reader_Count p35.2 9007199254740992).bind fun p49 =>
  (m_pack_Reader_Count p49.2 9007199254740992).bind fun p59 =>
  (m_pack_Reader_Count p59.2 9007199254740992).bind fun p63 =>
  jn (fun (y90 : T_point_reader) (y91 : T_api_Point) =>
    ((m_point_reader_value y90 y91).bind fun p93 =>
      jn (fun (y105 : Int) =>
        (jn (fun (y109 : Int) (y110 : T_api_Point) =>
            (jn (fun (y117 : Int) =>
                (jn (fun (y130 : Int) =>
                    (if y130 ≠ 0 then
                      (some (({ Name := ([] : List UInt8), Attrs := ([] : List T_api_Pair), Kind := 0, Temp := 0, Mono := false, Start := 0, Time := 0, Int_ := 0, Re := (0 : UInt64), Im := (0 : UInt64), Hist := ({ Scale := 0, Zero := (0 : UInt64), Pos := ({ Offset := 0, Counts := ([] : List UInt64) } : T_api_Side), Neg := ({ Offset := 0, Counts := ([] : List UInt64) } : T_api_Side) } : T_api_Hist), Flags := 0 } : T_api_Point), y130))
                      else
                      (some (({ Name := y110.Name, Attrs := y110.Attrs, Kind := y110.Kind, Temp := y110.Temp, Mono := decide (p49.1 = 1), Start := y110.Start, Time := y110.Time, Int_ := y110.Int_, Re := y110.Re, Im := y110.Im, Hist := y110.Hist, Flags := y110.Flags } : T_api_Point), 0)))) fun j5 =>
                  if y117 = 0 then
                  ((m_point_Check ({ Name := y110.Name, Attrs := y110.Attrs, Kind := y110.Kind, Temp := y110.Temp, Mono := decide (p49.1 = 1), Start := y110.Start, Time := y110.Time, Int_ := y110.Int_, Re := y110.Re, Im := y110.Im, Hist := y110.Hist, Flags := y110.Flags } : T_api_Point)).bind fun p160 =>
                    j5 p160)
                  else
                  (j5 y117))) fun j4 =>
              if (y109 = 0) ∧ (p49.1 > 1) then
              (j4 3)
              else
              (j4 y109))) fun j3 =>
          if y105 = 0 then
          ((m_label_Parse p15.1).bind fun p166 =>
            j3 p166.2.2.2 ({ Name := p166.1, Attrs := p166.2.1, Kind := p93.2.Kind, Temp := p93.2.Temp, Mono := p93.2.Mono, Start := p93.2.Start, Time := p93.2.Time, Int_ := p93.2.Int_, Re := p93.2.Re, Im := p93.2.Im, Hist := p93.2.Hist, Flags := p93.2.Flags } : T_api_Point))
          else
          (j3 y105 p93.2))) fun j2 =>
      if p93.1.e = 0 then
      ((m_pack_Reader_Done p93.1.Reader).bind fun p182 =>
        j2 p182)
      else
      (j2 p93.1.e))) fun j1 =>
  (m_pack_Reader_Count p63.2 9007199254740992).bind fun p196 =>
  j1 ({ Reader := p196.2, e := 0 } : T_point_reader) ({ Name := ([] : List UInt8), Attrs := ([] : List T_api_Pair), Kind := p31.1, Temp := p35.1, Mono := false, Start := p63.1, Time := W64 (p63.1 + p196.1), Int_ := 0, Re := (0 : UInt64), Im := (0 : UInt64), Hist := ({ Scale := 0, Zero := (0 : UInt64), Pos := ({ Offset := 0, Counts := ([] : List UInt64) } : T_api_Side), Neg := ({ Offset := 0, Counts := ([] : List UInt64) } : T_api_Side) } : T_api_Hist), Flags := p59.1 } : T_api_Point)
def m_limnographlaw12_awake  : Option Bool :=
  (m_point_Key ({ Name := ([120] : List UInt8), Attrs := [], Kind := 1, Temp := 1, Mono := true, Start := 0, Time := 10, Int_ := 5, Re := (0 : UInt64), Im := (0 : UInt64), Hist := ({ Scale := 0, Zero := (0 : UInt64), Pos := ({ Offset := 0, Counts := [] } : T_api_Side), Neg := ({ Offset := 0, Counts := [] } : T_api_Side) } : T_api_Hist), Flags := 0 } : T_api_Point)).bind fun p4 =>
  (m_point_Bytes ({ Name := ([120] : List UInt8), Attrs := [], Kind := 1, Temp := 1, Mono := true, Start := 0, Time := 10, Int_ := 5, Re := (0 : UInt64), Im := (0 : UInt64), Hist := ({ Scale := 0, Zero := (0 : UInt64), Pos := ({ Offset := 0, Counts := [] } : T_api_Side), Neg := ({ Offset := 0, Counts := [] } : T_api_Side) } : T_api_Hist), Flags := 0 } : T_api_Point)).bind fun p6 =>
  (m_point_Read p6.1).bind fun p9 =>
  jn (fun (y19 : Bool) =>
    (jn (fun (y29 : Bool) =>
        (some y29)) fun j2 =>
      if ((((y19 = true) ∧ (p4.2 = 0)) ∧ (p6.2 = 0)) ∧ (p9.2 = 0)) ∧ (p9.1.Int_ = 5) then
      ((m_point_Check ({ Name := ([120] : List UInt8), Attrs := [], Kind := 1, Temp := 1, Mono := true, Start := 0, Time := 10, Int_ := (-5), Re := (0 : UInt64), Im := (0 : UInt64), Hist := ({ Scale := 0, Zero := (0 : UInt64), Pos := ({ Offset := 0, Counts := [] } : T_api_Side), Neg := ({ Offset := 0, Counts := [] } : T_api_Side) } : T_api_Hist), Flags := 0 } : T_api_Point)).bind fun p32 =>
        j2 (decide (p32 = 1)))
      else
      (j2 false))) fun j1 =>
  if p4.1 = ([120, 32, 49, 49, 49] : List UInt8) then
  (j1 (decide (p6.1 = ([1, 120, 1, 1, 1, 0, 0, 10, 10] : List UInt8))))
  else
  (j1 false)
def m_limnographref11_Light_L1 (x0 : (List T_api_Pair)) (j1 : Unit → Option Bool) : Nat → Int → Option Bool
  | 0, _ => none
  | n + 1, y5 =>
    if y5 < (x0.length : Int) then
    ((idx x0 y5).bind fun z8 =>
      jn (fun (y10 : Bool) =>
        (if y10 = true then
          (some false)
          else
          (m_limnographref11_Light_L1 x0 j1 n (W64 (y5 + 1))))) fun j2 =>
      if (z8.Key.length : Int) > 100 then
      (j2 true)
      else
      ((idx x0 y5).bind fun z14 =>
        j2 (decide ((z14.Val.length : Int) > 100))))
    else
    (j1 ())
def m_limnographref11_Light (x0 : (List T_api_Pair)) : Option Bool :=
  if (x0.length : Int) > 20 then
  (some false)
  else
  (jn (fun (_ : Unit) =>
      (some true)) fun j1 =>
    m_limnographref11_Light_L1 x0 j1 fuel 0)
def m_limnographref08_Light (x0 : T_api_Hist) : Option Bool :=
  some (decide (((x0.Pos.Counts.length : Int) ≤ 300) ∧ ((x0.Neg.Counts.length : Int) ≤ 300)))
def m_limnographref12_Light (x0 : T_api_Point) : Option Bool :=
  jn (fun (y13 : Bool) =>
    (jn (fun (y15 : Bool) =>
        (some y15)) fun j2 =>
      if y13 = true then
      ((m_limnographref08_Light x0.Hist).bind fun p18 =>
        j2 p18)
      else
      (j2 false))) fun j1 =>
  if (x0.Name.length : Int) ≤ 100 then
  ((m_limnographref11_Light x0.Attrs).bind fun p21 =>
    j1 p21)
  else
  (j1 false)
def m_slices_Clone_uint64_uint64 (x0 : (List UInt64)) : Option (List UInt64) :=
  appL [] x0
def m_hist_Clone (x0 : T_api_Hist) : Option T_api_Hist :=
  (m_slices_Clone_uint64_uint64 x0.Pos.Counts).bind fun p14 =>
  (m_slices_Clone_uint64_uint64 x0.Neg.Counts).bind fun p17 =>
  some ({ Scale := x0.Scale, Zero := x0.Zero, Pos := ({ Offset := x0.Pos.Offset, Counts := p14 } : T_api_Side), Neg := ({ Offset := x0.Neg.Offset, Counts := p17 } : T_api_Side) } : T_api_Hist)
def m_point_Clone (x0 : T_api_Point) : Option T_api_Point :=
  (m_slices_Clone_api_Pair_api_Pair x0.Attrs).bind fun p16 =>
  (m_hist_Clone x0.Hist).bind fun p21 =>
  some ({ Name := x0.Name, Attrs := p16, Kind := x0.Kind, Temp := x0.Temp, Mono := x0.Mono, Start := x0.Start, Time := x0.Time, Int_ := x0.Int_, Re := x0.Re, Im := x0.Im, Hist := p21, Flags := x0.Flags } : T_api_Point)
def m_limnographref11_Sorted_L2 (x0 : (List T_api_Pair)) (y7 : (List T_api_Pair)) (y10 : Int) (j2 : Int → Option (List T_api_Pair)) : Nat → Int → Option (List T_api_Pair)
  | 0, _ => none
  | n + 1, y33 =>
    jn (fun (y35 : Bool) =>
      (if y35 = true then
        (m_limnographref11_Sorted_L2 x0 y7 y10 j2 n (W64 (y33 - 1)))
        else
        (j2 y33))) fun j3 =>
    if y33 > 0 then
    ((idx y7 (W64 (y33 - 1))).bind fun z40 =>
      (idx x0 y10).bind fun z41 =>
      j3 (Op.bytesLess z41.Key z40.Key))
    else
    (j3 false)
def m_limnographref11_Sorted_L1 (x0 : (List T_api_Pair)) (j1 : (List T_api_Pair) → Option (List T_api_Pair)) : Nat → (List T_api_Pair) → Int → Option (List T_api_Pair)
  | 0, _, _ => none
  | n + 1, y7, y10 =>
    if y10 < (x0.length : Int) then
    (jn (fun (y15 : Int) =>
        ((cutL y7 0 y15).bind fun z17 =>
          (appL ([] : List T_api_Pair) z17).bind fun z21 =>
          (idx x0 y10).bind fun z25 =>
          (appL z21 [z25]).bind fun z27 =>
          (cutL y7 y15 ((y7).length)).bind fun z29 =>
          (appL z27 z29).bind fun z31 =>
          m_limnographref11_Sorted_L1 x0 j1 n z31 (W64 (y10 + 1)))) fun j2 =>
      m_limnographref11_Sorted_L2 x0 y7 y10 j2 fuel (y7.length : Int))
    else
    (j1 y7)
def m_limnographref11_Sorted (x0 : (List T_api_Pair)) : Option (List T_api_Pair) :=
  jn (fun (y3 : (List T_api_Pair)) =>
    (some y3)) fun j1 =>
  m_limnographref11_Sorted_L1 x0 j1 fuel ([] : List T_api_Pair) 0
def m_limnographref11_Same_L1 (x0 : (List T_api_Pair)) (x1 : (List T_api_Pair)) (j1 : Unit → Option Bool) : Nat → Int → Option Bool
  | 0, _ => none
  | n + 1, y7 =>
    if y7 < (x0.length : Int) then
    ((idx x0 y7).bind fun z11 =>
      (idx x1 y7).bind fun z14 =>
      if ¬ (z11 = z14) then
      (some false)
      else
      (m_limnographref11_Same_L1 x0 x1 j1 n (W64 (y7 + 1))))
    else
    (j1 ())
def m_limnographref11_Same (x0 : (List T_api_Pair)) (x1 : (List T_api_Pair)) : Option Bool :=
  if (x0.length : Int) ≠ (x1.length : Int) then
  (some false)
  else
  (jn (fun (_ : Unit) =>
      (some true)) fun j1 =>
    m_limnographref11_Same_L1 x0 x1 j1 fuel 0)
def m_limnographref08_SameSide_L1 (x0 : T_api_Side) (x1 : T_api_Side) (j1 : Unit → Option Bool) : Nat → Int → Option Bool
  | 0, _ => none
  | n + 1, y17 =>
    if y17 < (x0.Counts.length : Int) then
    ((idx x0.Counts y17).bind fun z21 =>
      (idx x1.Counts y17).bind fun z24 =>
      if ((z21).toNat : Int) ≠ ((z24).toNat : Int) then
      (some false)
      else
      (m_limnographref08_SameSide_L1 x0 x1 j1 n (W64 (y17 + 1))))
    else
    (j1 ())
def m_limnographref08_SameSide (x0 : T_api_Side) (x1 : T_api_Side) : Option Bool :=
  if (x0.Offset ≠ x1.Offset) ∨ ((x0.Counts.length : Int) ≠ (x1.Counts.length : Int)) then
  (some false)
  else
  (jn (fun (_ : Unit) =>
      (some true)) fun j1 =>
    m_limnographref08_SameSide_L1 x0 x1 j1 fuel 0)
def m_limnographref08_Same (x0 : T_api_Hist) (x1 : T_api_Hist) : Option Bool :=
  jn (fun (y21 : Bool) =>
    (jn (fun (y23 : Bool) =>
        (some y23)) fun j2 =>
      if y21 = true then
      ((m_limnographref08_SameSide x0.Neg x1.Neg).bind fun p26 =>
        j2 p26)
      else
      (j2 false))) fun j1 =>
  if (x0.Scale = x1.Scale) ∧ (((x0.Zero).toNat : Int) = ((x1.Zero).toNat : Int)) then
  ((m_limnographref08_SameSide x0.Pos x1.Pos).bind fun p29 =>
    j1 p29)
  else
  (j1 false)
def m_limnographref12_Same (x0 : T_api_Point) (x1 : T_api_Point) : Option Bool :=
  jn (fun (y25 : Bool) =>
    (if y25 = true then
      (some false)
      else
      (if ((((x0.Kind ≠ x1.Kind) ∨ (x0.Temp ≠ x1.Temp)) ∨ (x0.Mono ≠ x1.Mono)) ∨ (x0.Start ≠ x1.Start)) ∨ (x0.Time ≠ x1.Time) then
        (some false)
        else
        (jn (fun (y43 : Bool) =>
            (some y43)) fun j2 =>
          if (((x0.Int_ = x1.Int_) ∧ (((x0.Re).toNat : Int) = ((x1.Re).toNat : Int))) ∧ (((x0.Im).toNat : Int) = ((x1.Im).toNat : Int))) ∧ (x0.Flags = x1.Flags) then
          ((m_limnographref08_Same x0.Hist x1.Hist).bind fun p46 =>
            j2 p46)
          else
          (j2 false))))) fun j1 =>
  if x0.Name ≠ x1.Name then
  (j1 true)
  else
  ((m_limnographref11_Sorted x0.Attrs).bind fun p50 =>
    (m_limnographref11_Sorted x1.Attrs).bind fun p53 =>
    (m_limnographref11_Same p50 p53).bind fun p56 =>
    j1 (!p56))
def m_slices_Equal_api_Pair_api_Pair_L1 (x0 : (List T_api_Pair)) (x1 : (List T_api_Pair)) (j1 : Unit → Option Bool) : Nat → Int → Option Bool
  | 0, _ => none
  | n + 1, y7 =>
    if y7 < (x0.length : Int) then
    ((idx x0 y7).bind fun z11 =>
      (idx x1 y7).bind fun z14 =>
      if ¬ (z11 = z14) then
      (some false)
      else
      (m_slices_Equal_api_Pair_api_Pair_L1 x0 x1 j1 n (W64 (y7 + 1))))
    else
    (j1 ())
def m_slices_Equal_api_Pair_api_Pair (x0 : (List T_api_Pair)) (x1 : (List T_api_Pair)) : Option Bool :=
  if (x0.length : Int) ≠ (x1.length : Int) then
  (some false)
  else
  (jn (fun (_ : Unit) =>
      (some true)) fun j1 =>
    m_slices_Equal_api_Pair_api_Pair_L1 x0 x1 j1 fuel 0)
def m_slices_Equal_uint64_uint64_L1 (x0 : (List UInt64)) (x1 : (List UInt64)) (j1 : Unit → Option Bool) : Nat → Int → Option Bool
  | 0, _ => none
  | n + 1, y7 =>
    if y7 < (x0.length : Int) then
    ((idx x0 y7).bind fun z11 =>
      (idx x1 y7).bind fun z14 =>
      if ((z11).toNat : Int) ≠ ((z14).toNat : Int) then
      (some false)
      else
      (m_slices_Equal_uint64_uint64_L1 x0 x1 j1 n (W64 (y7 + 1))))
    else
    (j1 ())
def m_slices_Equal_uint64_uint64 (x0 : (List UInt64)) (x1 : (List UInt64)) : Option Bool :=
  if (x0.length : Int) ≠ (x1.length : Int) then
  (some false)
  else
  (jn (fun (_ : Unit) =>
      (some true)) fun j1 =>
    m_slices_Equal_uint64_uint64_L1 x0 x1 j1 fuel 0)
def m_hist_same (x0 : T_api_Side) (x1 : T_api_Side) : Option Bool :=
  jn (fun (y13 : Bool) =>
    (some y13)) fun j1 =>
  if x0.Offset = x1.Offset then
  ((m_slices_Equal_uint64_uint64 x0.Counts x1.Counts).bind fun p16 =>
    j1 p16)
  else
  (j1 false)
def m_hist_Same (x0 : T_api_Hist) (x1 : T_api_Hist) : Option Bool :=
  jn (fun (y21 : Bool) =>
    (jn (fun (y23 : Bool) =>
        (some y23)) fun j2 =>
      if y21 = true then
      ((m_hist_same x0.Neg x1.Neg).bind fun p26 =>
        j2 p26)
      else
      (j2 false))) fun j1 =>
  if (x0.Scale = x1.Scale) ∧ (((x0.Zero).toNat : Int) = ((x1.Zero).toNat : Int)) then
  ((m_hist_same x0.Pos x1.Pos).bind fun p29 =>
    j1 p29)
  else
  (j1 false)
def m_point_plain (x0 : T_api_Point) : Option T_point_what :=
  some ({ kind := x0.Kind, temp := x0.Temp, start := x0.Start, time := x0.Time, value := x0.Int_, flags := x0.Flags, mono := x0.Mono, re := x0.Re, im := x0.Im } : T_point_what)
def m_point_Same (x0 : T_api_Point) (x1 : T_api_Point) : Option Bool :=
  jn (fun (y25 : Bool) =>
    (if y25 = true then
      (some false)
      else
      ((m_point_plain x0).bind fun p29 =>
        (m_point_plain x1).bind fun p31 =>
        some (decide (p29 = p31))))) fun j1 =>
  if x0.Name ≠ x1.Name then
  (j1 true)
  else
  ((m_label_Sorted x0.Attrs).bind fun p35 =>
    (m_label_Sorted x1.Attrs).bind fun p38 =>
    (m_slices_Equal_api_Pair_api_Pair p35 p38).bind fun p41 =>
    if (!p41) = true then
    (j1 true)
    else
    ((m_hist_Same x0.Hist x1.Hist).bind fun p44 =>
      j1 (!p44)))
def m_limnographlaw12_PointBack_L1 (j4 : Unit → Option Bool) : Nat → Int → T_api_Point → Option Bool
  | 0, _, _ => none
  | n + 1, y69, y70 =>
    if y69 < (y70.Hist.Pos.Counts.length : Int) then
    ((idx y70.Hist.Pos.Counts y69).bind fun z80 =>
      (idx y70.Hist.Pos.Counts y69).bind fun z81 =>
      m_limnographlaw12_PointBack_L1 j4 n (W64 (y69 + 1)) ({ Name := y70.Name, Attrs := y70.Attrs, Kind := y70.Kind, Temp := y70.Temp, Mono := y70.Mono, Start := y70.Start, Time := y70.Time, Int_ := y70.Int_, Re := y70.Re, Im := y70.Im, Hist := ({ Scale := y70.Hist.Scale, Zero := y70.Hist.Zero, Pos := ({ Offset := y70.Hist.Pos.Offset, Counts := (setI y70.Hist.Pos.Counts y69 (z80 + (1 : UInt64))) } : T_api_Side), Neg := y70.Hist.Neg } : T_api_Hist), Flags := y70.Flags } : T_api_Point))
    else
    (j4 ())
def m_limnographlaw12_PointBack_L2 (j3 : T_api_Point → Option Bool) : Nat → Int → T_api_Point → Option Bool
  | 0, _, _ => none
  | n + 1, y84, y85 =>
    if y84 < (y85.Attrs.length : Int) then
    ((idx y85.Attrs y84).bind fun z94 =>
      m_limnographlaw12_PointBack_L2 j3 n (W64 (y84 + 1)) ({ Name := y85.Name, Attrs := (setI y85.Attrs y84 ({ Key := ([33] : List UInt8), Val := z94.Val } : T_api_Pair)), Kind := y85.Kind, Temp := y85.Temp, Mono := y85.Mono, Start := y85.Start, Time := y85.Time, Int_ := y85.Int_, Re := y85.Re, Im := y85.Im, Hist := y85.Hist, Flags := y85.Flags } : T_api_Point))
    else
    (j3 y85)
def m_limnographlaw12_PointBack_L3 (p19 : ((List UInt8) × Int)) (j2 : Unit → Option Bool) : Nat → (List UInt8) → Int → Option Bool
  | 0, _, _ => none
  | n + 1, y97, y98 =>
    if y98 < ((p19.1).length : Int) then
    ((idx y97 y98).bind fun z101 =>
      m_limnographlaw12_PointBack_L3 p19 j2 n (setI y97 y98 (255 : UInt8)) (W64 (y98 + 1)))
    else
    (j2 ())
def m_limnographlaw12_PointBack (x0 : T_api_Point) : Option Bool :=
  (m_limnographlaw12_awake ).bind fun p13 =>
  if (!p13) = true then
  (some false)
  else
  ((m_limnographref12_Light x0).bind fun p16 =>
    if (!p16) = true then
    (some true)
    else
    ((m_point_Bytes x0).bind fun p19 =>
      if p19.2 ≠ 0 then
      (jn (fun (y23 : Bool) =>
          (some y23)) fun j1 =>
        if (p19.1.length : Int) = 0 then
        ((m_point_Check x0).bind fun p26 =>
          j1 (decide (p19.2 = p26)))
        else
        (j1 false))
      else
      ((m_point_Read p19.1).bind fun p28 =>
        (m_point_Clone x0).bind fun p36 =>
        jn (fun (_ : Unit) =>
          (jn (fun (y45 : T_api_Point) =>
              (jn (fun (_ : Unit) =>
                  (jn (fun (y54 : Bool) =>
                      (jn (fun (y56 : Bool) =>
                          (jn (fun (y58 : Bool) =>
                              (some y58)) fun j7 =>
                            if y56 = true then
                            ((m_point_Check x0).bind fun p61 =>
                              j7 (decide (p61 = 0)))
                            else
                            (j7 false))) fun j6 =>
                        if y54 = true then
                        ((m_point_Same x0 p28.1).bind fun p64 =>
                          j6 p64)
                        else
                        (j6 false))) fun j5 =>
                    if p28.2 = 0 then
                    ((m_limnographref12_Same x0 p28.1).bind fun p67 =>
                      j5 p67)
                    else
                    (j5 false))) fun j4 =>
                m_limnographlaw12_PointBack_L1 j4 fuel 0 y45)) fun j3 =>
            m_limnographlaw12_PointBack_L2 j3 fuel 0 p36)) fun j2 =>
        m_limnographlaw12_PointBack_L3 p19 j2 fuel p19.1 0)))
def m_limnographlaw12_PointKeys (x0 : T_api_Point) (x1 : T_api_Point) : Option Bool :=
  (m_limnographlaw12_awake ).bind fun p25 =>
  if (!p25) = true then
  (some false)
  else
  ((m_limnographref12_Light x0).bind fun p28 =>
    jn (fun (y30 : Bool) =>
      (if y30 = true then
        (some true)
        else
        (jn (fun (y33 : Bool) =>
            (if y33 = true then
              (some false)
              else
              ((m_point_Key x0).bind fun p36 =>
                (m_point_Key x1).bind fun p38 =>
                if (p36.2 ≠ 0) ∨ (p38.2 ≠ 0) then
                (some true)
                else
                (jn (fun (y43 : Bool) =>
                    (some (decide (decide (p36.1 = p38.1) = y43)))) fun j3 =>
                  if x0.Name = x1.Name then
                  (if x0.Kind = x1.Kind then
                    (if x0.Temp = x1.Temp then
                      (if x0.Mono = x1.Mono then
                        ((m_limnographref11_Sorted x0.Attrs).bind fun p50 =>
                          (m_limnographref11_Sorted x1.Attrs).bind fun p53 =>
                          (m_limnographref11_Same p50 p53).bind fun p56 =>
                          j3 p56)
                        else
                        (j3 false))
                      else
                      (j3 false))
                    else
                    (j3 false))
                  else
                  (j3 false))))) fun j2 =>
          (m_point_Same x0 x1).bind fun p59 =>
          (m_limnographref12_Same x0 x1).bind fun p61 =>
          if p59 ≠ p61 then
          (j2 true)
          else
          ((m_point_Clone x0).bind fun p64 =>
            (m_point_Same x0 p64).bind fun p69 =>
            j2 (!p69))))) fun j1 =>
    if (!p28) = true then
    (j1 true)
    else
    ((m_limnographref12_Light x1).bind fun p72 =>
      j1 (!p72)))
end Go.Proofs.YtfcpdojcfogkbaaGreat
