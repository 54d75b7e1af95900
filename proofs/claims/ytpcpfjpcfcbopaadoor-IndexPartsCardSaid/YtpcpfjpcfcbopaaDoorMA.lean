/-
  Plain forms of functions of the program: what each computes, told over lists and numbers. Printed by a program.
-/
import Derived.Test.YtpcpfjpcfcbopaaDoorWw
import Derived.Test.YtpcpfjpcfcbopaaDoorWme
import Derived.Test.YtpcpfjpcfcbopaaDoorWka
import Derived.Test.YtpcpfjpcfcbopaaDoorWpl
set_option linter.unusedVariables false
set_option linter.unusedSimpArgs false
namespace Go.Proofs.YtpcpfjpcfcbopaaDoor
open Go Go.RowKit Go.Wk
structure T_api_Pair where
  Key : (List UInt8)
  Val : (List UInt8)
  deriving DecidableEq
def T_api_Pair.rep : Rep T_api_Pair := Rep.map (fun x => (x.Key, x.Val)) (Rep.two textR textR)
theorem T_api_Pair.flat : T_api_Pair.rep.Flat := map_flat _ (two_flat text_flat text_flat)
structure T_api_Side where
  Offset : Int
  Counts : (List UInt64)
  deriving DecidableEq
def T_api_Side.rep : Rep T_api_Side := Rep.map (fun x => (x.Offset, x.Counts)) (Rep.two (intR .i64) (Rep.sl w64R))
structure T_api_Hist where
  Scale : Int
  Zero : UInt64
  Pos : T_api_Side
  Neg : T_api_Side
  deriving DecidableEq
def T_api_Hist.rep : Rep T_api_Hist := Rep.map (fun x => (x.Scale, (x.Zero, (x.Pos, x.Neg)))) (Rep.two (intR .i64) (Rep.two w64R (Rep.two T_api_Side.rep T_api_Side.rep)))
structure T_api_Point where
  Name : (List UInt8)
  Attrs : (List T_api_Pair)
  Kind : Int
  Temp : Int
  Mono : Bool
  Start : Int
  Time : Int
  Int_ : Int
  Re : UInt64
  Im : UInt64
  Hist : T_api_Hist
  Flags : Int
  deriving DecidableEq
def T_api_Point.rep : Rep T_api_Point := Rep.map (fun x => (x.Name, (x.Attrs, (x.Kind, (x.Temp, (x.Mono, (x.Start, (x.Time, (x.Int_, (x.Re, (x.Im, (x.Hist, x.Flags)))))))))))) (Rep.two textR (Rep.two (Rep.sl T_api_Pair.rep) (Rep.two (intR .i64) (Rep.two (intR .i64) (Rep.two boolR (Rep.two (intR .i64) (Rep.two (intR .i64) (Rep.two (intR .i64) (Rep.two w64R (Rep.two w64R (Rep.two T_api_Hist.rep (intR .i64))))))))))))
structure T_arr2_api_Side where
  a0 : T_api_Side
  a1 : T_api_Side
  deriving DecidableEq
def T_arr2_api_Side.rep : Rep T_arr2_api_Side := Rep.map (fun x => (x.a0, x.a1)) (Rep.two T_api_Side.rep T_api_Side.rep)
structure T_index_Index where
  keys : (List (List UInt8))
  rows : (Ko T_api_Pair Int)
  deriving DecidableEq
structure T_api_Match where
  Key : (List UInt8)
  Glob : (List UInt8)
  Not : Bool
  deriving DecidableEq
def T_api_Match.rep : Rep T_api_Match := Rep.map (fun x => (x.Key, (x.Glob, x.Not))) (Rep.two textR (Rep.two textR boolR))
theorem T_api_Match.flat : T_api_Match.rep.Flat := map_flat _ (two_flat text_flat (two_flat text_flat bool_flat))
structure T_glob_set where
  a0 : UInt64
  a1 : UInt64
  a2 : UInt64
  a3 : UInt64
  deriving DecidableEq
def T_glob_set.rep : Rep T_glob_set := Rep.map (fun x => (x.a0, (x.a1, (x.a2, x.a3)))) (Rep.two w64R (Rep.two w64R (Rep.two w64R w64R)))
theorem T_glob_set.flat : T_glob_set.rep.Flat := map_flat _ (two_flat w64_flat (two_flat w64_flat (two_flat w64_flat w64_flat)))
structure T_glob_piece where
  kind : Int
  set : T_glob_set
  plain : Bool
  c : UInt8
  deriving DecidableEq
def T_glob_piece.rep : Rep T_glob_piece := Rep.map (fun x => (x.kind, (x.set, (x.plain, x.c)))) (Rep.two (intR .i64) (Rep.two T_glob_set.rep (Rep.two boolR byteR)))
theorem T_glob_piece.flat : T_glob_piece.rep.Flat := map_flat _ (two_flat (int_flat _) (two_flat T_glob_set.flat (two_flat bool_flat byte_flat)))
structure T_glob_fault where
  at_ : Int
  e : Int
  deriving DecidableEq
def T_glob_fault.rep : Rep T_glob_fault := Rep.map (fun x => (x.at_, x.e)) (Rep.two (intR .i64) (intR .i64))
theorem T_glob_fault.flat : T_glob_fault.rep.Flat := map_flat _ (two_flat (int_flat _) (int_flat _))
structure T_glob_Glob where
  text : (List UInt8)
  pieces : (List T_glob_piece)
  deriving DecidableEq
def T_glob_Glob.rep : Rep T_glob_Glob := Rep.map (fun x => (x.text, x.pieces)) (Rep.two textR (Rep.sl T_glob_piece.rep))
structure T_pack_Writer where
  b : (List UInt8)
  deriving DecidableEq
def T_pack_Writer.rep : Rep T_pack_Writer := Rep.map (fun x => x.b) (Rep.sl byteR)
def kv64 : T_api_Pair → Value := fun p => .agg [Str (p.Key), Str (p.Val)].toArray
def T_index_Index.sh (b : Nat) (x : T_index_Index) : List Rs → Prop := fun L => ∃ (A1_0 : Option Addr) (c1_0 : Nat) (F1_1 : (Nat → Prop)) (m1_1 : Nat), L = [boxR b 50 [.slice A1_0 (x.keys).length c1_0, .map (some m1_1)], ownR 9 A1_0 c1_0 textR x.keys, mapO F1_1 kv64 3 (intR .i64) m1_1 x.rows]
def T_index_Index.obj (F : Nat → Prop) (b : Nat) (x : T_index_Index) : Rs := objR F (T_index_Index.sh b x)
def T_glob_Glob.sh (b : Nat) (x : T_glob_Glob) : List Rs → Prop := fun L => ∃ (A1_0 : Option Addr) (c1_0 : Nat), L = [boxR b 83 [Str (x.text), .slice A1_0 (x.pieces).length c1_0], ownR 87 A1_0 c1_0 T_glob_piece.rep x.pieces]
def T_glob_Glob.obj (F : Nat → Prop) (b : Nat) (x : T_glob_Glob) : Rs := objR F (T_glob_Glob.sh b x)
theorem T_glob_Glob.oflat (F : Nat → Prop) (b : Nat) (x : T_glob_Glob) : (T_glob_Glob.obj F b x).Flat := objR_flat fun L hL => by
  obtain ⟨_, _, rfl⟩ := hL
  exact (flC (boxR_flat _ _ _) (flC (ownR_flat T_glob_piece.flat _ _ _ _) fl0))
def T_pack_Writer.sh (b : Nat) (x : T_pack_Writer) : List Rs → Prop := fun L => ∃ (A1_0 : Option Addr) (c1_0 : Nat), L = [boxR b 97 [.slice A1_0 (x.b).length c1_0], ownR 5 A1_0 c1_0 byteR x.b]
def T_pack_Writer.obj (F : Nat → Prop) (b : Nat) (x : T_pack_Writer) : Rs := objR F (T_pack_Writer.sh b x)
theorem T_pack_Writer.oflat (F : Nat → Prop) (b : Nat) (x : T_pack_Writer) : (T_pack_Writer.obj F b x).Flat := objR_flat fun L hL => by
  obtain ⟨_, _, rfl⟩ := hL
  exact (flC (boxR_flat _ _ _) (flC (ownR_flat byte_flat _ _ _ _) fl0))
def m_internal_stringslite_IndexByte (x0 : (List UInt8)) (x1 : UInt8) : Option Int :=
  some (Lib.indexByte x0 x1)
def m_internal_stringslite_Index (x0 : (List UInt8)) (x1 : (List UInt8)) : Option Int :=
  if ((x1.length : Int) = 0) ∨ (x1 = x0) then
  (some 0)
  else
  (if (x1.length : Int) = 1 then
    ((idx x1 0).bind fun z5 =>
      (m_internal_stringslite_IndexByte x0 z5).bind fun p6 =>
      some p6)
    else
    (if (x1.length : Int) ≥ (x0.length : Int) then
      (some (-1))
      else
      (none)))
def m_internal_stringslite_Cut (x0 : (List UInt8)) (x1 : (List UInt8)) : Option ((List UInt8) × (List UInt8) × Bool) :=
  (m_internal_stringslite_Index x0 x1).bind fun p1 =>
  if p1 ≥ 0 then
  ((cutL x0 0 p1).bind fun z5 =>
    (cutL x0 (W64 (p1 + (x1.length : Int))) ((x0).length)).bind fun z6 =>
    some (z5, z6, true))
  else
  (some (x0, ([] : List UInt8), false))
def m_strings_Cut (x0 : (List UInt8)) (x1 : (List UInt8)) : Option ((List UInt8) × (List UInt8) × Bool) :=
  (m_internal_stringslite_Cut x0 x1).bind fun p1 =>
  some (p1.1, p1.2.1, p1.2.2)
def m_label_small (x0 : UInt8) : Option Bool :=
  some (decide ((((x0).toNat : Int) ≥ 97) ∧ (((x0).toNat : Int) ≤ 122)))
def m_label_isName_L1 (z6 : (List UInt8)) (j2 : Unit → Option Bool) : Nat → Int → Option Bool
  | 0, _ => none
  | n + 1, y9 =>
    if y9 < (z6.length : Int) then
    ((idx z6 y9).bind fun z12 =>
      (m_label_small z12).bind fun p14 =>
      if ((((!p14) = true) ∧ ((((z12).toNat : Int) < 48) ∨ (((z12).toNat : Int) > 57))) ∧ (((z12).toNat : Int) ≠ 95)) ∧ (((z12).toNat : Int) ≠ 46) then
      (some false)
      else
      (m_label_isName_L1 z6 j2 n (W64 (y9 + 1))))
    else
    (j2 ())
def m_label_isName (x0 : (List UInt8)) : Option Bool :=
  jn (fun (y3 : Bool) =>
    (if y3 = true then
      (some false)
      else
      ((lenS x0).bind fun z6 =>
        jn (fun (_ : Unit) =>
          (some true)) fun j2 =>
        m_label_isName_L1 z6 j2 fuel 0))) fun j1 =>
  if (x0 = ([] : List UInt8)) ∨ ((x0.length : Int) > 32) then
  (j1 true)
  else
  ((idx x0 0).bind fun z26 =>
    (m_label_small z26).bind fun p27 =>
    j1 (!p27))
def m_label_isValue_L1 (z4 : (List UInt8)) (j1 : Unit → Option Bool) : Nat → Int → Option Bool
  | 0, _ => none
  | n + 1, y7 =>
    if y7 < (z4.length : Int) then
    ((idx z4 y7).bind fun z10 =>
      jn (fun (y12 : Bool) =>
        (if y12 = true then
          (some false)
          else
          (m_label_isValue_L1 z4 j1 n (W64 (y7 + 1))))) fun j2 =>
      if ((z10).toNat : Int) < 33 then
      (j2 (decide (((z10).toNat : Int) < 33)))
      else
      (if ((z10).toNat : Int) > 126 then
        (j2 (decide (((z10).toNat : Int) > 126)))
        else
        (if ((z10).toNat : Int) = 61 then
          (j2 (decide (((z10).toNat : Int) = 61)))
          else
          (if ((z10).toNat : Int) = 59 then
            (j2 (decide (((z10).toNat : Int) = 59)))
            else
            (j2 (decide (((z10).toNat : Int) = 44)))))))
    else
    (j1 ())
def m_label_isValue (x0 : (List UInt8)) : Option Bool :=
  if (x0 = ([] : List UInt8)) ∨ ((x0.length : Int) > 32) then
  (some false)
  else
  ((lenS x0).bind fun z4 =>
    jn (fun (_ : Unit) =>
      (some true)) fun j1 =>
    m_label_isValue_L1 z4 j1 fuel 0)
def m_label_pair (x0 : (List UInt8)) : Option (T_api_Pair × Int) :=
  (m_strings_Cut x0 ([61] : List UInt8)).bind fun p4 =>
  jn (fun (y6 : Bool) =>
    (jn (fun (y8 : Bool) =>
        (if y8 = true then
          (some (({ Key := ([] : List UInt8), Val := ([] : List UInt8) } : T_api_Pair), 3))
          else
          (some (({ Key := p4.1, Val := p4.2.1 } : T_api_Pair), 0)))) fun j2 =>
      if y6 = true then
      (j2 true)
      else
      ((m_label_isValue p4.2.1).bind fun p16 =>
        j2 (!p16)))) fun j1 =>
  if (!p4.2.2) = true then
  (j1 true)
  else
  ((m_label_isName p4.1).bind fun p19 =>
    j1 (!p19))
def m_label_follows_L1 (x0 : (List T_api_Pair)) (x1 : (List UInt8)) (j1 : Unit → Option Int) : Nat → Int → Option Int
  | 0, _ => none
  | n + 1, y7 =>
    if y7 < (x0.length : Int) then
    ((idx x0 y7).bind fun z10 =>
      if z10.Key = x1 then
      (some 8)
      else
      (m_label_follows_L1 x0 x1 j1 n (W64 (y7 + 1))))
    else
    (j1 ())
def m_label_follows (x0 : (List T_api_Pair)) (x1 : (List UInt8)) : Option Int :=
  jn (fun (_ : Unit) =>
    ((idx x0 (W64 ((x0.length : Int) - 1))).bind fun z4 =>
      if (Op.bytesLess x1 z4.Key) = true then
      (some 9)
      else
      (some 0))) fun j1 =>
  m_label_follows_L1 x0 x1 j1 fuel 0
def m_label_Parse_L1 (j1 : (List T_api_Pair) → Option ((List UInt8) × (List T_api_Pair) × Int × Int)) : Nat → (List T_api_Pair) → Int → (List UInt8) → Bool → Option ((List UInt8) × (List T_api_Pair) × Int × Int)
  | 0, _, _, _, _ => none
  | n + 1, y12, y15, y16, y17 =>
    if y17 = true then
    ((m_strings_Cut y16 ([59] : List UInt8)).bind fun p22 =>
      (m_label_pair p22.1).bind fun p24 =>
      jn (fun (y29 : Int) =>
        (jn (fun (y33 : Int) =>
            (if y33 ≠ 0 then
              (some (([] : List UInt8), ([] : List T_api_Pair), y15, y33))
              else
              ((appL y12 [p24.1]).bind fun z38 =>
                m_label_Parse_L1 j1 n z38 (W64 (y15 + (W64 ((p22.1.length : Int) + 1)))) p22.2.1 p22.2.2))) fun j3 =>
          if (y29 = 0) ∧ ((y12.length : Int) > 0) then
          ((m_label_follows y12 p24.1.Key).bind fun p41 =>
            j3 p41)
          else
          (j3 y29))) fun j2 =>
      if (y12.length : Int) = 4 then
      (j2 4)
      else
      (j2 p24.2))
    else
    (j1 y12)
def m_label_Parse (x0 : (List UInt8)) : Option ((List UInt8) × (List T_api_Pair) × Int × Int) :=
  (m_strings_Cut x0 ([59] : List UInt8)).bind fun p1 =>
  (m_label_isName p1.1).bind fun p3 =>
  if (!p3) = true then
  (some (([] : List UInt8), ([] : List T_api_Pair), 0, 3))
  else
  (jn (fun (y8 : (List T_api_Pair)) =>
      (some (p1.1, y8, 0, 0))) fun j1 =>
    m_label_Parse_L1 j1 fuel ([] : List T_api_Pair) (W64 ((p1.1.length : Int) + 1)) p1.2.1 p1.2.2)
def m_label_Check_1 (x0 : T_api_Pair) (x1 : T_api_Pair) : Option Bool :=
  some (decide (x0.Key = x1.Key))
def m_slices_IndexFunc_api_Pair_api_Pair_s1_L1 (x0 : (List T_api_Pair)) (x1_0 : T_api_Pair) (j1 : Unit → Option Int) : Nat → Int → Option Int
  | 0, _ => none
  | n + 1, y6 =>
    if y6 < (x0.length : Int) then
    ((idx x0 y6).bind fun z9 =>
      (m_label_Check_1 z9 x1_0).bind fun p11 =>
      if p11 = true then
      (some y6)
      else
      (m_slices_IndexFunc_api_Pair_api_Pair_s1_L1 x0 x1_0 j1 n (W64 (y6 + 1))))
    else
    (j1 ())
def m_slices_IndexFunc_api_Pair_api_Pair_s1 (x0 : (List T_api_Pair)) (x1_0 : T_api_Pair) : Option Int :=
  jn (fun (_ : Unit) =>
    (some (-1))) fun j1 =>
  m_slices_IndexFunc_api_Pair_api_Pair_s1_L1 x0 x1_0 j1 fuel 0
def m_slices_ContainsFunc_api_Pair_api_Pair_s2 (x0 : (List T_api_Pair)) (x1_0 : T_api_Pair) : Option Bool :=
  (m_slices_IndexFunc_api_Pair_api_Pair_s1 x0 x1_0).bind fun p5 =>
  some (decide (p5 ≥ 0))
def m_label_Check_L1 (x1 : (List T_api_Pair)) (j1 : Unit → Option Int) : Nat → Int → Option Int
  | 0, _ => none
  | n + 1, y8 =>
    if y8 < (x1.length : Int) then
    ((idx x1 y8).bind fun z11 =>
      (m_label_isName z11.Key).bind fun p18 =>
      jn (fun (y20 : Bool) =>
        (if y20 = true then
          (some 3)
          else
          ((cutL x1 0 y8).bind fun z23 =>
            (m_slices_ContainsFunc_api_Pair_api_Pair_s2 z23 z11).bind fun p25 =>
            if p25 = true then
            (some 8)
            else
            (m_label_Check_L1 x1 j1 n (W64 (y8 + 1)))))) fun j2 =>
      if (!p18) = true then
      (j2 true)
      else
      ((m_label_isValue z11.Val).bind fun p29 =>
        j2 (!p29)))
    else
    (j1 ())
def m_label_Check (x0 : (List UInt8)) (x1 : (List T_api_Pair)) : Option Int :=
  (m_label_isName x0).bind fun p3 =>
  if (!p3) = true then
  (some 3)
  else
  (if (x1.length : Int) > 4 then
    (some 4)
    else
    (jn (fun (_ : Unit) =>
        (some 0)) fun j1 =>
      m_label_Check_L1 x1 j1 fuel 0))
def m_point_kinds (x0 : T_api_Point) : Option Bool :=
  if x0.Kind = 3 then
  (some (decide (x0.Temp = 0)))
  else
  (jn (fun (y14 : Bool) =>
      (if y14 = true then
        (some (decide ((x0.Temp = 1) ∨ (x0.Temp = 2))))
        else
        (some false))) fun j1 =>
    if x0.Kind = 1 then
    (j1 (decide (x0.Kind = 1)))
    else
    (if x0.Kind = 2 then
      (j1 (decide (x0.Kind = 2)))
      else
      (if x0.Kind = 4 then
        (j1 (decide (x0.Kind = 4)))
        else
        (j1 (decide (x0.Kind = 5))))))
def m_point_sum (x0 : T_api_Point) : Option Bool :=
  some (decide ((x0.Kind = 1) ∨ (x0.Kind = 2)))
def m_point_times (x0 : T_api_Point) : Option Bool :=
  if (x0.Start < 0) ∨ (x0.Time > 4503599627370496) then
  (some false)
  else
  (if x0.Kind = 3 then
    (some (decide (x0.Start = x0.Time)))
    else
    (some (decide (x0.Start < x0.Time))))
def m_point_bare (x0 : T_api_Hist) : Option Bool :=
  jn (fun (y16 : Bool) =>
    (some y16)) fun j1 =>
  if (((x0.Scale = 0) ∧ (((x0.Zero).toNat : Int) = 0)) ∧ (x0.Pos.Offset = 0)) ∧ (x0.Neg.Offset = 0) then
  (j1 (decide (W64 ((x0.Pos.Counts.length : Int) + (x0.Neg.Counts.length : Int)) = 0)))
  else
  (j1 false)
def m_point_own (x0 : T_api_Point) : Option Bool :=
  jn (fun (y19 : Bool) =>
    (if y19 = true then
      (some false)
      else
      (some true))) fun j1 =>
  if (x0.Kind ≠ 1) ∧ (x0.Int_ ≠ 0) then
  (j1 (decide ((x0.Kind ≠ 1) ∧ (x0.Int_ ≠ 0))))
  else
  (if (¬ (((x0.Kind = 2) ∨ (x0.Kind = 3)) ∨ (x0.Kind = 5))) ∧ (((x0.Re).toNat : Int) ≠ 0) then
    (j1 (decide ((¬ (((x0.Kind = 2) ∨ (x0.Kind = 3)) ∨ (x0.Kind = 5))) ∧ (((x0.Re).toNat : Int) ≠ 0))))
    else
    (if (x0.Kind ≠ 5) ∧ (((x0.Im).toNat : Int) ≠ 0) then
      (j1 (decide ((x0.Kind ≠ 5) ∧ (((x0.Im).toNat : Int) ≠ 0))))
      else
      (jn (fun (y29 : Bool) =>
          (if y29 = true then
            (j1 y29)
            else
            (j1 (decide ((x0.Flags < 0) ∨ (x0.Flags > 31)))))) fun j2 =>
        if x0.Kind ≠ 4 then
        ((m_point_bare x0.Hist).bind fun p35 =>
          j2 (!p35))
        else
        (j2 false))))
def m_num_Finite (x0 : UInt64) : Option Bool :=
  some (decide (((x0 &&& (9218868437227405312 : UInt64)).toNat : Int) ≠ 9218868437227405312))
def m_num_of (x0 : UInt64) : Option UInt64 :=
  some x0
def m_num_Less (x0 : UInt64) (x1 : UInt64) : Option Bool :=
  (m_num_of x0).bind fun p1 =>
  (m_num_of x1).bind fun p3 =>
  some (fltLt p1 p3)
def m_hist_sides (x0 : T_api_Hist) : Option T_arr2_api_Side :=
  some ({ a0 := x0.Pos, a1 := x0.Neg } : T_arr2_api_Side)
def m_hist_check (x0 : T_api_Side) : Option Int :=
  if (x0.Counts.length : Int) > 160 then
  (some 4)
  else
  (if ((x0.Counts.length : Int) = 0) ∧ (x0.Offset ≠ 0) then
    (some 3)
    else
    (if (x0.Counts.length : Int) = 0 then
      (some 0)
      else
      ((idx x0.Counts 0).bind fun z12 =>
        jn (fun (y14 : Bool) =>
          (if y14 = true then
            (some 3)
            else
            (jn (fun (y17 : Bool) =>
                (if y17 = true then
                  (some 1)
                  else
                  (some 0))) fun j2 =>
              if x0.Offset < (-1073741824) then
              (j2 true)
              else
              (j2 (decide (x0.Offset > W64 (1073741824 - (W64 ((x0.Counts.length : Int) - 1))))))))) fun j1 =>
        if ((z12).toNat : Int) = 0 then
        (j1 true)
        else
        ((idx x0.Counts (W64 ((x0.Counts.length : Int) - 1))).bind fun z22 =>
          j1 (decide (((z22).toNat : Int) = 0))))))
def m_hist_Total_L2 (z23 : T_api_Side) (j2 : UInt64 → UInt64 → Option (UInt64 × Bool)) : Nat → UInt64 → UInt64 → Int → Option (UInt64 × Bool)
  | 0, _, _, _ => none
  | n + 1, y32, y33, y34 =>
    if y34 < (z23.Counts.length : Int) then
    ((idx z23.Counts y34).bind fun z37 =>
      m_hist_Total_L2 z23 j2 n (y32 + z37) (y33 ||| (cry y32 z37)) (W64 (y34 + 1)))
    else
    (j2 y32 y33)
def m_hist_Total_L1 (p10 : T_arr2_api_Side) (j1 : UInt64 → UInt64 → Option (UInt64 × Bool)) : Nat → UInt64 → UInt64 → Int → Option (UInt64 × Bool)
  | 0, _, _, _ => none
  | n + 1, y18, y19, y20 =>
    if y20 < 2 then
    ((idx ([p10.a0, p10.a1] : List T_api_Side) y20).bind fun z23 =>
      jn (fun (y29 : UInt64) (y30 : UInt64) =>
        (m_hist_Total_L1 p10 j1 n y29 y30 (W64 (y20 + 1)))) fun j2 =>
      m_hist_Total_L2 z23 j2 fuel y18 y19 0)
    else
    (j1 y18 y19)
def m_hist_Total (x0 : T_api_Hist) : Option (UInt64 × Bool) :=
  (m_hist_sides x0).bind fun p10 =>
  jn (fun (y14 : UInt64) (y15 : UInt64) =>
    (if ((y15).toNat : Int) ≠ 0 then
      (some ((0 : UInt64), false))
      else
      (some (y14, true)))) fun j1 =>
  m_hist_Total_L1 p10 j1 fuel x0.Zero (0 : UInt64) 0
def m_hist_Check_L1 (p13 : T_arr2_api_Side) (j1 : Unit → Option Int) : Nat → Int → Option Int
  | 0, _ => none
  | n + 1, y21 =>
    if y21 < 2 then
    ((idx ([p13.a0, p13.a1] : List T_api_Side) y21).bind fun z24 =>
      (m_hist_check z24).bind fun p30 =>
      if p30 ≠ 0 then
      (some p30)
      else
      (m_hist_Check_L1 p13 j1 n (W64 (y21 + 1))))
    else
    (j1 ())
def m_hist_Check (x0 : T_api_Hist) : Option Int :=
  if (x0.Scale < (-10)) ∨ (x0.Scale > 20) then
  (some 1)
  else
  ((m_hist_sides x0).bind fun p13 =>
    jn (fun (_ : Unit) =>
      ((m_hist_Total x0).bind fun p18 =>
        if (!p18.2) = true then
        (some 4)
        else
        (some 0))) fun j1 =>
    m_hist_Check_L1 p13 j1 fuel 0)
def m_point_Check (x0 : T_api_Point) : Option Int :=
  (m_label_Check x0.Name x0.Attrs).bind fun p13 =>
  if p13 ≠ 0 then
  (some p13)
  else
  ((m_point_kinds x0).bind fun p16 =>
    if (!p16) = true then
    (some 14)
    else
    (jn (fun (y19 : Bool) =>
        (jn (fun (y21 : Bool) =>
            (if y21 = true then
              (some 1)
              else
              ((m_point_own x0).bind fun p24 =>
                if (!p24) = true then
                (some 3)
                else
                (jn (fun (y29 : Bool) =>
                    (if y29 = true then
                      (some 11)
                      else
                      (jn (fun (y32 : Bool) =>
                          (if y32 = true then
                            (some 1)
                            else
                            (if x0.Kind = 4 then
                              ((m_hist_Check x0.Hist).bind fun p36 =>
                                some p36)
                              else
                              (some 0)))) fun j4 =>
                        if x0.Mono = true then
                        (jn (fun (y39 : Bool) =>
                            (j4 y39)) fun j5 =>
                          if x0.Int_ < 0 then
                          (j5 true)
                          else
                          ((m_num_Less x0.Re (0 : UInt64)).bind fun p42 =>
                            j5 p42))
                        else
                        (j4 false)))) fun j3 =>
                  if (x0.Mono = true) ∧ (x0.Kind = 2) then
                  ((m_num_Finite x0.Re).bind fun p45 =>
                    j3 (!p45))
                  else
                  (j3 false))))) fun j2 =>
          if y19 = true then
          (j2 y19)
          else
          ((m_point_times x0).bind fun p48 =>
            j2 (!p48)))) fun j1 =>
      if x0.Mono = true then
      ((m_point_sum x0).bind fun p51 =>
        j1 (!p51))
      else
      (j1 false)))
def m_chunk_Series (x0 : (List UInt8)) : Option (T_api_Point × Int) :=
  (m_strings_Cut x0 ([32] : List UInt8)).bind fun p4 =>
  (m_label_Parse p4.1).bind fun p6 =>
  jn (fun (y13 : Bool) =>
    (if y13 = true then
      (some (({ Name := ([] : List UInt8), Attrs := ([] : List T_api_Pair), Kind := 0, Temp := 0, Mono := false, Start := 0, Time := 0, Int_ := 0, Re := (0 : UInt64), Im := (0 : UInt64), Hist := ({ Scale := 0, Zero := (0 : UInt64), Pos := ({ Offset := 0, Counts := ([] : List UInt64) } : T_api_Side), Neg := ({ Offset := 0, Counts := ([] : List UInt64) } : T_api_Side) } : T_api_Hist), Flags := 0 } : T_api_Point), 3))
      else
      ((idx p4.2.1 0).bind fun z25 =>
        (idx p4.2.1 1).bind fun z26 =>
        (idx p4.2.1 2).bind fun z27 =>
        jn (fun (y38 : (List UInt8)) (y39 : Int) (y40 : Int) (y41 : Bool) (y42 : Int) (y43 : Int) (y44 : Int) (y45 : UInt64) (y46 : UInt64) (y47 : Int) (y48 : UInt64) (y49 : Int) (y50 : Int) (y51 : Int) =>
          ((m_point_Check ({ Name := y38, Attrs := p6.2.1, Kind := y39, Temp := y40, Mono := y41, Start := y42, Time := y43, Int_ := y44, Re := y45, Im := y46, Hist := ({ Scale := y47, Zero := y48, Pos := ({ Offset := y49, Counts := [] } : T_api_Side), Neg := ({ Offset := y50, Counts := [] } : T_api_Side) } : T_api_Hist), Flags := y51 } : T_api_Point)).bind fun p53 =>
            if p53 ≠ 0 then
            (some (({ Name := ([] : List UInt8), Attrs := ([] : List T_api_Pair), Kind := 0, Temp := 0, Mono := false, Start := 0, Time := 0, Int_ := 0, Re := (0 : UInt64), Im := (0 : UInt64), Hist := ({ Scale := 0, Zero := (0 : UInt64), Pos := ({ Offset := 0, Counts := ([] : List UInt64) } : T_api_Side), Neg := ({ Offset := 0, Counts := ([] : List UInt64) } : T_api_Side) } : T_api_Hist), Flags := 0 } : T_api_Point), 3))
            else
            (some (({ Name := p6.1, Attrs := p6.2.1, Kind := W64 ((z25.toNat : Int) - 48), Temp := W64 ((z26.toNat : Int) - 48), Mono := decide (((z27).toNat : Int) = 49), Start := 0, Time := 0, Int_ := 0, Re := (0 : UInt64), Im := (0 : UInt64), Hist := ({ Scale := 0, Zero := (0 : UInt64), Pos := ({ Offset := 0, Counts := ([] : List UInt64) } : T_api_Side), Neg := ({ Offset := 0, Counts := ([] : List UInt64) } : T_api_Side) } : T_api_Hist), Flags := 0 } : T_api_Point), 0)))) fun j2 =>
        if W64 ((z25.toNat : Int) - 48) = 3 then
        (j2 p6.1 (W64 ((z25.toNat : Int) - 48)) (W64 ((z26.toNat : Int) - 48)) (decide (((z27).toNat : Int) = 49)) 1 1 0 (0 : UInt64) (0 : UInt64) 0 (0 : UInt64) 0 0 0)
        else
        (j2 p6.1 (W64 ((z25.toNat : Int) - 48)) (W64 ((z26.toNat : Int) - 48)) (decide (((z27).toNat : Int) = 49)) 0 1 0 (0 : UInt64) (0 : UInt64) 0 (0 : UInt64) 0 0 0)))) fun j1 =>
  if (((!p4.2.2) = true) ∨ (p6.2.2.2 ≠ 0)) ∨ ((p4.2.1.length : Int) ≠ 3) then
  (j1 true)
  else
  ((idx p4.2.1 2).bind fun z74 =>
    jn (fun (y75 : Bool) =>
      (j1 y75)) fun j3 =>
    if ((z74).toNat : Int) ≠ 48 then
    ((idx p4.2.1 2).bind fun z78 =>
      j3 (decide (((z78).toNat : Int) ≠ 49)))
    else
    (j3 false))
def m_index_New_L2 (y20 : Int) (z53 : (List T_api_Pair)) (j4 : T_index_Index → Option ((Option T_index_Index) × Int × Int)) : Nat → Int → T_index_Index → Option ((Option T_index_Index) × Int × Int)
  | 0, _, _ => none
  | n + 1, y59, y60 =>
    if y59 < (z53.length : Int) then
    ((idx z53 y59).bind fun z63 =>
      (appL (lookO z63 y60.rows) ([y20] : List Int)).bind fun z77 =>
      m_index_New_L2 y20 z53 j4 n (W64 (y59 + 1)) ({ keys := y60.keys, rows := (putO z63 z77 y60.rows) } : T_index_Index))
    else
    (j4 y60)
def m_index_New_L1 (x0 : (List (List UInt8))) (j1 : T_index_Index → Option ((Option T_index_Index) × Int × Int)) : Nat → Int → (Kv Int) → T_index_Index → Option ((Option T_index_Index) × Int × Int)
  | 0, _, _, _ => none
  | n + 1, y20, y21, y22 =>
    if y20 < (x0.length : Int) then
    ((idx x0 y20).bind fun z25 =>
      (m_chunk_Series z25).bind fun p27 =>
      jn (fun (y36 : Bool) =>
        (jn (fun (y39 : Int) =>
            (if y39 ≠ 0 then
              (some ((none : Option T_index_Index), y20, y39))
              else
              ((appL y22.keys [z25]).bind fun z49 =>
                (appL p27.1.Attrs [({ Key := ([] : List UInt8), Val := p27.1.Name } : T_api_Pair)]).bind fun z53 =>
                jn (fun (y57 : T_index_Index) =>
                  (m_index_New_L1 x0 j1 n (W64 (y20 + 1)) (putP z25 (W64 (((lookP z25 y21).getD 0) + 1)) y21) y57)) fun j4 =>
                m_index_New_L2 y20 z53 j4 fuel 0 ({ keys := z49, rows := y22.rows } : T_index_Index)))) fun j3 =>
          if y36 = true then
          (j3 8)
          else
          (j3 p27.2))) fun j2 =>
      if p27.2 = 0 then
      (j2 (decide (((lookP z25 y21).getD 0) > 0)))
      else
      (j2 false))
    else
    (j1 y22)
def m_index_New (x0 : (List (List UInt8))) : Option ((Option T_index_Index) × Int × Int) :=
  if (x0.length : Int) > 4096 then
  (some ((none : Option T_index_Index), 4096, 4))
  else
  (jn (fun (y17 : T_index_Index) =>
      (some ((some y17), 0, 0))) fun j1 =>
    m_index_New_L1 x0 j1 fuel 0 ([] : Kv Int) ({ keys := ([] : List (List UInt8)), rows := ([] : Ko T_api_Pair Int) } : T_index_Index))
def m_glob_closed_L1 (x0 : (List UInt8)) (j1 : Int → Option Bool) : Nat → Int → Option Bool
  | 0, _ => none
  | n + 1, y3 =>
    jn (fun (y5 : Bool) =>
      (if y5 = true then
        ((idx x0 y3).bind fun z8 =>
          jn (fun (y9 : Int) =>
            (m_glob_closed_L1 x0 j1 n (W64 (y9 + 1)))) fun j3 =>
          if ((z8).toNat : Int) = 92 then
          (j3 (W64 (y3 + 1)))
          else
          (j3 y3))
        else
        (j1 y3))) fun j2 =>
    if y3 < (x0.length : Int) then
    ((idx x0 y3).bind fun z13 =>
      j2 (decide (((z13).toNat : Int) ≠ 93)))
    else
    (j2 false)
def m_glob_closed (x0 : (List UInt8)) (x1 : Int) : Option Bool :=
  jn (fun (y1 : Int) =>
    (some (decide (y1 < (x0.length : Int))))) fun j1 =>
  m_glob_closed_L1 x0 j1 fuel x1
def m_glob_member (x0 : (List UInt8)) (x1 : Int) : Option (UInt8 × Int) :=
  (idx x0 x1).bind fun z1 =>
  if ((z1).toNat : Int) = 92 then
  ((idx x0 (W64 (x1 + 1))).bind fun z3 =>
    some (z3, 2))
  else
  ((idx x0 x1).bind fun z4 =>
    some (z4, 1))
def m_glob_class_L1 (j5 : T_glob_piece → Option (T_glob_piece × Int × T_glob_fault)) : Nat → Int → T_glob_piece → Option (T_glob_piece × Int × T_glob_fault)
  | 0, _, _ => none
  | n + 1, y46, y47 =>
    if y46 < 4 then
    ((idx ([y47.set.a0, y47.set.a1, y47.set.a2, y47.set.a3] : List UInt64) y46).bind fun z50 =>
      m_glob_class_L1 j5 n (W64 (y46 + 1)) ({ kind := y47.kind, set := ({ a0 := (if y46 = 0 then ~~~ z50 else y47.set.a0), a1 := (if y46 = 1 then ~~~ z50 else y47.set.a1), a2 := (if y46 = 2 then ~~~ z50 else y47.set.a2), a3 := (if y46 = 3 then ~~~ z50 else y47.set.a3) } : T_glob_set), plain := y47.plain, c := y47.c } : T_glob_piece))
    else
    (j5 y47)
def m_glob_class_L3 (y86 : UInt8) (j11 : T_glob_piece → Option (T_glob_piece × Int × T_glob_fault)) : Nat → Int → T_glob_piece → Option (T_glob_piece × Int × T_glob_fault)
  | 0, _, _ => none
  | n + 1, y92, y93 =>
    if y92 ≤ (y86.toNat : Int) then
    (jn (fun (y96 : T_glob_piece) =>
        (m_glob_class_L3 y86 j11 n (W64 (y92 + 1)) y96)) fun j12 =>
      (quo8 (toU8 y92) (64 : UInt8)).bind fun z99 =>
      (idx ([y93.set.a0, y93.set.a1, y93.set.a2, y93.set.a3] : List UInt64) ((z99).toNat : Int)).bind fun z100 =>
      (rem8 (toU8 y92) (64 : UInt8)).bind fun z101 =>
      j12 ({ kind := y93.kind, set := ({ a0 := (if ((z99).toNat : Int) = 0 then z100 ||| (shl64 (1 : UInt64) ((toU64 ((z101).toNat : Int)).toNat)) else y93.set.a0), a1 := (if ((z99).toNat : Int) = 1 then z100 ||| (shl64 (1 : UInt64) ((toU64 ((z101).toNat : Int)).toNat)) else y93.set.a1), a2 := (if ((z99).toNat : Int) = 2 then z100 ||| (shl64 (1 : UInt64) ((toU64 ((z101).toNat : Int)).toNat)) else y93.set.a2), a3 := (if ((z99).toNat : Int) = 3 then z100 ||| (shl64 (1 : UInt64) ((toU64 ((z101).toNat : Int)).toNat)) else y93.set.a3) } : T_glob_set), plain := y93.plain, c := y93.c } : T_glob_piece))
    else
    (j11 y93)
def m_glob_class_L2 (x0 : (List UInt8)) (j3 : Int → T_glob_piece → Option (T_glob_piece × Int × T_glob_fault)) : Nat → Int → T_glob_piece → Option (T_glob_piece × Int × T_glob_fault)
  | 0, _, _ => none
  | n + 1, y55, y56 =>
    (idx x0 y55).bind fun z58 =>
    if ((z58).toNat : Int) ≠ 93 then
    ((idx x0 y55).bind fun z60 =>
      if ((z60).toNat : Int) = 45 then
      ((idx x0 (W64 (y55 + 1))).bind fun z62 =>
        if ((z62).toNat : Int) ≠ 93 then
        (some (y56, 0, ({ at_ := y55, e := 3 } : T_glob_fault)))
        else
        (jn (fun (y68 : T_glob_piece) =>
            (m_glob_class_L2 x0 j3 n (W64 (y55 + 1)) y68)) fun j6 =>
          (quo8 (45 : UInt8) (64 : UInt8)).bind fun z71 =>
          (idx ([y56.set.a0, y56.set.a1, y56.set.a2, y56.set.a3] : List UInt64) ((z71).toNat : Int)).bind fun z72 =>
          (rem8 (45 : UInt8) (64 : UInt8)).bind fun z73 =>
          j6 ({ kind := y56.kind, set := ({ a0 := (if ((z71).toNat : Int) = 0 then z72 ||| (shl64 (1 : UInt64) ((toU64 ((z73).toNat : Int)).toNat)) else y56.set.a0), a1 := (if ((z71).toNat : Int) = 1 then z72 ||| (shl64 (1 : UInt64) ((toU64 ((z73).toNat : Int)).toNat)) else y56.set.a1), a2 := (if ((z71).toNat : Int) = 2 then z72 ||| (shl64 (1 : UInt64) ((toU64 ((z73).toNat : Int)).toNat)) else y56.set.a2), a3 := (if ((z71).toNat : Int) = 3 then z72 ||| (shl64 (1 : UInt64) ((toU64 ((z73).toNat : Int)).toNat)) else y56.set.a3) } : T_glob_set), plain := y56.plain, c := y56.c } : T_glob_piece)))
      else
      ((m_glob_member x0 y55).bind fun p78 =>
        (idx x0 (W64 (y55 + p78.2))).bind fun z80 =>
        jn (fun (y81 : Bool) =>
          (jn (fun (y83 : Bool) =>
              (jn (fun (y85 : Int) (y86 : UInt8) =>
                  (jn (fun (y88 : T_glob_piece) =>
                      (m_glob_class_L2 x0 j3 n (W64 (y55 + y85)) y88)) fun j10 =>
                    jn (fun (y90 : T_glob_piece) =>
                      (j10 y90)) fun j11 =>
                    m_glob_class_L3 y86 j11 fuel (p78.1.toNat : Int) y56)) fun j9 =>
                if y83 = true then
                ((m_glob_member x0 (W64 ((W64 (y55 + p78.2)) + 1))).bind fun p107 =>
                  if ((p107.1).toNat : Int) < ((p78.1).toNat : Int) then
                  (some (y56, 0, ({ at_ := y55, e := 3 } : T_glob_fault)))
                  else
                  (j9 (W64 ((W64 (p78.2 + 1)) + p107.2)) p107.1))
                else
                (j9 p78.2 p78.1))) fun j8 =>
            if y81 = true then
            ((idx x0 (W64 ((W64 (y55 + p78.2)) + 1))).bind fun z115 =>
              j8 (decide (((z115).toNat : Int) ≠ 45)))
            else
            (j8 false))) fun j7 =>
        if ((z80).toNat : Int) = 45 then
        ((idx x0 (W64 ((W64 (y55 + p78.2)) + 1))).bind fun z117 =>
          j7 (decide (((z117).toNat : Int) ≠ 93)))
        else
        (j7 false)))
    else
    (j3 y55 y56)
def m_glob_class (x0 : (List UInt8)) (x1 : Int) : Option (T_glob_piece × Int × T_glob_fault) :=
  jn (fun (y12 : Bool) =>
    (jn (fun (y14 : Int) =>
        ((m_glob_closed x0 y14).bind fun p16 =>
          if (!p16) = true then
          (some (({ kind := 0, set := ({ a0 := (0 : UInt64), a1 := (0 : UInt64), a2 := (0 : UInt64), a3 := (0 : UInt64) } : T_glob_set), plain := false, c := (0 : UInt8) } : T_glob_piece), 0, ({ at_ := x1, e := 2 } : T_glob_fault)))
          else
          (jn (fun (y23 : Int) (y24 : T_glob_piece) =>
              (if y23 = y14 then
                (some (y24, 0, ({ at_ := x1, e := 3 } : T_glob_fault)))
                else
                (jn (fun (y31 : T_glob_piece) =>
                    (some (y31, W64 ((W64 (y23 + 1)) - x1), ({ at_ := 0, e := 0 } : T_glob_fault)))) fun j4 =>
                  if y12 = true then
                  (jn (fun (y44 : T_glob_piece) =>
                      (j4 y44)) fun j5 =>
                    m_glob_class_L1 j5 fuel 0 y24)
                  else
                  (j4 y24)))) fun j3 =>
            m_glob_class_L2 x0 j3 fuel y14 ({ kind := 0, set := ({ a0 := (0 : UInt64), a1 := (0 : UInt64), a2 := (0 : UInt64), a3 := (0 : UInt64) } : T_glob_set), plain := false, c := (0 : UInt8) } : T_glob_piece)))) fun j2 =>
      if y12 = true then
      (j2 (W64 ((W64 (x1 + 1)) + 1)))
      else
      (j2 (W64 (x1 + 1))))) fun j1 =>
  if W64 (x1 + 1) < (x0.length : Int) then
  ((idx x0 (W64 (x1 + 1))).bind fun z120 =>
    j1 (decide (((z120).toNat : Int) = 33)))
  else
  (j1 false)
def m_glob_byteOf (x0 : UInt8) : Option T_glob_piece :=
  jn (fun (y7 : T_glob_piece) =>
    (some y7)) fun j1 =>
  (quo8 x0 (64 : UInt8)).bind fun z10 =>
  (idx ([(0 : UInt64), (0 : UInt64), (0 : UInt64), (0 : UInt64)] : List UInt64) ((z10).toNat : Int)).bind fun z11 =>
  (rem8 x0 (64 : UInt8)).bind fun z12 =>
  j1 ({ kind := 0, set := ({ a0 := (if ((z10).toNat : Int) = 0 then z11 ||| (shl64 (1 : UInt64) ((toU64 ((z12).toNat : Int)).toNat)) else (0 : UInt64)), a1 := (if ((z10).toNat : Int) = 1 then z11 ||| (shl64 (1 : UInt64) ((toU64 ((z12).toNat : Int)).toNat)) else (0 : UInt64)), a2 := (if ((z10).toNat : Int) = 2 then z11 ||| (shl64 (1 : UInt64) ((toU64 ((z12).toNat : Int)).toNat)) else (0 : UInt64)), a3 := (if ((z10).toNat : Int) = 3 then z11 ||| (shl64 (1 : UInt64) ((toU64 ((z12).toNat : Int)).toNat)) else (0 : UInt64)) } : T_glob_set), plain := true, c := x0 } : T_glob_piece)
def m_glob_next_L1 (j2 : T_glob_piece → Option (T_glob_piece × Int × T_glob_fault)) : Nat → Int → T_glob_piece → Option (T_glob_piece × Int × T_glob_fault)
  | 0, _, _ => none
  | n + 1, y29, y30 =>
    if y29 ≤ ((255 : UInt8).toNat : Int) then
    (jn (fun (y33 : T_glob_piece) =>
        (m_glob_next_L1 j2 n (W64 (y29 + 1)) y33)) fun j3 =>
      (quo8 (toU8 y29) (64 : UInt8)).bind fun z36 =>
      (idx ([y30.set.a0, y30.set.a1, y30.set.a2, y30.set.a3] : List UInt64) ((z36).toNat : Int)).bind fun z37 =>
      (rem8 (toU8 y29) (64 : UInt8)).bind fun z38 =>
      j3 ({ kind := y30.kind, set := ({ a0 := (if ((z36).toNat : Int) = 0 then z37 ||| (shl64 (1 : UInt64) ((toU64 ((z38).toNat : Int)).toNat)) else y30.set.a0), a1 := (if ((z36).toNat : Int) = 1 then z37 ||| (shl64 (1 : UInt64) ((toU64 ((z38).toNat : Int)).toNat)) else y30.set.a1), a2 := (if ((z36).toNat : Int) = 2 then z37 ||| (shl64 (1 : UInt64) ((toU64 ((z38).toNat : Int)).toNat)) else y30.set.a2), a3 := (if ((z36).toNat : Int) = 3 then z37 ||| (shl64 (1 : UInt64) ((toU64 ((z38).toNat : Int)).toNat)) else y30.set.a3) } : T_glob_set), plain := y30.plain, c := y30.c } : T_glob_piece))
    else
    (j2 y30)
def m_glob_next (x0 : (List UInt8)) (x1 : Int) : Option (T_glob_piece × Int × T_glob_fault) :=
  (idx x0 x1).bind fun z9 =>
  if ((z9).toNat : Int) = 42 then
  (some (({ kind := 1, set := ({ a0 := (0 : UInt64), a1 := (0 : UInt64), a2 := (0 : UInt64), a3 := (0 : UInt64) } : T_glob_set), plain := false, c := (0 : UInt8) } : T_glob_piece), 1, ({ at_ := 0, e := 0 } : T_glob_fault)))
  else
  (if ((z9).toNat : Int) = 63 then
    (jn (fun (y25 : T_glob_piece) =>
        (some (y25, 1, ({ at_ := 0, e := 0 } : T_glob_fault)))) fun j1 =>
      jn (fun (y27 : T_glob_piece) =>
        (j1 y27)) fun j2 =>
      m_glob_next_L1 j2 fuel ((0 : UInt8).toNat : Int) ({ kind := 0, set := ({ a0 := (0 : UInt64), a1 := (0 : UInt64), a2 := (0 : UInt64), a3 := (0 : UInt64) } : T_glob_set), plain := false, c := (0 : UInt8) } : T_glob_piece))
    else
    (if ((z9).toNat : Int) = 91 then
      ((m_glob_class x0 x1).bind fun p54 =>
        some (p54.1, p54.2.1, p54.2.2))
      else
      (if ((z9).toNat : Int) = 92 then
        (if W64 (x1 + 1) = (x0.length : Int) then
          (some (({ kind := 0, set := ({ a0 := (0 : UInt64), a1 := (0 : UInt64), a2 := (0 : UInt64), a3 := (0 : UInt64) } : T_glob_set), plain := false, c := (0 : UInt8) } : T_glob_piece), 0, ({ at_ := x1, e := 2 } : T_glob_fault)))
          else
          ((idx x0 (W64 (x1 + 1))).bind fun z70 =>
            (m_glob_byteOf z70).bind fun p71 =>
            some (p71, 2, ({ at_ := 0, e := 0 } : T_glob_fault))))
        else
        ((idx x0 x1).bind fun z83 =>
          (m_glob_byteOf z83).bind fun p84 =>
          some (p84, 1, ({ at_ := 0, e := 0 } : T_glob_fault))))))
def m_glob_Compile_L1 (x0 : (List UInt8)) (j1 : T_glob_Glob → Option ((Option T_glob_Glob) × Int × Int)) : Nat → Int → T_glob_Glob → Option ((Option T_glob_Glob) × Int × Int)
  | 0, _, _ => none
  | n + 1, y16, y17 =>
    if y16 < (x0.length : Int) then
    ((m_glob_next x0 y16).bind fun p20 =>
      if ¬ (p20.2.2 = ({ at_ := 0, e := 0 } : T_glob_fault)) then
      (some ((none : Option T_glob_Glob), p20.2.2.at_, p20.2.2.e))
      else
      (jn (fun (y36 : T_glob_Glob) =>
          (m_glob_Compile_L1 x0 j1 n (W64 (y16 + p20.2.1)) y36)) fun j2 =>
        (appL y17.pieces ([p20.1] : List T_glob_piece)).bind fun z47 =>
        j2 ({ text := y17.text, pieces := z47 } : T_glob_Glob)))
    else
    (j1 y17)
def m_glob_Compile (x0 : (List UInt8)) : Option ((Option T_glob_Glob) × Int × Int) :=
  if (x0.length : Int) > 64 then
  (some ((none : Option T_glob_Glob), 64, 4))
  else
  (jn (fun (y13 : T_glob_Glob) =>
      (some ((some y13), 0, 0))) fun j1 =>
    m_glob_Compile_L1 x0 j1 fuel 0 ({ text := x0, pieces := ([] : List T_glob_piece) } : T_glob_Glob))
def m_index_Index_all_L1 (z9 : (List Int)) (j1 : (List Int) → Option (List Int)) : Nat → (List Int) → Int → Option (List Int)
  | 0, _, _ => none
  | n + 1, y13, y14 =>
    if y14 < (z9.length : Int) then
    ((idx y13 y14).bind fun z17 =>
      m_index_Index_all_L1 z9 j1 n (setI y13 y14 y14) (W64 (y14 + 1)))
    else
    (j1 y13)
def m_index_Index_all (x0 : T_index_Index) : Option (List Int) :=
  (mkL (x0.keys.length : Int) (0 : Int)).bind fun z9 =>
  jn (fun (y11 : (List Int)) =>
    (some y11)) fun j1 =>
  m_index_Index_all_L1 z9 j1 fuel z9 0
def m_index_Index_Values (x0 : T_index_Index) (x1 : (List UInt8)) : Option (List (List UInt8)) :=
  if x0.rows.length ≤ 1000000 then some (((((x0.rows.map fun p => p.1).filter fun p => decide (p.Key = x1)).map fun p => p.Val)).mergeSort leK) else none
def m_index_Or_1 (x0 : Bool) (x1 : Bool) : Option Bool :=
  some true
def m_index_merge_s1_L1 (j1 : (List Int) → Option (List Int)) : Nat → (List Int) → (List Int) → (List Int) → Option (List Int)
  | 0, _, _, _ => none
  | n + 1, y9, y12, y15 =>
    if ((y9.length : Int) > 0) ∨ ((y12.length : Int) > 0) then
    (jn (fun (y24 : Bool) =>
        (jn (fun (y26 : Bool) =>
            (jn (fun (y28 : (List Int)) (y31 : Int) =>
                (jn (fun (y33 : (List Int)) (y36 : Int) =>
                    ((m_index_Or_1 y24 y26).bind fun p38 =>
                      if p38 = true then
                      ((appL y15 [y36]).bind fun z41 =>
                        m_index_merge_s1_L1 j1 n y28 y33 z41)
                      else
                      (m_index_merge_s1_L1 j1 n y28 y33 y15))) fun j5 =>
                  if y26 = true then
                  ((idx y12 0).bind fun z45 =>
                    (cutL y12 1 ((y12).length)).bind fun z48 =>
                    j5 z48 z45)
                  else
                  (j5 y12 y31))) fun j4 =>
              if y24 = true then
              ((idx y9 0).bind fun z54 =>
                (cutL y9 1 ((y9).length)).bind fun z57 =>
                j4 z57 z54)
              else
              (j4 y9 0))) fun j3 =>
          if (y12.length : Int) > 0 then
          (if (y9.length : Int) = 0 then
            (j3 true)
            else
            ((idx y12 0).bind fun z64 =>
              (idx y9 0).bind fun z67 =>
              j3 (decide (z64 ≤ z67))))
          else
          (j3 false))) fun j2 =>
      if (y9.length : Int) > 0 then
      (if (y12.length : Int) = 0 then
        (j2 true)
        else
        ((idx y9 0).bind fun z73 =>
          (idx y12 0).bind fun z76 =>
          j2 (decide (z73 ≤ z76))))
      else
      (j2 false))
    else
    (j1 y15)
def m_index_merge_s1 (x0 : (List Int)) (x1 : (List Int)) : Option (List Int) :=
  jn (fun (y5 : (List Int)) =>
    (some y5)) fun j1 =>
  m_index_merge_s1_L1 j1 fuel x0 x1 ([] : List Int)
def m_index_Or (x0 : (List Int)) (x1 : (List Int)) : Option (List Int) :=
  (m_index_merge_s1 x0 x1).bind fun p5 =>
  some p5
def m_glob_set_has (x0 : T_glob_set) (x1 : UInt8) : Option Bool :=
  (quo8 x1 (64 : UInt8)).bind fun z3 =>
  (idx ([x0.a0, x0.a1, x0.a2, x0.a3] : List UInt64) ((z3).toNat : Int)).bind fun z4 =>
  (rem8 x1 (64 : UInt8)).bind fun z5 =>
  some (decide ((((shr64 z4 ((toU64 ((z5).toNat : Int)).toNat)) &&& (1 : UInt64)).toNat : Int) = 1))
def m_glob_Glob_Match_L1 (x0 : T_glob_Glob) (x1 : (List UInt8)) : Nat → Int → Int → Int → Int → Option Bool
  | 0, _, _, _, _ => none
  | n + 1, y3, y4, y5, y6 =>
    jn (fun (y14 : Bool) =>
      (if y14 = true then
        (m_glob_Glob_Match_L1 x0 x1 n y3 (W64 (y4 + 1)) y4 y3)
        else
        (jn (fun (y17 : Bool) =>
            (if y17 = true then
              (m_glob_Glob_Match_L1 x0 x1 n (W64 (y3 + 1)) (W64 (y4 + 1)) y5 y6)
              else
              (if (y4 = (x0.pieces.length : Int)) ∧ (y3 = (x1.length : Int)) then
                (some true)
                else
                (if (y5 ≥ 0) ∧ (y6 < (x1.length : Int)) then
                  (m_glob_Glob_Match_L1 x0 x1 n (W64 (y6 + 1)) (W64 (y5 + 1)) y5 (W64 (y6 + 1)))
                  else
                  (some false))))) fun j3 =>
          if y4 < (x0.pieces.length : Int) then
          (if y3 < (x1.length : Int) then
            ((idx x0.pieces y4).bind fun z29 =>
              (idx x1 y3).bind fun z32 =>
              (m_glob_set_has z29.set z32).bind fun p33 =>
              j3 p33)
            else
            (j3 false))
          else
          (j3 false)))) fun j2 =>
    if y4 < (x0.pieces.length : Int) then
    ((idx x0.pieces y4).bind fun z36 =>
      j2 (decide (z36.kind = 1)))
    else
    (j2 false)
def m_glob_Glob_Match (x0 : T_glob_Glob) (x1 : (List UInt8)) : Option Bool :=
  m_glob_Glob_Match_L1 x0 x1 fuel 0 0 (-1) 0
def m_index_Less_1 (x0 : Bool) (x1 : Bool) : Option Bool :=
  some (!x1)
def m_index_merge_s2_L1 (j1 : (List Int) → Option (List Int)) : Nat → (List Int) → (List Int) → (List Int) → Option (List Int)
  | 0, _, _, _ => none
  | n + 1, y9, y12, y15 =>
    if ((y9.length : Int) > 0) ∨ ((y12.length : Int) > 0) then
    (jn (fun (y24 : Bool) =>
        (jn (fun (y26 : Bool) =>
            (jn (fun (y28 : (List Int)) (y31 : Int) =>
                (jn (fun (y33 : (List Int)) (y36 : Int) =>
                    ((m_index_Less_1 y24 y26).bind fun p38 =>
                      if p38 = true then
                      ((appL y15 [y36]).bind fun z41 =>
                        m_index_merge_s2_L1 j1 n y28 y33 z41)
                      else
                      (m_index_merge_s2_L1 j1 n y28 y33 y15))) fun j5 =>
                  if y26 = true then
                  ((idx y12 0).bind fun z45 =>
                    (cutL y12 1 ((y12).length)).bind fun z48 =>
                    j5 z48 z45)
                  else
                  (j5 y12 y31))) fun j4 =>
              if y24 = true then
              ((idx y9 0).bind fun z54 =>
                (cutL y9 1 ((y9).length)).bind fun z57 =>
                j4 z57 z54)
              else
              (j4 y9 0))) fun j3 =>
          if (y12.length : Int) > 0 then
          (if (y9.length : Int) = 0 then
            (j3 true)
            else
            ((idx y12 0).bind fun z64 =>
              (idx y9 0).bind fun z67 =>
              j3 (decide (z64 ≤ z67))))
          else
          (j3 false))) fun j2 =>
      if (y9.length : Int) > 0 then
      (if (y12.length : Int) = 0 then
        (j2 true)
        else
        ((idx y9 0).bind fun z73 =>
          (idx y12 0).bind fun z76 =>
          j2 (decide (z73 ≤ z76))))
      else
      (j2 false))
    else
    (j1 y15)
def m_index_merge_s2 (x0 : (List Int)) (x1 : (List Int)) : Option (List Int) :=
  jn (fun (y5 : (List Int)) =>
    (some y5)) fun j1 =>
  m_index_merge_s2_L1 j1 fuel x0 x1 ([] : List Int)
def m_index_Less (x0 : (List Int)) (x1 : (List Int)) : Option (List Int) :=
  (m_index_merge_s2 x0 x1).bind fun p5 =>
  some p5
def m_index_Index_ask_L1 (x0 : T_index_Index) (x1 : T_api_Match) (x2 : T_glob_Glob) (p8 : (List (List UInt8))) (j1 : (List Int) → (List Int) → Option (List Int)) : Nat → (List Int) → (List Int) → Int → Option (List Int)
  | 0, _, _, _ => none
  | n + 1, y41, y44, y47 =>
    if y47 < (p8.length : Int) then
    (jn (fun (y54 : (List Int)) (y57 : (List Int)) =>
        (m_index_Index_ask_L1 x0 x1 x2 p8 j1 n y54 y57 (W64 (y47 + 1)))) fun j3 =>
      (idx p8 y47).bind fun z61 =>
      (m_index_Or y44 (lookO ({ Key := x1.Key, Val := z61 } : T_api_Pair) x0.rows)).bind fun p71 =>
      (m_glob_Glob_Match x2 z61).bind fun p74 =>
      if p74 = true then
      ((m_index_Or y41 (lookO ({ Key := x1.Key, Val := z61 } : T_api_Pair) x0.rows)).bind fun p77 =>
        j3 p77 p71)
      else
      (j3 y41 p71))
    else
    (j1 y41 y44)
def m_index_Index_ask (x0 : T_index_Index) (x1 : T_api_Match) (x2 : T_glob_Glob) : Option (List Int) :=
  (m_index_Index_Values x0 x1.Key).bind fun p8 =>
  jn (fun (y11 : (List Int)) (y14 : (List Int)) =>
    ((m_glob_Glob_Match x2 ([] : List UInt8)).bind fun p18 =>
      jn (fun (y20 : (List Int)) =>
        (if x1.Not = true then
          ((m_index_Index_all x0).bind fun p25 =>
            (m_index_Less p25 y20).bind fun p28 =>
            some p28)
          else
          (some y20))) fun j2 =>
      if p18 = true then
      ((m_index_Index_all x0).bind fun p32 =>
        (m_index_Less p32 y14).bind fun p35 =>
        (m_index_Or y11 p35).bind fun p38 =>
        j2 p38)
      else
      (j2 y11))) fun j1 =>
  m_index_Index_ask_L1 x0 x1 x2 p8 j1 fuel ([] : List Int) ([] : List Int) 0
def m_index_And_1 (x0 : Bool) (x1 : Bool) : Option Bool :=
  some (decide ((x0 = true) ∧ (x1 = true)))
def m_index_merge_s3_L1 (j1 : (List Int) → Option (List Int)) : Nat → (List Int) → (List Int) → (List Int) → Option (List Int)
  | 0, _, _, _ => none
  | n + 1, y9, y12, y15 =>
    if ((y9.length : Int) > 0) ∨ ((y12.length : Int) > 0) then
    (jn (fun (y24 : Bool) =>
        (jn (fun (y26 : Bool) =>
            (jn (fun (y28 : (List Int)) (y31 : Int) =>
                (jn (fun (y33 : (List Int)) (y36 : Int) =>
                    ((m_index_And_1 y24 y26).bind fun p38 =>
                      if p38 = true then
                      ((appL y15 [y36]).bind fun z41 =>
                        m_index_merge_s3_L1 j1 n y28 y33 z41)
                      else
                      (m_index_merge_s3_L1 j1 n y28 y33 y15))) fun j5 =>
                  if y26 = true then
                  ((idx y12 0).bind fun z45 =>
                    (cutL y12 1 ((y12).length)).bind fun z48 =>
                    j5 z48 z45)
                  else
                  (j5 y12 y31))) fun j4 =>
              if y24 = true then
              ((idx y9 0).bind fun z54 =>
                (cutL y9 1 ((y9).length)).bind fun z57 =>
                j4 z57 z54)
              else
              (j4 y9 0))) fun j3 =>
          if (y12.length : Int) > 0 then
          (if (y9.length : Int) = 0 then
            (j3 true)
            else
            ((idx y12 0).bind fun z64 =>
              (idx y9 0).bind fun z67 =>
              j3 (decide (z64 ≤ z67))))
          else
          (j3 false))) fun j2 =>
      if (y9.length : Int) > 0 then
      (if (y12.length : Int) = 0 then
        (j2 true)
        else
        ((idx y9 0).bind fun z73 =>
          (idx y12 0).bind fun z76 =>
          j2 (decide (z73 ≤ z76))))
      else
      (j2 false))
    else
    (j1 y15)
def m_index_merge_s3 (x0 : (List Int)) (x1 : (List Int)) : Option (List Int) :=
  jn (fun (y5 : (List Int)) =>
    (some y5)) fun j1 =>
  m_index_merge_s3_L1 j1 fuel x0 x1 ([] : List Int)
def m_index_And (x0 : (List Int)) (x1 : (List Int)) : Option (List Int) :=
  (m_index_merge_s3 x0 x1).bind fun p5 =>
  some p5
def m_index_Index_Select_L1 (x0 : T_index_Index) (x1 : (List T_api_Match)) (y7 : (List T_glob_Glob)) (j2 : (List Int) → Option ((List Int) × Int × Int)) : Nat → (List Int) → Int → Option ((List Int) × Int × Int)
  | 0, _, _ => none
  | n + 1, y20, y23 =>
    if y23 < (x1.length : Int) then
    ((idx x1 y23).bind fun z26 =>
      (idx y7 y23).bind fun z34 =>
      (m_index_Index_ask x0 z26 z34).bind fun p37 =>
      (m_index_And y20 p37).bind fun p40 =>
      m_index_Index_Select_L1 x0 x1 y7 j2 n p40 (W64 (y23 + 1)))
    else
    (j2 y20)
def m_index_Index_Select_L2 (x1 : (List T_api_Match)) (j1 : (List T_glob_Glob) → Option ((List Int) × Int × Int)) : Nat → (List T_glob_Glob) → Int → Option ((List Int) × Int × Int)
  | 0, _, _ => none
  | n + 1, y43, y46 =>
    if y46 < (x1.length : Int) then
    ((idx x1 y46).bind fun z51 =>
      (m_glob_Compile z51.Glob).bind fun p58 =>
      jn (fun (y64 : Bool) =>
        (jn (fun (y67 : Int) =>
            (if y67 ≠ 0 then
              (some (([] : List Int), y46, y67))
              else
              ((p58.1).bind fun z72 =>
                (appL y43 [z72]).bind fun z74 =>
                m_index_Index_Select_L2 x1 j1 n z74 (W64 (y46 + 1))))) fun j4 =>
          if y64 = true then
          (j4 3)
          else
          (j4 p58.2.2))) fun j3 =>
      if (p58.2.2 = 0) ∧ (z51.Key ≠ ([] : List UInt8)) then
      ((m_label_Check z51.Key ([] : List T_api_Pair)).bind fun p79 =>
        j3 (decide (p79 ≠ 0)))
      else
      (j3 false))
    else
    (j1 y43)
def m_index_Index_Select (x0 : T_index_Index) (x1 : (List T_api_Match)) : Option ((List Int) × Int × Int) :=
  jn (fun (y7 : (List T_glob_Glob)) =>
    ((m_index_Index_all x0).bind fun p11 =>
      jn (fun (y14 : (List Int)) =>
        (some (y14, 0, 0))) fun j2 =>
      m_index_Index_Select_L1 x0 x1 y7 j2 fuel p11 0)) fun j1 =>
  m_index_Index_Select_L2 x1 j1 fuel ([] : List T_glob_Glob) 0
def m_pack_NewWriter  : Option T_pack_Writer :=
  some ({ b := ([] : List UInt8) } : T_pack_Writer)
def m_math_bits_Len64 (x0 : UInt64) : Option Int :=
  jn (fun (y1 : UInt64) (y2 : Int) =>
    (jn (fun (y4 : UInt64) (y5 : Int) =>
        (jn (fun (y7 : UInt64) (y8 : Int) =>
            ((idx ([0, 1, 2, 2, 3, 3, 3, 3, 4, 4, 4, 4, 4, 4, 4, 4, 5, 5, 5, 5, 5, 5, 5, 5, 5, 5, 5, 5, 5, 5, 5, 5, 6, 6, 6, 6, 6, 6, 6, 6, 6, 6, 6, 6, 6, 6, 6, 6, 6, 6, 6, 6, 6, 6, 6, 6, 6, 6, 6, 6, 6, 6, 6, 6, 7, 7, 7, 7, 7, 7, 7, 7, 7, 7, 7, 7, 7, 7, 7, 7, 7, 7, 7, 7, 7, 7, 7, 7, 7, 7, 7, 7, 7, 7, 7, 7, 7, 7, 7, 7, 7, 7, 7, 7, 7, 7, 7, 7, 7, 7, 7, 7, 7, 7, 7, 7, 7, 7, 7, 7, 7, 7, 7, 7, 7, 7, 7, 7, 8, 8, 8, 8, 8, 8, 8, 8, 8, 8, 8, 8, 8, 8, 8, 8, 8, 8, 8, 8, 8, 8, 8, 8, 8, 8, 8, 8, 8, 8, 8, 8, 8, 8, 8, 8, 8, 8, 8, 8, 8, 8, 8, 8, 8, 8, 8, 8, 8, 8, 8, 8, 8, 8, 8, 8, 8, 8, 8, 8, 8, 8, 8, 8, 8, 8, 8, 8, 8, 8, 8, 8, 8, 8, 8, 8, 8, 8, 8, 8, 8, 8, 8, 8, 8, 8, 8, 8, 8, 8, 8, 8, 8, 8, 8, 8, 8, 8, 8, 8, 8, 8, 8, 8, 8, 8, 8, 8, 8, 8, 8, 8, 8, 8, 8, 8, 8, 8, 8, 8, 8, 8, 8, 8, 8, 8, 8, 8] : List UInt8) ((toU8 ((y7).toNat : Int)).toNat : Int)).bind fun z10 =>
              some (W64 (y8 + (z10.toNat : Int))))) fun j3 =>
          if ((y4).toNat : Int) ≥ 256 then
          (j3 (y4 >>> UInt64.ofNat 8) (W64 (y5 + 8)))
          else
          (j3 y4 y5))) fun j2 =>
      if ((y1).toNat : Int) ≥ 65536 then
      (j2 (y1 >>> UInt64.ofNat 16) (W64 (y2 + 16)))
      else
      (j2 y1 y2))) fun j1 =>
  if ((x0).toNat : Int) ≥ 4294967296 then
  (j1 (x0 >>> UInt64.ofNat 32) 32)
  else
  (j1 x0 0)
def m_pack_others (x0 : UInt64) : Option Int :=
  (m_math_bits_Len64 x0).bind fun p1 =>
  if p1 > 56 then
  (some 8)
  else
  ((quoZ (max (W64 (p1 - 1)) 0) 7).bind fun z4 =>
    some z4)
def m_pack_Writer_Num_L1 (x1 : UInt64) (j2 : T_pack_Writer → Option T_pack_Writer) : Nat → Int → T_pack_Writer → Option T_pack_Writer
  | 0, _, _ => none
  | n + 1, y17, y18 =>
    if y17 > 0 then
    ((appL y18.b [toU8 ((shr64 x1 ((toU64 (W64 ((W64 (8 * y17)) - 8))).toNat)).toNat : Int)]).bind fun z23 =>
      m_pack_Writer_Num_L1 x1 j2 n (W64 (y17 - 1)) ({ b := z23 } : T_pack_Writer))
    else
    (j2 y18)
def m_pack_Writer_Num (x0 : T_pack_Writer) (x1 : UInt64) : Option T_pack_Writer :=
  (m_pack_others x1).bind fun p2 =>
  jn (fun (y5 : UInt8) =>
    ((appL x0.b [y5]).bind fun z9 =>
      jn (fun (y15 : T_pack_Writer) =>
        (some y15)) fun j2 =>
      m_pack_Writer_Num_L1 x1 j2 fuel p2 ({ b := z9 } : T_pack_Writer))) fun j1 =>
  if p2 < 8 then
  (j1 ((shl8 (255 : UInt8) ((toU64 (W64 (8 - p2))).toNat)) ||| (toU8 ((shr64 x1 ((toU64 (W64 (8 * p2))).toNat)).toNat : Int))))
  else
  (j1 (shl8 (255 : UInt8) ((toU64 (W64 (8 - p2))).toNat)))
def m_bytes_Clone (x0 : (List UInt8)) : Option (List UInt8) :=
  appL [] x0
def m_pack_Writer_Bytes (x0 : T_pack_Writer) : Option (List UInt8) :=
  (m_bytes_Clone x0.b).bind fun p8 =>
  some p8
def m_index_Bytes_L1 (x0 : (List Int)) (j3 : T_pack_Writer → Option ((List UInt8) × Int)) : Nat → Int → Int → T_pack_Writer → Option ((List UInt8) × Int)
  | 0, _, _, _ => none
  | n + 1, y21, y22, y23 =>
    if y22 < (x0.length : Int) then
    ((idx x0 y22).bind fun z26 =>
      (m_pack_Writer_Num y23 (toU64 (W64 ((W64 (z26 - y21)) - 1)))).bind fun p28 =>
      m_index_Bytes_L1 x0 j3 n z26 (W64 (y22 + 1)) p28)
    else
    (j3 y23)
def m_index_Bytes_L2 (x0 : (List Int)) (j1 : Unit → Option ((List UInt8) × Int)) : Nat → Int → Option ((List UInt8) × Int)
  | 0, _ => none
  | n + 1, y38 =>
    if y38 < (x0.length : Int) then
    ((idx x0 y38).bind fun z41 =>
      jn (fun (y43 : Bool) =>
        (if y43 = true then
          (some (([] : List UInt8), 9))
          else
          (m_index_Bytes_L2 x0 j1 n (W64 (y38 + 1))))) fun j5 =>
      if z41 < 0 then
      (j5 true)
      else
      (jn (fun (y49 : Bool) =>
          (j5 y49)) fun j6 =>
        if y38 > 0 then
        ((idx x0 (W64 (y38 - 1))).bind fun z52 =>
          j6 (decide (z41 ≤ z52)))
        else
        (j6 false)))
    else
    (j1 ())
def m_index_Bytes (x0 : (List Int)) : Option ((List UInt8) × Int) :=
  jn (fun (_ : Unit) =>
    (jn (fun (y4 : Bool) =>
        (if y4 = true then
          (some (([] : List UInt8), 4))
          else
          ((m_pack_NewWriter ).bind fun p9 =>
            (m_pack_Writer_Num p9 (toU64 (x0.length : Int))).bind fun p12 =>
            jn (fun (y16 : T_pack_Writer) =>
              ((m_pack_Writer_Bytes y16).bind fun p18 =>
                some (p18, 0))) fun j3 =>
            m_index_Bytes_L1 x0 j3 fuel (-1) 0 p12))) fun j2 =>
      if (x0.length : Int) > 65536 then
      (j2 true)
      else
      (jn (fun (y33 : Bool) =>
          (j2 y33)) fun j4 =>
        if (x0.length : Int) > 0 then
        ((idx x0 (W64 ((x0.length : Int) - 1))).bind fun z36 =>
          j4 (decide (z36 > 4503599627370496)))
        else
        (j4 false)))) fun j1 =>
  m_index_Bytes_L2 x0 j1 fuel 0
def m_limnographlaw35_awake  : Option Bool :=
  (m_index_New ([([97, 59, 98, 61, 49, 32, 51, 48, 48] : List UInt8), ([98, 32, 51, 48, 48] : List UInt8)] : List (List UInt8))).bind fun p6 =>
  (m_index_New ([([97, 32, 51, 48, 48] : List UInt8), ([97, 32, 51, 48, 48] : List UInt8)] : List (List UInt8))).bind fun p14 =>
  if (((((p6.1).isNone) = true) ∨ (p6.2.2 ≠ 0)) ∨ (p14.2.1 ≠ 1)) ∨ (p14.2.2 ≠ 8) then
  (some false)
  else
  ((p6.1).bind fun z30 =>
    (m_index_Index_Select z30 ([({ Key := ([98] : List UInt8), Glob := ([] : List UInt8), Not := false } : T_api_Match)] : List T_api_Match)).bind fun p29 =>
    (m_index_Bytes ([3, 4, 9] : List Int)).bind fun p37 =>
    jn (fun (y44 : Bool) =>
      (jn (fun (y50 : Bool) =>
          (jn (fun (y54 : Bool) =>
              (some y54)) fun j3 =>
            if y50 = true then
            ((m_index_And ([1, 2] : List Int) ([2, 3] : List Int)).bind fun p63 =>
              j3 (decide ((p63.length : Int) = 1)))
            else
            (j3 false))) fun j2 =>
        if (y44 = true) ∧ (p37.2 = 0) then
        (j2 (decide (p37.1 = ([3, 3, 0, 4] : List UInt8))))
        else
        (j2 false))) fun j1 =>
    if (p29.2.2 = 0) ∧ ((p29.1.length : Int) = 1) then
    ((idx p29.1 0).bind fun z68 =>
      j1 (decide (z68 = 1)))
    else
    (j1 false))
def m_limnographref35_Row_L1 (x0 : (List Int)) (j1 : Unit → Option Bool) : Nat → Int → Option Bool
  | 0, _ => none
  | n + 1, y4 =>
    if y4 < (x0.length : Int) then
    (jn (fun (y7 : Bool) =>
        (if y7 = true then
          (some false)
          else
          (m_limnographref35_Row_L1 x0 j1 n (W64 (y4 + 1))))) fun j2 =>
      (idx x0 y4).bind fun z11 =>
      if z11 < 0 then
      (j2 true)
      else
      (if y4 > 0 then
        ((idx x0 y4).bind fun z16 =>
          (idx x0 (W64 (y4 - 1))).bind fun z19 =>
          j2 (decide (z16 ≤ z19)))
        else
        (j2 false)))
    else
    (j1 ())
def m_limnographref35_Row (x0 : (List Int)) : Option Bool :=
  jn (fun (_ : Unit) =>
    (some true)) fun j1 =>
  m_limnographref35_Row_L1 x0 j1 fuel 0
def m_limnographref35_In_L1 (x0 : (List Int)) (x1 : Int) (j1 : Unit → Option Bool) : Nat → Int → Option Bool
  | 0, _ => none
  | n + 1, y4 =>
    if y4 < (x0.length : Int) then
    ((idx x0 y4).bind fun z7 =>
      if z7 = x1 then
      (some true)
      else
      (m_limnographref35_In_L1 x0 x1 j1 n (W64 (y4 + 1))))
    else
    (j1 ())
def m_limnographref35_In (x0 : (List Int)) (x1 : Int) : Option Bool :=
  jn (fun (_ : Unit) =>
    (some false)) fun j1 =>
  m_limnographref35_In_L1 x0 x1 j1 fuel 0
def m_limnographlaw35_IndexRows_L1 (x0 : (List Int)) (x1 : (List Int)) (p13 : (List Int)) (p16 : (List Int)) (p19 : (List Int)) (z43 : (List Int)) (j6 : Unit → Option Bool) : Nat → Int → Option Bool
  | 0, _ => none
  | n + 1, y46 =>
    if y46 < (z43.length : Int) then
    ((idx z43 y46).bind fun z49 =>
      (m_limnographref35_In x0 z49).bind fun p50 =>
      (m_limnographref35_In x1 z49).bind fun p52 =>
      (m_limnographref35_In p13 z49).bind fun p54 =>
      jn (fun (y58 : Bool) =>
        (jn (fun (y60 : Bool) =>
            (if y60 = true then
              (some false)
              else
              (m_limnographlaw35_IndexRows_L1 x0 x1 p13 p16 p19 z43 j6 n (W64 (y46 + 1))))) fun j8 =>
          if y58 = true then
          (j8 true)
          else
          ((m_limnographref35_In p19 z49).bind fun p64 =>
            j8 (decide (p64 ≠ decide ((p50 = true) ∧ ((!p52) = true))))))) fun j7 =>
      if p54 ≠ decide ((p50 = true) ∧ (p52 = true)) then
      (j7 true)
      else
      ((m_limnographref35_In p16 z49).bind fun p69 =>
        j7 (decide (p69 ≠ decide ((p50 = true) ∨ (p52 = true))))))
    else
    (j6 ())
def m_limnographlaw35_IndexRows (x0 : (List Int)) (x1 : (List Int)) (x2 : Int) : Option Bool :=
  (m_limnographlaw35_awake ).bind fun p7 =>
  if (!p7) = true then
  (some false)
  else
  (if ((x0.length : Int) > 60) ∨ ((x1.length : Int) > 60) then
    (some true)
    else
    ((m_index_And x0 x1).bind fun p13 =>
      (m_index_Or x0 x1).bind fun p16 =>
      (m_index_Less x0 x1).bind fun p19 =>
      (m_limnographref35_Row x0).bind fun p22 =>
      jn (fun (y24 : Bool) =>
        (if y24 = true then
          (some true)
          else
          ((m_limnographref35_Row p13).bind fun p27 =>
            jn (fun (y29 : Bool) =>
              (jn (fun (y31 : Bool) =>
                  (jn (fun (y33 : Bool) =>
                      (jn (fun (y35 : Bool) =>
                          (if y35 = true then
                            (some false)
                            else
                            ((appL ([x2] : List Int) x0).bind fun z41 =>
                              (appL z41 x1).bind fun z43 =>
                              jn (fun (_ : Unit) =>
                                (some true)) fun j6 =>
                              m_limnographlaw35_IndexRows_L1 x0 x1 p13 p16 p19 z43 j6 fuel 0))) fun j5 =>
                        if y33 = true then
                        (j5 true)
                        else
                        (j5 (decide ((p16.length : Int) ≠ W64 ((p19.length : Int) + (x1.length : Int))))))) fun j4 =>
                    if y31 = true then
                    (j4 true)
                    else
                    (j4 (decide (W64 ((p13.length : Int) + (p19.length : Int)) ≠ (x0.length : Int)))))) fun j3 =>
                if y29 = true then
                (j3 true)
                else
                ((m_limnographref35_Row p19).bind fun p76 =>
                  j3 (!p76)))) fun j2 =>
            if (!p27) = true then
            (j2 true)
            else
            ((m_limnographref35_Row p16).bind fun p79 =>
              j2 (!p79))))) fun j1 =>
      if (!p22) = true then
      (j1 true)
      else
      ((m_limnographref35_Row x1).bind fun p82 =>
        j1 (!p82))))
def m_limnographref34_Few_L1 (x0 : (List (List UInt8))) (j1 : Unit → Option Bool) : Nat → Int → Option Bool
  | 0, _ => none
  | n + 1, y5 =>
    if y5 < (x0.length : Int) then
    ((idx x0 y5).bind fun z8 =>
      if (z8.length : Int) > 500 then
      (some false)
      else
      (m_limnographref34_Few_L1 x0 j1 n (W64 (y5 + 1))))
    else
    (j1 ())
def m_limnographref34_Few (x0 : (List (List UInt8))) (x1 : Int) : Option Bool :=
  if (x0.length : Int) > x1 then
  (some false)
  else
  (jn (fun (_ : Unit) =>
      (some true)) fun j1 =>
    m_limnographref34_Few_L1 x0 j1 fuel 0)
def m_limnographref35_Few_L1 (x0 : (List T_api_Match)) (j1 : Unit → Option Bool) : Nat → Int → Option Bool
  | 0, _ => none
  | n + 1, y5 =>
    if y5 < (x0.length : Int) then
    ((idx x0 y5).bind fun z8 =>
      jn (fun (y10 : Bool) =>
        (if y10 = true then
          (some false)
          else
          (m_limnographref35_Few_L1 x0 j1 n (W64 (y5 + 1))))) fun j2 =>
      if (z8.Glob.length : Int) > 70 then
      (j2 true)
      else
      ((idx x0 y5).bind fun z14 =>
        j2 (decide ((z14.Key.length : Int) > 100))))
    else
    (j1 ())
def m_limnographref35_Few (x0 : (List T_api_Match)) : Option Bool :=
  if (x0.length : Int) > 20 then
  (some false)
  else
  (jn (fun (_ : Unit) =>
      (some true)) fun j1 =>
    m_limnographref35_Few_L1 x0 j1 fuel 0)
def m_limnographref35_Same_L1 (x0 : (List Int)) (x1 : (List Int)) (j1 : Unit → Option Bool) : Nat → Int → Option Bool
  | 0, _ => none
  | n + 1, y7 =>
    if y7 < (x0.length : Int) then
    ((idx x0 y7).bind fun z11 =>
      (idx x1 y7).bind fun z14 =>
      if z11 ≠ z14 then
      (some false)
      else
      (m_limnographref35_Same_L1 x0 x1 j1 n (W64 (y7 + 1))))
    else
    (j1 ())
def m_limnographref35_Same (x0 : (List Int)) (x1 : (List Int)) : Option Bool :=
  if (x0.length : Int) ≠ (x1.length : Int) then
  (some false)
  else
  (jn (fun (_ : Unit) =>
      (some true)) fun j1 =>
    m_limnographref35_Same_L1 x0 x1 j1 fuel 0)
def m_index_Index_Len (x0 : T_index_Index) : Option Int :=
  some (x0.keys.length : Int)
def m_limnographlaw35_IndexParts (x0 : (List (List UInt8))) (x1 : (List T_api_Match)) (x2 : (List T_api_Match)) : Option Bool :=
  (m_limnographlaw35_awake ).bind fun p9 =>
  if (!p9) = true then
  (some false)
  else
  ((m_limnographref34_Few x0 40).bind fun p12 =>
    jn (fun (y14 : Bool) =>
      (jn (fun (y16 : Bool) =>
          (if y16 = true then
            (some true)
            else
            ((m_index_New x0).bind fun p19 =>
              if ((p19.1).isNone) = true then
              (some true)
              else
              ((p19.1).bind fun z24 =>
                (m_index_Index_Select z24 x1).bind fun p23 =>
                (m_index_Index_Select z24 x2).bind fun p28 =>
                (appL ([] : List T_api_Match) x1).bind fun z34 =>
                (appL z34 x2).bind fun z36 =>
                (m_index_Index_Select z24 z36).bind fun p38 =>
                if (p23.2.2 ≠ 0) ∨ (p28.2.2 ≠ 0) then
                (some (decide (p38.2.2 ≠ 0)))
                else
                (jn (fun (y45 : Bool) =>
                    (if y45 = true then
                      (some false)
                      else
                      (if (x1.length : Int) ≠ 1 then
                        (some true)
                        else
                        ((idx x1 0).bind fun z49 =>
                          (m_index_Index_Select z24 ([({ Key := z49.Key, Glob := z49.Glob, Not := !z49.Not } : T_api_Match)] : List T_api_Match)).bind fun p59 =>
                          jn (fun (y63 : Bool) =>
                            (jn (fun (y66 : Bool) =>
                                (some y66)) fun j5 =>
                              if y63 = true then
                              ((m_index_Or p23.1 p59.1).bind fun p69 =>
                                (m_index_Index_Len z24).bind fun p72 =>
                                j5 (decide ((p69.length : Int) = p72)))
                              else
                              (j5 false))) fun j4 =>
                          if p59.2.2 = 0 then
                          ((m_index_And p23.1 p59.1).bind fun p75 =>
                            j4 (decide ((p75.length : Int) = 0)))
                          else
                          (j4 false))))) fun j3 =>
                  if p38.2.2 ≠ 0 then
                  (j3 true)
                  else
                  ((m_index_And p23.1 p28.1).bind fun p79 =>
                    (m_limnographref35_Same p38.1 p79).bind fun p82 =>
                    j3 (!p82))))))) fun j2 =>
        if y14 = true then
        (j2 true)
        else
        ((m_limnographref35_Few x2).bind fun p85 =>
          j2 (!p85)))) fun j1 =>
    if (!p12) = true then
    (j1 true)
    else
    ((m_limnographref35_Few x1).bind fun p88 =>
      j1 (!p88)))
end Go.Proofs.YtpcpfjpcfcbopaaDoor
