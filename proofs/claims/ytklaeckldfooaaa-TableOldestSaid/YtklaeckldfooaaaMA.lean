/-
  Plain forms of functions of the program: what each computes, told over lists and numbers. Printed by a program.
-/
import Derived.Test.YtklaeckldfooaaaWu
namespace Go.Proofs.Ytklaeckldfooaaa
open Go Go.RowKit Go.Wk
structure T_table_slot_int_ where
  v : Int
  when : Int
  deriving DecidableEq
def T_table_slot_int_.rep : Rep T_table_slot_int_ := Rep.map (fun x => (x.v, x.when)) (Rep.two (intR .i64) (intR .i64))
theorem T_table_slot_int_.flat : T_table_slot_int_.rep.Flat := map_flat _ (two_flat (int_flat _) (int_flat _))
structure T_limnographlaw14_Act where
  Kind : Int
  Key : (List UInt8)
  V : Int
  deriving DecidableEq
def T_limnographlaw14_Act.rep : Rep T_limnographlaw14_Act := Rep.map (fun x => (x.Kind, (x.Key, x.V))) (Rep.two (intR .i64) (Rep.two textR (intR .i64)))
theorem T_limnographlaw14_Act.flat : T_limnographlaw14_Act.rep.Flat := map_flat _ (two_flat (int_flat _) (two_flat text_flat (int_flat _)))
structure T_table_Table_int_ where
  most : Int
  clock : Int
  m : (Kv T_table_slot_int_)
  deriving DecidableEq
structure T_limnographref14_Thing where
  Key : (List UInt8)
  V : Int
  deriving DecidableEq
def T_limnographref14_Thing.rep : Rep T_limnographref14_Thing := Rep.map (fun x => (x.Key, x.V)) (Rep.two textR (intR .i64))
theorem T_limnographref14_Thing.flat : T_limnographref14_Thing.rep.Flat := map_flat _ (two_flat text_flat (int_flat _))
def T_table_Table_int_.sh (b : Nat) (x : T_table_Table_int_) : List Rs → Prop := fun L => ∃ (m1_0 : Nat), L = [boxR b 48 [.int .i64 (x.most), .int .i64 (x.clock), .map (some m1_0)], mapR m1_0 vA T_table_slot_int_.rep x.m]
def T_table_Table_int_.obj (F : Nat → Prop) (b : Nat) (x : T_table_Table_int_) : Rs := objR F (T_table_Table_int_.sh b x)
def m_table_New_int (x0 : Int) : Option T_table_Table_int_ :=
  some ({ most := max x0 0, clock := 0, m := ([] : Kv T_table_slot_int_) } : T_table_Table_int_)
def m_table_Table_int_Room (x0 : T_table_Table_int_) : Option Int :=
  some (W64 (x0.most - (x0.m.length : Int)))
def m_table_Table_int_Put (x0 : T_table_Table_int_) (x1 : (List UInt8)) (x2 : Int) : Option (Bool × T_table_Table_int_) :=
  jn (fun (y11 : Bool) =>
    (if y11 = true then
      (some (false, x0))
      else
      (some (true, ({ most := x0.most, clock := W64 (x0.clock + 1), m := (putP x1 ({ v := x2, when := W64 (x0.clock + 1) } : T_table_slot_int_) x0.m) } : T_table_Table_int_))))) fun j1 =>
  if (!((lookP x1 x0.m).isSome)) = true then
  ((m_table_Table_int_Room x0).bind fun p23 =>
    j1 (decide (p23 = 0)))
  else
  (j1 false)
def m_table_Table_int_Get (x0 : T_table_Table_int_) (x1 : (List UInt8)) : Option (Int × Bool) :=
  some (((lookP x1 x0.m).getD ({ v := 0, when := 0 } : T_table_slot_int_)).v, (lookP x1 x0.m).isSome)
def m_table_Table_int_Oldest (x0 : T_table_Table_int_) : Option ((List UInt8) × Bool) :=
  if (∀ p ∈ x0.m, 0 < p.2.when) ∧ (x0.m.map (·.2)).Pairwise (fun x y => x.when ≠ y.when) then some ((oldK (fun x : T_table_slot_int_ => x.when) x0.m).1, decide ((oldK (fun x : T_table_slot_int_ => x.when) x0.m).2 > 0)) else none
def m_limnographlaw14_awake  : Option Bool :=
  (m_table_New_int 1).bind fun p1 =>
  (m_table_Table_int_Put p1 ([97] : List UInt8) 1).bind fun p4 =>
  jn (fun (y8 : Bool) (y9 : T_table_Table_int_) =>
    (jn (fun (y11 : Bool) (y12 : T_table_Table_int_) =>
        (if y11 = true then
          (some false)
          else
          ((m_table_Table_int_Get y12 ([97] : List UInt8)).bind fun p15 =>
            (m_table_Table_int_Oldest y12).bind fun p17 =>
            some (decide ((((p15.1 = 3) ∧ (p15.2 = true)) ∧ (p17.1 = ([97] : List UInt8))) ∧ (p17.2 = true)))))) fun j2 =>
      if y8 = true then
      (j2 true y9)
      else
      ((m_table_Table_int_Put y9 ([97] : List UInt8) 3).bind fun p26 =>
        j2 (!p26.1) p26.2))) fun j1 =>
  if (!p4.1) = true then
  (j1 true p4.2)
  else
  ((m_table_Table_int_Put p4.2 ([98] : List UInt8) 2).bind fun p31 =>
    j1 p31.1 p31.2)
def m_limnographlaw14_few_L1 (x0 : (List T_limnographlaw14_Act)) (j1 : Unit → Option Bool) : Nat → Int → Option Bool
  | 0, _ => none
  | n + 1, y5 =>
    if y5 < (x0.length : Int) then
    ((idx x0 y5).bind fun z8 =>
      if (z8.Key.length : Int) > 60 then
      (some false)
      else
      (m_limnographlaw14_few_L1 x0 j1 n (W64 (y5 + 1))))
    else
    (j1 ())
def m_limnographlaw14_few (x0 : (List T_limnographlaw14_Act)) : Option Bool :=
  if (x0.length : Int) > 60 then
  (some false)
  else
  (jn (fun (_ : Unit) =>
      (some true)) fun j1 =>
    m_limnographlaw14_few_L1 x0 j1 fuel 0)
def m_limnographref14_find_L1 (x0 : (List T_limnographref14_Thing)) (x1 : (List UInt8)) (j1 : Unit → Option Int) : Nat → Int → Option Int
  | 0, _ => none
  | n + 1, y4 =>
    if y4 < (x0.length : Int) then
    ((idx x0 y4).bind fun z7 =>
      if z7.Key = x1 then
      (some y4)
      else
      (m_limnographref14_find_L1 x0 x1 j1 n (W64 (y4 + 1))))
    else
    (j1 ())
def m_limnographref14_find (x0 : (List T_limnographref14_Thing)) (x1 : (List UInt8)) : Option Int :=
  jn (fun (_ : Unit) =>
    (some (-1))) fun j1 =>
  m_limnographref14_find_L1 x0 x1 j1 fuel 0
def m_limnographref14_Get (x0 : (List T_limnographref14_Thing)) (x1 : (List UInt8)) : Option (Int × Bool) :=
  (m_limnographref14_find x0 x1).bind fun p3 =>
  if p3 ≥ 0 then
  ((idx x0 p3).bind fun z6 =>
    some (z6.V, true))
  else
  (some (0, false))
def m_limnographref14_Del_L1 (x0 : (List T_limnographref14_Thing)) (x1 : (List UInt8)) (j1 : (List T_limnographref14_Thing) → Option (List T_limnographref14_Thing)) : Nat → (List T_limnographref14_Thing) → Int → Option (List T_limnographref14_Thing)
  | 0, _, _ => none
  | n + 1, y7, y10 =>
    if y10 < (x0.length : Int) then
    (jn (fun (y15 : (List T_limnographref14_Thing)) =>
        (m_limnographref14_Del_L1 x0 x1 j1 n y15 (W64 (y10 + 1)))) fun j2 =>
      (idx x0 y10).bind fun z19 =>
      if z19.Key ≠ x1 then
      ((idx x0 y10).bind fun z22 =>
        (appL y7 [z22]).bind fun z24 =>
        j2 z24)
      else
      (j2 y7))
    else
    (j1 y7)
def m_limnographref14_Del (x0 : (List T_limnographref14_Thing)) (x1 : (List UInt8)) : Option (List T_limnographref14_Thing) :=
  jn (fun (y3 : (List T_limnographref14_Thing)) =>
    (some y3)) fun j1 =>
  m_limnographref14_Del_L1 x0 x1 j1 fuel ([] : List T_limnographref14_Thing) 0
def m_limnographref14_Put (x0 : (List T_limnographref14_Thing)) (x1 : Int) (x2 : (List UInt8)) (x3 : Int) : Option ((List T_limnographref14_Thing) × Bool) :=
  (m_limnographref14_find x0 x2).bind fun p3 =>
  if (p3 < 0) ∧ ((x0.length : Int) ≥ x1) then
  (some (x0, false))
  else
  ((m_limnographref14_Del x0 x2).bind fun p8 =>
    (appL p8 [({ Key := x2, V := x3 } : T_limnographref14_Thing)]).bind fun z11 =>
    some (z11, true))
def m_table_Table_int_Del (x0 : T_table_Table_int_) (x1 : (List UInt8)) : Option (Bool × T_table_Table_int_) :=
  some ((lookP x1 x0.m).isSome, ({ most := x0.most, clock := x0.clock, m := (delP x1 x0.m) } : T_table_Table_int_))
def m_table_Table_int_Clone (x0 : T_table_Table_int_) : Option T_table_Table_int_ :=
  some ({ most := x0.most, clock := x0.clock, m := x0.m } : T_table_Table_int_)
def m_limnographref14_Sorted_L2 (x0 : (List T_limnographref14_Thing)) (y7 : (List T_limnographref14_Thing)) (y10 : Int) (j2 : Int → Option (List T_limnographref14_Thing)) : Nat → Int → Option (List T_limnographref14_Thing)
  | 0, _ => none
  | n + 1, y33 =>
    jn (fun (y35 : Bool) =>
      (if y35 = true then
        (m_limnographref14_Sorted_L2 x0 y7 y10 j2 n (W64 (y33 - 1)))
        else
        (j2 y33))) fun j3 =>
    if y33 > 0 then
    ((idx y7 (W64 (y33 - 1))).bind fun z40 =>
      (idx x0 y10).bind fun z41 =>
      j3 (Op.bytesLess z41.Key z40.Key))
    else
    (j3 false)
def m_limnographref14_Sorted_L1 (x0 : (List T_limnographref14_Thing)) (j1 : (List T_limnographref14_Thing) → Option (List T_limnographref14_Thing)) : Nat → (List T_limnographref14_Thing) → Int → Option (List T_limnographref14_Thing)
  | 0, _, _ => none
  | n + 1, y7, y10 =>
    if y10 < (x0.length : Int) then
    (jn (fun (y15 : Int) =>
        ((cutL y7 0 y15).bind fun z17 =>
          (appL ([] : List T_limnographref14_Thing) z17).bind fun z21 =>
          (idx x0 y10).bind fun z25 =>
          (appL z21 [z25]).bind fun z27 =>
          (cutL y7 y15 ((y7).length)).bind fun z29 =>
          (appL z27 z29).bind fun z31 =>
          m_limnographref14_Sorted_L1 x0 j1 n z31 (W64 (y10 + 1)))) fun j2 =>
      m_limnographref14_Sorted_L2 x0 y7 y10 j2 fuel (y7.length : Int))
    else
    (j1 y7)
def m_limnographref14_Sorted (x0 : (List T_limnographref14_Thing)) : Option (List T_limnographref14_Thing) :=
  jn (fun (y3 : (List T_limnographref14_Thing)) =>
    (some y3)) fun j1 =>
  m_limnographref14_Sorted_L1 x0 j1 fuel ([] : List T_limnographref14_Thing) 0
def m_table_Table_int_Keys (x0 : T_table_Table_int_) : Option (List (List UInt8)) :=
  (keysG x0.m).bind fun z8 =>
  some z8
def m_table_Table_int_Len (x0 : T_table_Table_int_) : Option Int :=
  some (x0.m.length : Int)
def m_limnographlaw14_same_L1 (x0 : T_table_Table_int_) (p5 : (List T_limnographref14_Thing)) (p8 : (List (List UInt8))) (j3 : Unit → Option Bool) : Nat → Int → Option Bool
  | 0, _ => none
  | n + 1, y26 =>
    if y26 < (p5.length : Int) then
    ((idx p5 y26).bind fun z29 =>
      (m_table_Table_int_Get x0 z29.Key).bind fun p30 =>
      jn (fun (y32 : Bool) =>
        (if y32 = true then
          (some false)
          else
          (m_limnographlaw14_same_L1 x0 p5 p8 j3 n (W64 (y26 + 1))))) fun j4 =>
      (idx p8 y26).bind fun z36 =>
      (idx p5 y26).bind fun z37 =>
      if z36 ≠ z37.Key then
      (j4 true)
      else
      ((idx p5 y26).bind fun z39 =>
        if p30.1 ≠ z39.V then
        (j4 true)
        else
        (j4 (!p30.2))))
    else
    (j3 ())
def m_limnographlaw14_same (x0 : T_table_Table_int_) (x1 : (List T_limnographref14_Thing)) (x2 : Int) : Option Bool :=
  (m_limnographref14_Sorted x1).bind fun p5 =>
  (m_table_Table_int_Keys x0).bind fun p8 =>
  jn (fun (y11 : Bool) =>
    (jn (fun (y13 : Bool) =>
        (if y13 = true then
          (some false)
          else
          (jn (fun (_ : Unit) =>
              ((m_table_Table_int_Oldest x0).bind fun p17 =>
                if (x1.length : Int) = 0 then
                (some (decide ((p17.1 = ([] : List UInt8)) ∧ ((!p17.2) = true))))
                else
                ((idx x1 0).bind fun z22 =>
                  some (decide ((p17.1 = z22.Key) ∧ (p17.2 = true)))))) fun j3 =>
            m_limnographlaw14_same_L1 x0 p5 p8 j3 fuel 0))) fun j2 =>
      if y11 = true then
      (j2 true)
      else
      ((m_table_Table_int_Room x0).bind fun p42 =>
        j2 (decide (p42 ≠ W64 ((max x2 0) - (p5.length : Int))))))) fun j1 =>
  if (p8.length : Int) ≠ (p5.length : Int) then
  (j1 true)
  else
  ((m_table_Table_int_Len x0).bind fun p45 =>
    j1 (decide (p45 ≠ (p5.length : Int))))
def m_limnographlaw14_TablePlays_L1 (x0 : Int) (x1 : (List T_limnographlaw14_Act)) (j1 : (List T_limnographref14_Thing) → T_table_Table_int_ → Option Bool) : Nat → (List T_limnographref14_Thing) → Int → T_table_Table_int_ → Option Bool
  | 0, _, _, _ => none
  | n + 1, y24, y27, y28 =>
    if y27 < (x1.length : Int) then
    ((idx x1 y27).bind fun z35 =>
      (m_table_Table_int_Get y28 z35.Key).bind fun p40 =>
      (m_limnographref14_Get y24 z35.Key).bind fun p42 =>
      if (p40.1 ≠ p42.1) ∨ (p40.2 ≠ p42.2) then
      (some false)
      else
      (jn (fun (y47 : (List T_limnographref14_Thing)) (y50 : T_table_Table_int_) =>
          ((m_limnographlaw14_same y50 y47 x0).bind fun p52 =>
            jn (fun (y55 : Bool) =>
              (if y55 = true then
                (some false)
                else
                (m_limnographlaw14_TablePlays_L1 x0 x1 j1 n y47 (W64 (y27 + 1)) y50))) fun j3 =>
            if (!p52) = true then
            (j3 true)
            else
            ((m_table_Table_int_Len y50).bind fun p59 =>
              j3 (decide (p59 > max x0 0))))) fun j2 =>
        if z35.Kind = 0 then
        ((m_limnographref14_Put y24 x0 z35.Key z35.V).bind fun p62 =>
          (m_table_Table_int_Put y28 z35.Key z35.V).bind fun p65 =>
          if p65.1 ≠ p62.2 then
          (some false)
          else
          (j2 p62.1 p65.2))
        else
        (if z35.Kind = 1 then
          ((m_table_Table_int_Del y28 z35.Key).bind fun p71 =>
            if p71.1 ≠ p42.2 then
            (some false)
            else
            ((m_limnographref14_Del y24 z35.Key).bind fun p76 =>
              j2 p76 p71.2))
          else
          (if z35.Kind = 3 then
            ((m_table_Table_int_Clone y28).bind fun p82 =>
              (m_table_Table_int_Del p82 z35.Key).bind fun p87 =>
              (m_table_Table_int_Put p87.2 ([33] : List UInt8) z35.V).bind fun p91 =>
              j2 y24 y28)
            else
            (j2 y24 y28)))))
    else
    (j1 y24 y28)
def m_limnographlaw14_TablePlays (x0 : Int) (x1 : (List T_limnographlaw14_Act)) : Option Bool :=
  (m_limnographlaw14_awake ).bind fun p3 =>
  if (!p3) = true then
  (some false)
  else
  ((m_limnographlaw14_few x1).bind fun p6 =>
    if (!p6) = true then
    (some true)
    else
    ((m_table_New_int x0).bind fun p9 =>
      jn (fun (y12 : (List T_limnographref14_Thing)) (y15 : T_table_Table_int_) =>
        ((m_table_Table_int_Clone y15).bind fun p17 =>
          (m_limnographlaw14_same p17 y12 x0).bind fun p22 =>
          some p22)) fun j1 =>
      m_limnographlaw14_TablePlays_L1 x0 x1 j1 fuel ([] : List T_limnographref14_Thing) 0 p9))
def m_limnographlaw14_TableOldest_L1 (y12 : (List (List UInt8))) (j2 : T_table_Table_int_ → Option Bool) : Nat → Int → T_table_Table_int_ → Option Bool
  | 0, _, _ => none
  | n + 1, y50, y51 =>
    if y50 < (y12.length : Int) then
    ((m_table_Table_int_Oldest y51).bind fun p54 =>
      (idx y12 y50).bind fun z56 =>
      jn (fun (y61 : Bool) =>
        (jn (fun (y64 : Bool) (y65 : T_table_Table_int_) =>
            (jn (fun (y68 : Bool) (y69 : T_table_Table_int_) =>
                (if y68 = true then
                  (some false)
                  else
                  (m_limnographlaw14_TableOldest_L1 y12 j2 n (W64 (y50 + 1)) y69))) fun j8 =>
              if y64 = true then
              (j8 true y65)
              else
              ((m_table_Table_int_Del y65 p54.1).bind fun p73 =>
                j8 p73.1 p73.2))) fun j7 =>
          if y61 = true then
          (j7 true y51)
          else
          ((m_table_Table_int_Del y51 p54.1).bind fun p78 =>
            j7 (!p78.1) p78.2))) fun j6 =>
      if (p54.1 ≠ z56) ∨ ((!p54.2) = true) then
      (j6 true)
      else
      ((m_table_Table_int_Len y51).bind fun p83 =>
        j6 (decide (p83 ≠ W64 ((y12.length : Int) - y50)))))
    else
    (j2 y51)
def m_limnographlaw14_TableOldest_L3 (x0 : (List T_limnographlaw14_Act)) (y85 : (List (List UInt8))) (y88 : Int) (j9 : (List (List UInt8)) → Option Bool) : Nat → (List (List UInt8)) → Int → Option Bool
  | 0, _, _ => none
  | n + 1, y111, y114 =>
    if y114 < (y85.length : Int) then
    (jn (fun (y120 : (List (List UInt8))) =>
        (m_limnographlaw14_TableOldest_L3 x0 y85 y88 j9 n y120 (W64 (y114 + 1)))) fun j10 =>
      (idx y85 y114).bind fun z125 =>
      (idx x0 y88).bind fun z126 =>
      if z125 ≠ z126.Key then
      ((idx y85 y114).bind fun z130 =>
        (appL y111 [z130]).bind fun z131 =>
        j10 z131)
      else
      (j10 y111))
    else
    (j9 y111)
def m_limnographlaw14_TableOldest_L2 (x0 : (List T_limnographlaw14_Act)) (j1 : (List (List UInt8)) → T_table_Table_int_ → Option Bool) : Nat → (List (List UInt8)) → Int → T_table_Table_int_ → Option Bool
  | 0, _, _, _ => none
  | n + 1, y85, y88, y89 =>
    if y88 < (x0.length : Int) then
    ((idx x0 y88).bind fun z94 =>
      (m_table_Table_int_Put y89 z94.Key y88).bind fun p96 =>
      if (!p96.1) = true then
      (some false)
      else
      (jn (fun (y102 : (List (List UInt8))) =>
          ((idx x0 y88).bind fun z106 =>
            (appL y102 [z106.Key]).bind fun z108 =>
            m_limnographlaw14_TableOldest_L2 x0 j1 n z108 (W64 (y88 + 1)) p96.2)) fun j9 =>
        m_limnographlaw14_TableOldest_L3 x0 y85 y88 j9 fuel ([] : List (List UInt8)) 0))
    else
    (j1 y85 y89)
def m_limnographlaw14_TableOldest (x0 : (List T_limnographlaw14_Act)) : Option Bool :=
  (m_limnographlaw14_awake ).bind fun p3 =>
  if (!p3) = true then
  (some false)
  else
  ((m_limnographlaw14_few x0).bind fun p6 =>
    if (!p6) = true then
    (some true)
    else
    ((m_table_New_int 100).bind fun p9 =>
      jn (fun (y12 : (List (List UInt8))) (y15 : T_table_Table_int_) =>
        ((m_table_Table_int_Clone y15).bind fun p17 =>
          jn (fun (y23 : T_table_Table_int_) =>
            ((m_table_Table_int_Oldest y23).bind fun p25 =>
              jn (fun (y29 : Bool) =>
                (jn (fun (y33 : Bool) =>
                    (jn (fun (y37 : Bool) =>
                        (some y37)) fun j5 =>
                      if y33 = true then
                      ((m_table_Table_int_Keys p17).bind fun p40 =>
                        j5 (decide ((p40.length : Int) = (y12.length : Int))))
                      else
                      (j5 false))) fun j4 =>
                  if y29 = true then
                  ((m_table_Table_int_Len p17).bind fun p44 =>
                    j4 (decide (p44 = (y12.length : Int))))
                  else
                  (j4 false))) fun j3 =>
              if (!p25.2) = true then
              ((m_table_Table_int_Len y23).bind fun p47 =>
                j3 (decide (p47 = 0)))
              else
              (j3 false))) fun j2 =>
          m_limnographlaw14_TableOldest_L1 y12 j2 fuel 0 y15)) fun j1 =>
      m_limnographlaw14_TableOldest_L2 x0 j1 fuel ([] : List (List UInt8)) 0 p9))
end Go.Proofs.Ytklaeckldfooaaa
