/-
  Plain forms of functions of the program: what each computes, told over lists and numbers. Printed by a program.
-/
import Derived.Test.YtboelmiicbcjiaaWu
import Derived.Test.YtboelmiicbcjiaaDk
namespace Go.Proofs.Ytboelmiicbcjiaa
open Go Go.RowKit Go.Wk
structure T_api_File where
  Name : (List UInt8)
  Data : (List UInt8)
  deriving DecidableEq
def T_api_File.rep : Rep T_api_File := Rep.map (fun x => (x.Name, x.Data)) (Rep.two textR (Rep.sl byteR))
structure T_limnographlaw18_Act where
  Kind : Int
  A : (List UInt8)
  B : (List UInt8)
  N : Int
  Code : Int
  Keep : (List Int)
  deriving DecidableEq
def T_limnographlaw18_Act.rep : Rep T_limnographlaw18_Act := Rep.map (fun x => (x.Kind, (x.A, (x.B, (x.N, (x.Code, x.Keep)))))) (Rep.two (intR .i64) (Rep.two textR (Rep.two textR (Rep.two (intR .i64) (Rep.two (intR .i64) (Rep.sl (intR .i64)))))))
structure T_limnographref18_File where
  Name : (List UInt8)
  Data : (List UInt8)
  Sure : Int
  deriving DecidableEq
def T_limnographref18_File.rep : Rep T_limnographref18_File := Rep.map (fun x => (x.Name, (x.Data, x.Sure))) (Rep.two textR (Rep.two (Rep.sl byteR) (intR .i64)))
structure T_limnographref18_Disk where
  L : (List T_limnographref18_File)
  Capacity : Int
  Down : Bool
  Calls : Int
  Fail : Int
  Crash : Int
  Err : Int
  deriving DecidableEq
def T_limnographref18_Disk.rep : Rep T_limnographref18_Disk := Rep.map (fun x => (x.L, (x.Capacity, (x.Down, (x.Calls, (x.Fail, (x.Crash, x.Err))))))) (Rep.two (Rep.sl T_limnographref18_File.rep) (Rep.two (intR .i64) (Rep.two boolR (Rep.two (intR .i64) (Rep.two (intR .i64) (Rep.two (intR .i64) (intR .i64)))))))
def T_limnographref18_Disk.sh (b : Nat) (x : T_limnographref18_Disk) : List Rs → Prop := fun L => ∃ (A1_0 : Option Addr) (c1_0 : Nat), L = [boxR b 74 [.slice A1_0 (x.L).length c1_0, .int .i64 (x.Capacity), .bool (x.Down), .int .i64 (x.Calls), .int .i64 (x.Fail), .int .i64 (x.Crash), .int .i64 (x.Err)], ownR 78 A1_0 c1_0 T_limnographref18_File.rep x.L]
def T_limnographref18_Disk.obj (F : Nat → Prop) (b : Nat) (x : T_limnographref18_Disk) : Rs := objR F (T_limnographref18_Disk.sh b x)
def m_disk_New (x0 : (List T_api_File)) (x1 : Int) : Option (Option PD) :=
  if x0.length ≤ 1073741824 then some (newD (x0.map fun f : T_api_File => (f.Name, f.Data)) x1) else none
def m_disk_Disk_Append (x0 : PD) (x1 : (List UInt8)) (x2 : (List UInt8)) : Option (Int × PD) :=
  if x0.calls < 4611686018427387904 ∧ (x0.used ≤ x0.cap ∧ x0.cap ≤ 4194304) ∧ x2.length ≤ 1073741824 then some ((x0.append x1 x2).2, (x0.append x1 x2).1) else none
def m_disk_Disk_Crash (x0 : PD) (x1 : Int) : Option PD :=
  if x0.calls < 4611686018427387904 then some (x0.crash x1) else none
def m_disk_Disk_Sync (x0 : PD) (x1 : (List UInt8)) : Option (Int × PD) :=
  if x0.calls < 4611686018427387904 then some ((x0.sync x1).2, (x0.sync x1).1) else none
def m_disk_Disk_Down (x0 : PD) : Option Bool :=
  some x0.down
def m_disk_Disk_Boot (x0 : PD) (x1 : (List Int)) : Option (Int × PD) :=
  if ((∀ k ∈ x0.files.map (·.1), k.length ≤ 1000000) ∧ x0.files.length ≤ 1000000) ∧ (∀ p ∈ x0.files, p.2.sure ≤ p.2.data.length) ∧ x1.length ≤ 9223372036854775807 then some ((x0.boot x1).2, (x0.boot x1).1) else none
def m_disk_Disk_Read (x0 : PD) (x1 : (List UInt8)) : Option ((List UInt8) × Int) :=
  if x0.used ≤ x0.cap ∧ x0.cap ≤ 4194304 then some (if x0.down = true then (([] : List UInt8), (13 : Int)) else match findF x1 x0.files with | none => ([], 7) | some f => (f.data, 0)) else none
def m_limnographlaw18_awake  : Option Bool :=
  (m_disk_New ([({ Name := ([97] : List UInt8), Data := [] } : T_api_File)] : List T_api_File) 10).bind fun p4 =>
  jn (fun (y7 : Bool) (y8 : (Option PD)) =>
    (if y7 = true then
      (some false)
      else
      ((y8).bind fun z12 =>
        (m_disk_Disk_Crash z12 0).bind fun p11 =>
        (m_disk_Disk_Sync p11 ([97] : List UInt8)).bind fun p17 =>
        jn (fun (y22 : Bool) =>
          (jn (fun (y24 : Bool) (y25 : PD) =>
              (if y24 = true then
                (some false)
                else
                ((m_disk_Disk_Read y25 ([97] : List UInt8)).bind fun p28 =>
                  jn (fun (y33 : Bool) =>
                    (some y33)) fun j4 =>
                  if (p28.1 = ([97, 98] : List UInt8)) ∧ (p28.2 = 0) then
                  ((mkL 9 ((0 : UInt8) : UInt8)).bind fun z36 =>
                    (m_disk_Disk_Append y25 ([97] : List UInt8) z36).bind fun p38 =>
                    j4 (decide (p38.1 = 12)))
                  else
                  (j4 false)))) fun j3 =>
            if y22 = true then
            (j3 true p17.2)
            else
            ((m_disk_Disk_Boot p17.2 ([2] : List Int)).bind fun p50 =>
              j3 (decide (p50.1 ≠ 0)) p50.2))) fun j2 =>
        if p17.1 ≠ 13 then
        (j2 true)
        else
        ((m_disk_Disk_Down p17.2).bind fun p59 =>
          j2 (!p59))))) fun j1 =>
  if ((p4).isNone) = true then
  (j1 true p4)
  else
  ((p4).bind fun z68 =>
    (m_disk_Disk_Append z68 ([97] : List UInt8) ([(97 : UInt8), (98 : UInt8), (99 : UInt8)] : List UInt8)).bind fun p67 =>
    j1 (decide (p67.1 ≠ 0)) (some p67.2))
def m_limnographref18_Bulk_L1 (x0 : (List T_api_File)) (x1 : Int) (j1 : Int → Option Int) : Nat → Int → Int → Option Int
  | 0, _, _ => none
  | n + 1, y5, y6 =>
    if (y6 < (x0.length : Int)) ∧ (y5 ≤ x1) then
    ((idx x0 y6).bind fun z11 =>
      m_limnographref18_Bulk_L1 x0 x1 j1 n (W64 ((W64 (y5 + 1)) + (min (z11.Data.length : Int) (W64 (x1 + 1))))) (W64 (y6 + 1)))
    else
    (j1 y5)
def m_limnographref18_Bulk (x0 : (List T_api_File)) (x1 : Int) : Option Int :=
  jn (fun (y3 : Int) =>
    (some y3)) fun j1 =>
  m_limnographref18_Bulk_L1 x0 x1 j1 fuel 0 0
def m_limnographlaw18_few_L1 (x0 : (List T_limnographlaw18_Act)) (j1 : Unit → Option Bool) : Nat → Int → Option Bool
  | 0, _ => none
  | n + 1, y5 =>
    if y5 < (x0.length : Int) then
    ((idx x0 y5).bind fun z8 =>
      jn (fun (y13 : Bool) =>
        (jn (fun (y15 : Bool) =>
            (if y15 = true then
              (some false)
              else
              (m_limnographlaw18_few_L1 x0 j1 n (W64 (y5 + 1))))) fun j3 =>
          if y13 = true then
          (j3 true)
          else
          ((idx x0 y5).bind fun z19 =>
            j3 (decide ((z19.Keep.length : Int) > 100))))) fun j2 =>
      if (z8.A.length : Int) > 100 then
      (j2 true)
      else
      ((idx x0 y5).bind fun z25 =>
        j2 (decide ((z25.B.length : Int) > 100))))
    else
    (j1 ())
def m_limnographlaw18_few (x0 : (List T_limnographlaw18_Act)) : Option Bool :=
  if (x0.length : Int) > 60 then
  (some false)
  else
  (jn (fun (_ : Unit) =>
      (some true)) fun j1 =>
    m_limnographlaw18_few_L1 x0 j1 fuel 0)
def m_limnographref18_Name_L1 (x0 : (List UInt8)) (j1 : Unit → Option Bool) : Nat → Int → Option Bool
  | 0, _ => none
  | n + 1, y5 =>
    if y5 < (x0.length : Int) then
    ((idx x0 y5).bind fun z8 =>
      if (((¬ ((((z8).toNat : Int) ≥ 97) ∧ (((z8).toNat : Int) ≤ 122))) ∧ (¬ ((((z8).toNat : Int) ≥ 48) ∧ (((z8).toNat : Int) ≤ 57)))) ∧ (((z8).toNat : Int) ≠ 46)) ∧ (((z8).toNat : Int) ≠ 45) then
      (some false)
      else
      (m_limnographref18_Name_L1 x0 j1 n (W64 (y5 + 1))))
    else
    (j1 ())
def m_limnographref18_Name (x0 : (List UInt8)) : Option Bool :=
  if ((x0.length : Int) < 1) ∨ ((x0.length : Int) > 32) then
  (some false)
  else
  (jn (fun (_ : Unit) =>
      (some true)) fun j1 =>
    m_limnographref18_Name_L1 x0 j1 fuel 0)
def m_limnographref18_Disk_Find_L1 (x0 : T_limnographref18_Disk) (x1 : (List UInt8)) (j1 : Unit → Option Int) : Nat → Int → Option Int
  | 0, _ => none
  | n + 1, y4 =>
    if y4 < (x0.L.length : Int) then
    ((idx x0.L y4).bind fun z12 =>
      if z12.Name = x1 then
      (some y4)
      else
      (m_limnographref18_Disk_Find_L1 x0 x1 j1 n (W64 (y4 + 1))))
    else
    (j1 ())
def m_limnographref18_Disk_Find (x0 : T_limnographref18_Disk) (x1 : (List UInt8)) : Option Int :=
  jn (fun (_ : Unit) =>
    (some (-1))) fun j1 =>
  m_limnographref18_Disk_Find_L1 x0 x1 j1 fuel 0
def m_limnographref18_Disk_Used_L1 (x0 : T_limnographref18_Disk) (j1 : Int → Option Int) : Nat → Int → Int → Option Int
  | 0, _, _ => none
  | n + 1, y5, y6 =>
    if y6 < (x0.L.length : Int) then
    ((idx x0.L y6).bind fun z14 =>
      m_limnographref18_Disk_Used_L1 x0 j1 n (W64 (y5 + (z14.Data.length : Int))) (W64 (y6 + 1)))
    else
    (j1 y5)
def m_limnographref18_Disk_Used (x0 : T_limnographref18_Disk) : Option Int :=
  jn (fun (y3 : Int) =>
    (some y3)) fun j1 =>
  m_limnographref18_Disk_Used_L1 x0 j1 fuel 0 0
def m_limnographref18_Disk_without_L1 (x0 : T_limnographref18_Disk) (x1 : (List UInt8)) (j1 : (List T_limnographref18_File) → Option (List T_limnographref18_File)) : Nat → (List T_limnographref18_File) → Int → Option (List T_limnographref18_File)
  | 0, _, _ => none
  | n + 1, y8, y11 =>
    if y11 < (x0.L.length : Int) then
    (jn (fun (y21 : (List T_limnographref18_File)) =>
        (m_limnographref18_Disk_without_L1 x0 x1 j1 n y21 (W64 (y11 + 1)))) fun j2 =>
      (idx x0.L y11).bind fun z27 =>
      if z27.Name ≠ x1 then
      ((idx x0.L y11).bind fun z32 =>
        (appL y8 [z32]).bind fun z36 =>
        j2 z36)
      else
      (j2 y8))
    else
    (j1 y8)
def m_limnographref18_Disk_without (x0 : T_limnographref18_Disk) (x1 : (List UInt8)) : Option (List T_limnographref18_File) :=
  jn (fun (y3 : (List T_limnographref18_File)) =>
    (some y3)) fun j1 =>
  m_limnographref18_Disk_without_L1 x0 x1 j1 fuel ([] : List T_limnographref18_File) 0
def m_limnographref18_Disk_put_L1 (x1 : T_limnographref18_File) (p9 : (List T_limnographref18_File)) (j1 : Int → Option T_limnographref18_Disk) : Nat → Int → Option T_limnographref18_Disk
  | 0, _ => none
  | n + 1, y38 =>
    jn (fun (y41 : Bool) =>
      (if y41 = true then
        (m_limnographref18_Disk_put_L1 x1 p9 j1 n (W64 (y38 - 1)))
        else
        (j1 y38))) fun j2 =>
    if y38 > 0 then
    ((idx p9 (W64 (y38 - 1))).bind fun z46 =>
      j2 (Op.bytesLess x1.Name z46.Name))
    else
    (j2 false)
def m_limnographref18_Disk_put (x0 : T_limnographref18_Disk) (x1 : T_limnographref18_File) : Option T_limnographref18_Disk :=
  (m_limnographref18_Disk_without x0 x1.Name).bind fun p9 =>
  jn (fun (y15 : Int) =>
    ((cutL p9 0 y15).bind fun z17 =>
      (appL ([] : List T_limnographref18_File) z17).bind fun z21 =>
      (appL z21 [({ Name := x1.Name, Data := x1.Data, Sure := x1.Sure } : T_limnographref18_File)]).bind fun z25 =>
      (cutL p9 y15 ((p9).length)).bind fun z27 =>
      (appL z25 z27).bind fun z29 =>
      some ({ L := z29, Capacity := x0.Capacity, Down := x0.Down, Calls := x0.Calls, Fail := x0.Fail, Crash := x0.Crash, Err := x0.Err } : T_limnographref18_Disk))) fun j1 =>
  m_limnographref18_Disk_put_L1 x1 p9 j1 fuel (p9.length : Int)
def m_limnographref18_New_L1 (x0 : (List T_api_File)) (x1 : Int) (j1 : T_limnographref18_Disk → Option (Option T_limnographref18_Disk)) : Nat → Int → T_limnographref18_Disk → Option (Option T_limnographref18_Disk)
  | 0, _, _ => none
  | n + 1, y22, y23 =>
    if y22 < (x0.length : Int) then
    ((idx x0 y22).bind fun z26 =>
      jn (fun (y35 : Bool) =>
        (if y35 = true then
          (some (none : Option T_limnographref18_Disk))
          else
          ((m_limnographref18_Disk_put y23 ({ Name := z26.Name, Data := z26.Data, Sure := (z26.Data.length : Int) } : T_limnographref18_File)).bind fun p41 =>
            m_limnographref18_New_L1 x0 x1 j1 n (W64 (y22 + 1)) p41))) fun j2 =>
      (m_limnographref18_Name z26.Name).bind fun p48 =>
      if (!p48) = true then
      (j2 true)
      else
      ((m_limnographref18_Disk_Find y23 z26.Name).bind fun p51 =>
        if p51 ≥ 0 then
        (j2 true)
        else
        ((m_limnographref18_Disk_Used y23).bind fun p54 =>
          j2 (decide ((z26.Data.length : Int) > W64 (x1 - p54))))))
    else
    (j1 y23)
def m_limnographref18_New (x0 : (List T_api_File)) (x1 : Int) : Option (Option T_limnographref18_Disk) :=
  if ((x1 < 1) ∨ (x1 > 4194304)) ∨ ((x0.length : Int) > 4096) then
  (some (none : Option T_limnographref18_Disk))
  else
  (jn (fun (y18 : T_limnographref18_Disk) =>
      (some (some y18))) fun j1 =>
    m_limnographref18_New_L1 x0 x1 j1 fuel 0 ({ L := ([] : List T_limnographref18_File), Capacity := x1, Down := false, Calls := 0, Fail := (-1), Crash := (-1), Err := 0 } : T_limnographref18_Disk))
def m_disk_Disk_Calls (x0 : PD) : Option Int :=
  some (x0.calls : Int)
def m_disk_Disk_Names (x0 : PD) : Option (List (List UInt8)) :=
  if (∀ k ∈ x0.files.map (·.1), k.length ≤ 1000000) ∧ x0.files.length ≤ 1000000 then some x0.names else none
def m_disk_Disk_Size (x0 : PD) (x1 : (List UInt8)) : Option (Int × Int × Int) :=
  some (if x0.down = true then ((0 : Int), (0 : Int), (13 : Int)) else match findF x1 x0.files with | none => (0, 0, 7) | some f => (f.data.length, f.sure, 0))
def m_disk_Disk_Used (x0 : PD) : Option Int :=
  if x0.used ≤ x0.cap ∧ x0.cap ≤ 4194304 then some ((if x0.down = true then 0 else x0.used : Nat) : Int) else none
def m_limnographlaw18_same_L2 (p45 : ((List UInt8) × Int)) (j6 : Unit → Option Bool) : Nat → (List UInt8) → Int → Option Bool
  | 0, _, _ => none
  | n + 1, y63, y64 =>
    if y64 < ((p45.1).length : Int) then
    ((idx y63 y64).bind fun z67 =>
      (idx y63 y64).bind fun z68 =>
      m_limnographlaw18_same_L2 p45 j6 n (setI y63 y64 (z67 + (1 : UInt8))) (W64 (y64 + 1)))
    else
    (j6 ())
def m_limnographlaw18_same_L1 (x0 : PD) (x1 : T_limnographref18_Disk) (p8 : (List (List UInt8))) (j4 : Unit → Option Bool) : Nat → Int → Option Bool
  | 0, _ => none
  | n + 1, y41 =>
    if y41 < (p8.length : Int) then
    ((idx p8 y41).bind fun z44 =>
      (m_disk_Disk_Read x0 z44).bind fun p45 =>
      (idx p8 y41).bind fun z48 =>
      (m_disk_Disk_Size x0 z48).bind fun p49 =>
      (idx x1.L y41).bind fun z51 =>
      jn (fun (y59 : Bool) =>
        (if y59 = true then
          (some false)
          else
          (jn (fun (_ : Unit) =>
              (m_limnographlaw18_same_L1 x0 x1 p8 j4 n (W64 (y41 + 1)))) fun j6 =>
            m_limnographlaw18_same_L2 p45 j6 fuel p45.1 0))) fun j5 =>
      (idx p8 y41).bind fun z71 =>
      if z71 ≠ z51.Name then
      (j5 true)
      else
      (if p45.2 ≠ 0 then
        (j5 true)
        else
        (if p49.2.2 ≠ 0 then
          (j5 true)
          else
          (if p45.1 ≠ z51.Data then
            (j5 true)
            else
            (if p49.1 ≠ (z51.Data.length : Int) then
              (j5 true)
              else
              (j5 (decide (p49.2.1 ≠ z51.Sure))))))))
    else
    (j4 ())
def m_limnographlaw18_same (x0 : PD) (x1 : T_limnographref18_Disk) : Option Bool :=
  jn (fun (y5 : Bool) =>
    (if y5 = true then
      (some false)
      else
      ((m_disk_Disk_Names x0).bind fun p8 =>
        if x1.Down = true then
        ((m_disk_Disk_Read x0 ([97] : List UInt8)).bind fun p17 =>
          (m_disk_Disk_Size x0 ([97] : List UInt8)).bind fun p20 =>
          jn (fun (y22 : Bool) =>
            (some (decide ((((((y22 = true) ∧ ((p17.1.length : Int) = 0)) ∧ (p17.2 = 13)) ∧ (p20.1 = 0)) ∧ (p20.2.1 = 0)) ∧ (p20.2.2 = 13))))) fun j2 =>
          if (p8.length : Int) = 0 then
          ((m_disk_Disk_Used x0).bind fun p35 =>
            j2 (decide (p35 = 0)))
          else
          (j2 false))
        else
        (jn (fun (y37 : Bool) =>
            (if y37 = true then
              (some false)
              else
              (jn (fun (_ : Unit) =>
                  (some true)) fun j4 =>
                m_limnographlaw18_same_L1 x0 x1 p8 j4 fuel 0))) fun j3 =>
          if (p8.length : Int) ≠ (x1.L.length : Int) then
          (j3 true)
          else
          ((m_disk_Disk_Used x0).bind fun p78 =>
            (m_limnographref18_Disk_Used x1).bind fun p80 =>
            j3 (decide (p78 ≠ p80))))))) fun j1 =>
  (m_disk_Disk_Down x0).bind fun p88 =>
  if p88 ≠ x1.Down then
  (j1 true)
  else
  ((m_disk_Disk_Calls x0).bind fun p91 =>
    j1 (decide (p91 ≠ x1.Calls)))
def m_disk_Disk_Fail (x0 : PD) (x1 : Int) (x2 : Int) : Option PD :=
  if x0.calls < 4611686018427387904 then some (x0.fail x1 x2) else none
def m_limnographref18_Arm (x0 : Int) (x1 : Int) : Option Int :=
  if (x0 < 0) ∨ (x1 = 0) then
  (some (-1))
  else
  (some x0)
def m_disk_Disk_Create (x0 : PD) (x1 : (List UInt8)) : Option (Int × PD) :=
  if x0.calls < 4611686018427387904 then some ((x0.create x1).2, (x0.create x1).1) else none
def m_limnographref18_Disk_begin (x0 : T_limnographref18_Disk) : Option (Int × T_limnographref18_Disk) :=
  if x0.Down = true then
  (some (13, x0))
  else
  (jn (fun (y12 : T_limnographref18_Disk) =>
      (jn (fun (y18 : T_limnographref18_Disk) =>
          (if x0.Crash = 0 then
            (some (13, ({ L := y18.L, Capacity := y18.Capacity, Down := true, Calls := y18.Calls, Fail := y18.Fail, Crash := y18.Crash, Err := y18.Err } : T_limnographref18_Disk)))
            else
            (if x0.Fail = 0 then
              (some (y18.Err, y18))
              else
              (some (0, y18))))) fun j2 =>
        if y12.Fail ≥ 0 then
        (j2 ({ L := y12.L, Capacity := y12.Capacity, Down := y12.Down, Calls := y12.Calls, Fail := W64 (y12.Fail - 1), Crash := y12.Crash, Err := y12.Err } : T_limnographref18_Disk))
        else
        (j2 y12))) fun j1 =>
    if x0.Crash ≥ 0 then
    (j1 ({ L := ({ L := x0.L, Capacity := x0.Capacity, Down := x0.Down, Calls := W64 (x0.Calls + 1), Fail := x0.Fail, Crash := x0.Crash, Err := x0.Err } : T_limnographref18_Disk).L, Capacity := ({ L := x0.L, Capacity := x0.Capacity, Down := x0.Down, Calls := W64 (x0.Calls + 1), Fail := x0.Fail, Crash := x0.Crash, Err := x0.Err } : T_limnographref18_Disk).Capacity, Down := ({ L := x0.L, Capacity := x0.Capacity, Down := x0.Down, Calls := W64 (x0.Calls + 1), Fail := x0.Fail, Crash := x0.Crash, Err := x0.Err } : T_limnographref18_Disk).Down, Calls := ({ L := x0.L, Capacity := x0.Capacity, Down := x0.Down, Calls := W64 (x0.Calls + 1), Fail := x0.Fail, Crash := x0.Crash, Err := x0.Err } : T_limnographref18_Disk).Calls, Fail := ({ L := x0.L, Capacity := x0.Capacity, Down := x0.Down, Calls := W64 (x0.Calls + 1), Fail := x0.Fail, Crash := x0.Crash, Err := x0.Err } : T_limnographref18_Disk).Fail, Crash := W64 ((({ L := x0.L, Capacity := x0.Capacity, Down := x0.Down, Calls := W64 (x0.Calls + 1), Fail := x0.Fail, Crash := x0.Crash, Err := x0.Err } : T_limnographref18_Disk).Crash) - 1), Err := ({ L := x0.L, Capacity := x0.Capacity, Down := x0.Down, Calls := W64 (x0.Calls + 1), Fail := x0.Fail, Crash := x0.Crash, Err := x0.Err } : T_limnographref18_Disk).Err } : T_limnographref18_Disk))
    else
    (j1 ({ L := x0.L, Capacity := x0.Capacity, Down := x0.Down, Calls := W64 (x0.Calls + 1), Fail := x0.Fail, Crash := x0.Crash, Err := x0.Err } : T_limnographref18_Disk)))
def m_limnographref18_Disk_Create (x0 : T_limnographref18_Disk) (x1 : (List UInt8)) : Option (Int × T_limnographref18_Disk) :=
  (m_limnographref18_Disk_begin x0).bind fun p2 =>
  if p2.1 ≠ 0 then
  (some (p2.1, p2.2))
  else
  ((m_limnographref18_Name x1).bind fun p7 =>
    if (!p7) = true then
    (some (3, p2.2))
    else
    ((m_limnographref18_Disk_Find p2.2 x1).bind fun p10 =>
      if p10 ≥ 0 then
      (some (8, p2.2))
      else
      (if (p2.2.L.length : Int) = 4096 then
        (some (6, p2.2))
        else
        ((m_limnographref18_Disk_put p2.2 ({ Name := x1, Data := [], Sure := 0 } : T_limnographref18_File)).bind fun p18 =>
          some (0, p18)))))
def m_limnographref18_Disk_Append (x0 : T_limnographref18_Disk) (x1 : (List UInt8)) (x2 : (List UInt8)) : Option (Int × T_limnographref18_Disk) :=
  (m_limnographref18_Disk_begin x0).bind fun p3 =>
  if p3.1 ≠ 0 then
  (some (p3.1, p3.2))
  else
  ((m_limnographref18_Disk_Find p3.2 x1).bind fun p8 =>
    if p8 < 0 then
    (some (7, p3.2))
    else
    ((m_limnographref18_Disk_Used p3.2).bind fun p14 =>
      if (x2.length : Int) > W64 (p3.2.Capacity - p14) then
      (some (12, p3.2))
      else
      ((idx p3.2.L p8).bind fun z21 =>
        (catS z21.Data x2).bind fun z28 =>
        (lenS z28).bind fun z29 =>
        (m_limnographref18_Disk_put p3.2 ({ Name := x1, Data := z29, Sure := z21.Sure } : T_limnographref18_File)).bind fun p31 =>
        some (0, p31))))
def m_limnographref18_Disk_Sync (x0 : T_limnographref18_Disk) (x1 : (List UInt8)) : Option (Int × T_limnographref18_Disk) :=
  (m_limnographref18_Disk_begin x0).bind fun p2 =>
  if p2.1 ≠ 0 then
  (some (p2.1, p2.2))
  else
  ((m_limnographref18_Disk_Find p2.2 x1).bind fun p7 =>
    if p7 < 0 then
    (some (7, p2.2))
    else
    ((idx p2.2.L p7).bind fun z12 =>
      (m_limnographref18_Disk_put p2.2 ({ Name := x1, Data := z12.Data, Sure := (z12.Data.length : Int) } : T_limnographref18_File)).bind fun p19 =>
      some (0, p19)))
def m_disk_Disk_Cut (x0 : PD) (x1 : (List UInt8)) (x2 : Int) : Option (Int × PD) :=
  if x0.calls < 4611686018427387904 then some ((x0.cut x1 x2).2, (x0.cut x1 x2).1) else none
def m_limnographref18_Disk_Cut (x0 : T_limnographref18_Disk) (x1 : (List UInt8)) (x2 : Int) : Option (Int × T_limnographref18_Disk) :=
  (m_limnographref18_Disk_begin x0).bind fun p2 =>
  if p2.1 ≠ 0 then
  (some (p2.1, p2.2))
  else
  ((m_limnographref18_Disk_Find p2.2 x1).bind fun p7 =>
    if p7 < 0 then
    (some (7, p2.2))
    else
    ((idx p2.2.L p7).bind fun z12 =>
      if (x2 < 0) ∨ (x2 > (z12.Data.length : Int)) then
      (some (1, p2.2))
      else
      ((cutL z12.Data 0 x2).bind fun z25 =>
        (lenS z25).bind fun z27 =>
        (m_limnographref18_Disk_put p2.2 ({ Name := x1, Data := z27, Sure := min z12.Sure x2 } : T_limnographref18_File)).bind fun p29 =>
        some (0, p29))))
def m_disk_Disk_Rename (x0 : PD) (x1 : (List UInt8)) (x2 : (List UInt8)) : Option (Int × PD) :=
  if x0.calls < 4611686018427387904 then some ((x0.rename x1 x2).2, (x0.rename x1 x2).1) else none
def m_limnographref18_Disk_Rename (x0 : T_limnographref18_Disk) (x1 : (List UInt8)) (x2 : (List UInt8)) : Option (Int × T_limnographref18_Disk) :=
  (m_limnographref18_Disk_begin x0).bind fun p2 =>
  if p2.1 ≠ 0 then
  (some (p2.1, p2.2))
  else
  ((m_limnographref18_Name x2).bind fun p7 =>
    if (!p7) = true then
    (some (3, p2.2))
    else
    ((m_limnographref18_Disk_Find p2.2 x1).bind fun p10 =>
      if p10 < 0 then
      (some (7, p2.2))
      else
      ((idx p2.2.L p10).bind fun z15 =>
        (m_limnographref18_Disk_without p2.2 x1).bind fun p22 =>
        (m_limnographref18_Disk_put ({ L := p22, Capacity := p2.2.Capacity, Down := p2.2.Down, Calls := p2.2.Calls, Fail := p2.2.Fail, Crash := p2.2.Crash, Err := p2.2.Err } : T_limnographref18_Disk) ({ Name := x2, Data := z15.Data, Sure := z15.Sure } : T_limnographref18_File)).bind fun p33 =>
        some (0, p33))))
def m_disk_Disk_Remove (x0 : PD) (x1 : (List UInt8)) : Option (Int × PD) :=
  if x0.calls < 4611686018427387904 then some ((x0.remove x1).2, (x0.remove x1).1) else none
def m_limnographref18_Disk_Remove (x0 : T_limnographref18_Disk) (x1 : (List UInt8)) : Option (Int × T_limnographref18_Disk) :=
  (m_limnographref18_Disk_begin x0).bind fun p2 =>
  if p2.1 ≠ 0 then
  (some (p2.1, p2.2))
  else
  ((m_limnographref18_Disk_Find p2.2 x1).bind fun p7 =>
    if p7 < 0 then
    (some (7, p2.2))
    else
    ((m_limnographref18_Disk_without p2.2 x1).bind fun p10 =>
      some (0, ({ L := p10, Capacity := p2.2.Capacity, Down := p2.2.Down, Calls := p2.2.Calls, Fail := p2.2.Fail, Crash := p2.2.Crash, Err := p2.2.Err } : T_limnographref18_Disk))))
def m_limnographref18_Disk_Boot_L1 (x0 : T_limnographref18_Disk) (x1 : (List Int)) (j1 : (List T_limnographref18_File) → Option (Int × T_limnographref18_Disk)) : Nat → (List T_limnographref18_File) → Int → Option (Int × T_limnographref18_Disk)
  | 0, _, _ => none
  | n + 1, y28, y31 =>
    if y31 < ((({ L := x0.L, Capacity := x0.Capacity, Down := false, Calls := x0.Calls, Fail := (-1), Crash := (-1), Err := x0.Err } : T_limnographref18_Disk).L).length : Int) then
    ((idx (({ L := x0.L, Capacity := x0.Capacity, Down := false, Calls := x0.Calls, Fail := (-1), Crash := (-1), Err := x0.Err } : T_limnographref18_Disk).L) y31).bind fun z38 =>
      jn (fun (y48 : Bool) =>
        (jn (fun (y51 : Int) =>
            ((cutL z38.Data 0 y51).bind fun z54 =>
              (appL y28 ([({ Name := z38.Name, Data := z54, Sure := y51 } : T_limnographref18_File)] : List T_limnographref18_File)).bind fun z59 =>
              m_limnographref18_Disk_Boot_L1 x0 x1 j1 n z59 (W64 (y31 + 1)))) fun j3 =>
          if y48 = true then
          ((idx x1 y31).bind fun z63 =>
            if z63 > W64 ((z38.Data.length : Int) - z38.Sure) then
            (j3 (z38.Data.length : Int))
            else
            ((idx x1 y31).bind fun z67 =>
              j3 (W64 (z38.Sure + z67))))
          else
          (j3 z38.Sure))) fun j2 =>
      if y31 < (x1.length : Int) then
      ((idx x1 y31).bind fun z70 =>
        j2 (decide (z70 > 0)))
      else
      (j2 false))
    else
    (j1 y28)
def m_limnographref18_Disk_Boot (x0 : T_limnographref18_Disk) (x1 : (List Int)) : Option (Int × T_limnographref18_Disk) :=
  if (!x0.Down) = true then
  (some (16, x0))
  else
  (jn (fun (y17 : (List T_limnographref18_File)) =>
      (some (0, ({ L := y17, Capacity := ({ L := x0.L, Capacity := x0.Capacity, Down := false, Calls := x0.Calls, Fail := (-1), Crash := (-1), Err := x0.Err } : T_limnographref18_Disk).Capacity, Down := ({ L := x0.L, Capacity := x0.Capacity, Down := false, Calls := x0.Calls, Fail := (-1), Crash := (-1), Err := x0.Err } : T_limnographref18_Disk).Down, Calls := ({ L := x0.L, Capacity := x0.Capacity, Down := false, Calls := x0.Calls, Fail := (-1), Crash := (-1), Err := x0.Err } : T_limnographref18_Disk).Calls, Fail := ({ L := x0.L, Capacity := x0.Capacity, Down := false, Calls := x0.Calls, Fail := (-1), Crash := (-1), Err := x0.Err } : T_limnographref18_Disk).Fail, Crash := ({ L := x0.L, Capacity := x0.Capacity, Down := false, Calls := x0.Calls, Fail := (-1), Crash := (-1), Err := x0.Err } : T_limnographref18_Disk).Crash, Err := ({ L := x0.L, Capacity := x0.Capacity, Down := false, Calls := x0.Calls, Fail := (-1), Crash := (-1), Err := x0.Err } : T_limnographref18_Disk).Err } : T_limnographref18_Disk)))) fun j1 =>
    m_limnographref18_Disk_Boot_L1 x0 x1 j1 fuel ([] : List T_limnographref18_File) 0)
def m_limnographlaw18_do (x0 : PD) (x1 : T_limnographref18_Disk) (x2 : T_limnographlaw18_Act) : Option (Bool × PD × T_limnographref18_Disk) :=
  jn (fun (y10 : PD) (y11 : T_limnographref18_Disk) =>
    (some (true, y10, y11))) fun j1 =>
  if x2.Kind = 0 then
  ((m_disk_Disk_Create x0 x2.A).bind fun p21 =>
    (m_limnographref18_Disk_Create x1 x2.A).bind fun p25 =>
    some (decide (p21.1 = p25.1), p21.2, p25.2))
  else
  (if x2.Kind = 1 then
    ((lenS x2.B).bind fun z39 =>
      (m_disk_Disk_Append x0 x2.A z39).bind fun p41 =>
      (lenS x2.B).bind fun z47 =>
      (m_limnographref18_Disk_Append x1 x2.A z47).bind fun p49 =>
      some (decide (p41.1 = p49.1), p41.2, p49.2))
    else
    (if x2.Kind = 2 then
      ((m_disk_Disk_Sync x0 x2.A).bind fun p117 =>
        (m_limnographref18_Disk_Sync x1 x2.A).bind fun p121 =>
        some (decide (p117.1 = p121.1), p117.2, p121.2))
      else
      (if x2.Kind = 3 then
        ((m_disk_Disk_Cut x0 x2.A x2.N).bind fun p135 =>
          (m_limnographref18_Disk_Cut x1 x2.A x2.N).bind fun p139 =>
          some (decide (p135.1 = p139.1), p135.2, p139.2))
        else
        (if x2.Kind = 4 then
          ((m_disk_Disk_Rename x0 x2.A x2.B).bind fun p153 =>
            (m_limnographref18_Disk_Rename x1 x2.A x2.B).bind fun p157 =>
            some (decide (p153.1 = p157.1), p153.2, p157.2))
          else
          (if x2.Kind = 5 then
            ((m_disk_Disk_Remove x0 x2.A).bind fun p171 =>
              (m_limnographref18_Disk_Remove x1 x2.A).bind fun p175 =>
              some (decide (p171.1 = p175.1), p171.2, p175.2))
            else
            (if x2.Kind = 6 then
              ((m_disk_Disk_Fail x0 x2.N x2.Code).bind fun p182 =>
                (m_limnographref18_Arm x2.N x2.Code).bind fun p186 =>
                j1 p182 ({ L := x1.L, Capacity := x1.Capacity, Down := x1.Down, Calls := x1.Calls, Fail := p186, Crash := x1.Crash, Err := x2.Code } : T_limnographref18_Disk))
              else
              (if x2.Kind = 7 then
                ((m_disk_Disk_Crash x0 x2.N).bind fun p197 =>
                  (m_limnographref18_Arm x2.N 13).bind fun p201 =>
                  j1 p197 ({ L := x1.L, Capacity := x1.Capacity, Down := x1.Down, Calls := x1.Calls, Fail := x1.Fail, Crash := p201, Err := x1.Err } : T_limnographref18_Disk))
                else
                (if x2.Kind = 8 then
                  ((m_disk_Disk_Boot x0 x2.Keep).bind fun p217 =>
                    (m_limnographref18_Disk_Boot x1 x2.Keep).bind fun p223 =>
                    some (decide (p217.1 = p223.1), p217.2, p223.2))
                  else
                  (j1 x0 x1)))))))))
def m_limnographlaw18_DiskPlays_L1 (x1 : Int) (x2 : (List T_limnographlaw18_Act)) (j4 : Unit → Option Bool) : Nat → Int → PD → T_limnographref18_Disk → Option Bool
  | 0, _, _, _ => none
  | n + 1, y35, y36, y37 =>
    if y35 < (x2.length : Int) then
    ((idx x2 y35).bind fun z40 =>
      (m_limnographlaw18_do y36 y37 z40).bind fun p45 =>
      jn (fun (y54 : Bool) =>
        (jn (fun (y58 : Bool) =>
            (if y58 = true then
              (some false)
              else
              (m_limnographlaw18_DiskPlays_L1 x1 x2 j4 n (W64 (y35 + 1)) p45.2.1 p45.2.2))) fun j6 =>
          if y54 = true then
          (j6 true)
          else
          ((m_disk_Disk_Used p45.2.1).bind fun p62 =>
            j6 (decide (p62 > x1))))) fun j5 =>
      if (!p45.1) = true then
      (j5 true)
      else
      ((m_limnographlaw18_same p45.2.1 p45.2.2).bind fun p65 =>
        j5 (!p65)))
    else
    (j4 ())
def m_limnographlaw18_DiskPlays (x0 : (List T_api_File)) (x1 : Int) (x2 : (List T_limnographlaw18_Act)) : Option Bool :=
  (m_limnographlaw18_awake ).bind fun p5 =>
  if (!p5) = true then
  (some false)
  else
  ((m_limnographref18_Bulk x0 3000).bind fun p8 =>
    jn (fun (y12 : Bool) =>
      (if y12 = true then
        (some true)
        else
        ((m_disk_New x0 x1).bind fun p15 =>
          (m_limnographref18_New x0 x1).bind fun p18 =>
          jn (fun (y21 : Bool) =>
            (if y21 = true then
              (jn (fun (y24 : Bool) =>
                  (some y24)) fun j3 =>
                if ((p15).isNone) = true then
                (j3 ((p18).isNone))
                else
                (j3 false))
              else
              ((p15).bind fun z28 =>
                (p18).bind fun z30 =>
                (m_limnographlaw18_same z28 z30).bind fun p27 =>
                if (!p27) = true then
                (some false)
                else
                (jn (fun (_ : Unit) =>
                    (some true)) fun j4 =>
                  m_limnographlaw18_DiskPlays_L1 x1 x2 j4 fuel 0 z28 z30)))) fun j2 =>
          if ((p15).isNone) = true then
          (j2 true)
          else
          (j2 ((p18).isNone))))) fun j1 =>
    if (p8 > 3000) ∨ ((x0.length : Int) > 30) then
    (j1 true)
    else
    ((m_limnographlaw18_few x2).bind fun p69 =>
      j1 (!p69)))
def m_limnographlaw18_DiskSure_L1 (x2 : (List T_limnographlaw18_Act)) (j6 : (Option PD) → Option Bool) : Nat → Int → (Option PD) → (Option T_limnographref18_Disk) → Option Bool
  | 0, _, _, _ => none
  | n + 1, y80, y81, y82 =>
    if y80 < (x2.length : Int) then
    (jn (fun (y85 : (Option PD)) (y86 : (Option T_limnographref18_Disk)) =>
        (m_limnographlaw18_DiskSure_L1 x2 j6 n (W64 (y80 + 1)) y85 y86)) fun j8 =>
      (idx x2 y80).bind fun z88 =>
      if ((z88.A ≠ ([115] : List UInt8)) ∧ (z88.B ≠ ([115] : List UInt8))) ∧ (z88.Kind ≠ 8) then
      ((y81).bind fun z102 =>
        (y82).bind fun z104 =>
        (m_limnographlaw18_do z102 z104 ({ Kind := z88.Kind, A := z88.A, B := z88.B, N := z88.N, Code := z88.Code, Keep := z88.Keep } : T_limnographlaw18_Act)).bind fun p101 =>
        j8 (some p101.2.1) (some p101.2.2))
      else
      (j8 y81 y82))
    else
    (j6 y81)
def m_limnographlaw18_DiskSure (x0 : (List UInt8)) (x1 : (List UInt8)) (x2 : (List T_limnographlaw18_Act)) (x3 : (List Int)) : Option Bool :=
  (m_limnographlaw18_awake ).bind fun p9 =>
  if (!p9) = true then
  (some false)
  else
  (jn (fun (y14 : Bool) =>
      (if y14 = true then
        (some true)
        else
        ((m_disk_New ([] : List T_api_File) 1048576).bind fun p17 =>
          jn (fun (y22 : Bool) (y23 : (Option PD)) =>
            (jn (fun (y25 : Bool) (y26 : (Option PD)) =>
                (jn (fun (y28 : Bool) (y29 : (Option PD)) =>
                    (jn (fun (y31 : Bool) (y32 : (Option PD)) =>
                        (if y31 = true then
                          (some false)
                          else
                          ((m_limnographref18_New ([] : List T_api_File) 1048576).bind fun p35 =>
                            jn (fun (y42 : (Option PD)) =>
                              ((y42).bind fun z45 =>
                                (m_disk_Disk_Crash z45 0).bind fun p44 =>
                                (m_disk_Disk_Sync p44 ([110, 111, 110, 101] : List UInt8)).bind fun p50 =>
                                (m_disk_Disk_Down p50.2).bind fun p54 =>
                                jn (fun (y56 : Bool) (y57 : PD) =>
                                  (if y56 = true then
                                    (some false)
                                    else
                                    ((m_disk_Disk_Read y57 ([115] : List UInt8)).bind fun p60 =>
                                      (m_disk_Disk_Size y57 ([115] : List UInt8)).bind fun p63 =>
                                      (catS x0 x1).bind fun z65 =>
                                      if p60.2 = 0 then
                                      (if p63.1 = (p60.1.length : Int) then
                                        (if p63.2.1 = p63.1 then
                                          (if (p60.1.length : Int) ≥ (x0.length : Int) then
                                            (if (p60.1.length : Int) ≤ (z65.length : Int) then
                                              ((cutL z65 0 (p60.1.length : Int)).bind fun z72 =>
                                                some (decide (p60.1 = z72)))
                                              else
                                              (some false))
                                            else
                                            (some false))
                                          else
                                          (some false))
                                        else
                                        (some false))
                                      else
                                      (some false)))) fun j7 =>
                                if (!p54) = true then
                                (j7 true p50.2)
                                else
                                ((m_disk_Disk_Boot p50.2 x3).bind fun p74 =>
                                  j7 (decide (p74.1 ≠ 0)) p74.2))) fun j6 =>
                            m_limnographlaw18_DiskSure_L1 x2 j6 fuel 0 y32 p35))) fun j5 =>
                      if y28 = true then
                      (j5 true y29)
                      else
                      ((y29).bind fun z118 =>
                        (m_disk_Disk_Append z118 ([115] : List UInt8) x1).bind fun p117 =>
                        j5 (decide (p117.1 ≠ 0)) (some p117.2)))) fun j4 =>
                  if y25 = true then
                  (j4 true y26)
                  else
                  ((y26).bind fun z129 =>
                    (m_disk_Disk_Sync z129 ([115] : List UInt8)).bind fun p128 =>
                    j4 (decide (p128.1 ≠ 0)) (some p128.2)))) fun j3 =>
              if y22 = true then
              (j3 true y23)
              else
              ((y23).bind fun z138 =>
                (m_disk_Disk_Append z138 ([115] : List UInt8) x0).bind fun p137 =>
                j3 (decide (p137.1 ≠ 0)) (some p137.2)))) fun j2 =>
          if ((p17).isNone) = true then
          (j2 true p17)
          else
          ((p17).bind fun z149 =>
            (m_disk_Disk_Create z149 ([115] : List UInt8)).bind fun p148 =>
            j2 (decide (p148.1 ≠ 0)) (some p148.2))))) fun j1 =>
    if ((x0.length : Int) > 1000) ∨ ((x1.length : Int) > 1000) then
    (j1 true)
    else
    ((m_limnographlaw18_few x2).bind fun p157 =>
      j1 (!p157)))
def m_limnographlaw18_DiskMost_L1 (p15 : (Int × PD)) (p21 : (Int × PD)) (p25 : (Int × PD)) (j2 : Int → Option Bool) : Nat → Int → Int → Option Bool
  | 0, _, _ => none
  | n + 1, y55, y56 =>
    if y56 < (([p15.1, p21.1, p25.1] : List Int).length : Int) then
    (jn (fun (y60 : Int) =>
        (m_limnographlaw18_DiskMost_L1 p15 p21 p25 j2 n y60 (W64 (y56 + 1)))) fun j5 =>
      (idx ([p15.1, p21.1, p25.1] : List Int) y56).bind fun z62 =>
      if z62 = 6 then
      (j5 (W64 (y55 + 1)))
      else
      (if z62 ≠ 0 then
        (some false)
        else
        (j5 y55)))
    else
    (j2 y55)
def m_limnographlaw18_DiskMost_L2 (x0 : Int) (j1 : (List T_api_File) → Option Bool) : Nat → (List T_api_File) → Int → Option Bool
  | 0, _, _ => none
  | n + 1, y65, y68 =>
    if y68 < W64 (4094 + x0) then
    ((remZ y68 16).bind fun z73 =>
      (quoZ y68 16).bind fun z74 =>
      (remZ z74 16).bind fun z75 =>
      (quoZ y68 256).bind fun z76 =>
      (appL y65 [({ Name := ([toU8 (W64 (97 + z73)), toU8 (W64 (97 + z75)), toU8 (W64 (97 + z76))] : List UInt8), Data := [] } : T_api_File)]).bind fun z80 =>
      m_limnographlaw18_DiskMost_L2 x0 j1 n z80 (W64 (y68 + 1)))
    else
    (j1 y65)
def m_limnographlaw18_DiskMost (x0 : Int) : Option Bool :=
  (m_limnographlaw18_awake ).bind fun p1 =>
  if (!p1) = true then
  (some false)
  else
  (if (x0 < 0) ∨ (x0 > 2) then
    (some true)
    else
    (jn (fun (y7 : (List T_api_File)) =>
        ((m_disk_New y7 1).bind fun p11 =>
          if ((p11).isNone) = true then
          (some false)
          else
          ((p11).bind fun z16 =>
            (m_disk_Disk_Create z16 ([120, 45] : List UInt8)).bind fun p15 =>
            (m_disk_Disk_Create p15.2 ([121, 45] : List UInt8)).bind fun p21 =>
            (m_disk_Disk_Create p21.2 ([122, 45] : List UInt8)).bind fun p25 =>
            jn (fun (y33 : Int) =>
              ((appL y7 ([({ Name := ([120] : List UInt8), Data := [] } : T_api_File), ({ Name := ([121] : List UInt8), Data := [] } : T_api_File), ({ Name := ([122] : List UInt8), Data := [] } : T_api_File)] : List T_api_File)).bind fun z38 =>
                jn (fun (y41 : Bool) =>
                  (jn (fun (y44 : Bool) =>
                      (some y44)) fun j4 =>
                    if y41 = true then
                    ((m_disk_New z38 1).bind fun p47 =>
                      j4 ((p47).isNone))
                    else
                    (j4 false))) fun j3 =>
                if y33 = W64 (x0 + 1) then
                ((m_disk_Disk_Names p25.2).bind fun p51 =>
                  j3 (decide ((p51.length : Int) = 4096)))
                else
                (j3 false))) fun j2 =>
            m_limnographlaw18_DiskMost_L1 p15 p21 p25 j2 fuel 0 0))) fun j1 =>
      m_limnographlaw18_DiskMost_L2 x0 j1 fuel ([] : List T_api_File) 0))
end Go.Proofs.Ytboelmiicbcjiaa
