/-
  Plain forms of functions of the program: what each computes, told over lists and numbers. Printed by a program.
-/
import Derived.Test.YtknenggmdnpimaaWu
import Derived.Test.YtknenggmdnpimaaDk
set_option linter.unusedVariables false
set_option linter.unusedSimpArgs false
namespace Go.Proofs.Ytknenggmdnpimaa
open Go Go.RowKit Go.Wk
structure T_api_File where
  Name : (List UInt8)
  Data : (List UInt8)
  deriving DecidableEq
def T_api_File.rep : Rep T_api_File := Rep.map (fun x => (x.Name, x.Data)) (Rep.two textR (Rep.sl byteR))
structure T_limnographlaw20_Act where
  Kind : Int
  N : Int
  Name : (List UInt8)
  B : (List UInt8)
  Code : Int
  Keep : (List Int)
  deriving DecidableEq
def T_limnographlaw20_Act.rep : Rep T_limnographlaw20_Act := Rep.map (fun x => (x.Kind, (x.N, (x.Name, (x.B, (x.Code, x.Keep)))))) (Rep.two (intR .i64) (Rep.two (intR .i64) (Rep.two textR (Rep.two textR (Rep.two (intR .i64) (Rep.sl (intR .i64)))))))
structure T_limnographref18_File where
  Name : (List UInt8)
  Data : (List UInt8)
  Sure : Int
  deriving DecidableEq
def T_limnographref18_File.rep : Rep T_limnographref18_File := Rep.map (fun x => (x.Name, (x.Data, x.Sure))) (Rep.two textR (Rep.two (Rep.sl byteR) (intR .i64)))
structure T_limnographref18_Disk where
  L : (List T_limnographref18_File)
  Capacity : Int
  Down : Bool
  Calls : Int
  Fail : Int
  Crash : Int
  Err : Int
  deriving DecidableEq
def T_limnographref18_Disk.rep : Rep T_limnographref18_Disk := Rep.map (fun x => (x.L, (x.Capacity, (x.Down, (x.Calls, (x.Fail, (x.Crash, x.Err))))))) (Rep.two (Rep.sl T_limnographref18_File.rep) (Rep.two (intR .i64) (Rep.two boolR (Rep.two (intR .i64) (Rep.two (intR .i64) (Rep.two (intR .i64) (intR .i64)))))))
structure T_limnographref20_Got where
  B : (List UInt8)
  Is : Bool
  E : Int
  deriving DecidableEq
def T_limnographref20_Got.rep : Rep T_limnographref20_Got := Rep.map (fun x => (x.B, (x.Is, x.E))) (Rep.two (Rep.sl byteR) (Rep.two boolR (intR .i64)))
structure T_limnographref04_Got where
  B : (List UInt8)
  N : Int
  E : Int
  deriving DecidableEq
def T_limnographref04_Got.rep : Rep T_limnographref04_Got := Rep.map (fun x => (x.B, (x.N, x.E))) (Rep.two (Rep.sl byteR) (Rep.two (intR .i64) (intR .i64)))
def T_limnographref18_Disk.sh (b : Nat) (x : T_limnographref18_Disk) : List Rs → Prop := fun L => ∃ (A1_0 : Option Addr) (c1_0 : Nat), L = [boxR b 52 [.slice A1_0 (x.L).length c1_0, .int .i64 (x.Capacity), .bool (x.Down), .int .i64 (x.Calls), .int .i64 (x.Fail), .int .i64 (x.Crash), .int .i64 (x.Err)], ownR 87 A1_0 c1_0 T_limnographref18_File.rep x.L]
def T_limnographref18_Disk.obj (F : Nat → Prop) (b : Nat) (x : T_limnographref18_Disk) : Rs := objR F (T_limnographref18_Disk.sh b x)
def m_disk_New (x0 : (List T_api_File)) (x1 : Int) : Option (Option PD) :=
  if x0.length ≤ 1073741824 then some (newD (x0.map fun f : T_api_File => (f.Name, f.Data)) x1) else none
def m_frame_four (x0 : UInt32) : Option (List UInt8) :=
  some ([toU8 ((x0).toNat : Int), toU8 ((x0 >>> UInt32.ofNat 8).toNat : Int), toU8 ((x0 >>> UInt32.ofNat 16).toNat : Int), toU8 ((x0 >>> UInt32.ofNat 24).toNat : Int)] : List UInt8)
def m_crc_Of (x0 : (List UInt8)) : Option UInt32 :=
  if x0.length ≤ 1073741824 then some (moreC 0 x0) else none
def m_crc_More (x0 : UInt32) (x1 : (List UInt8)) : Option UInt32 :=
  if x1.length ≤ 1073741824 then some (moreC x0 x1) else none
def m_frame_sum (x0 : (List UInt8)) (x1 : (List UInt8)) : Option UInt32 :=
  (m_crc_Of x0).bind fun p5 =>
  (m_crc_More p5 x1).bind fun p7 =>
  some p7
def m_frame_Wrap (x0 : (List UInt8)) : Option ((List UInt8) × Int) :=
  if (x0.length : Int) > 65536 then
  (some (([] : List UInt8), 4))
  else
  ((m_frame_four (toU32 (x0.length : Int))).bind fun p9 =>
    (appL ([(165 : UInt8)] : List UInt8) p9).bind fun z12 =>
    (m_frame_sum z12 x0).bind fun p14 =>
    (m_frame_four p14).bind fun p16 =>
    (appL z12 p16).bind fun z19 =>
    (appL z19 x0).bind fun z21 =>
    some (z21, 0))
def m_disk_Disk_Size (x0 : PD) (x1 : (List UInt8)) : Option (Int × Int × Int) :=
  some (if x0.down = true then ((0 : Int), (0 : Int), (13 : Int)) else match findF x1 x0.files with | none => (0, 0, 7) | some f => (f.data.length, f.sure, 0))
def m_snap_there (x0 : PD) (x1 : (List UInt8)) : Option Bool :=
  (m_disk_Disk_Size x0 x1).bind fun p3 =>
  some (decide (p3.2.2 = 0))
def m_disk_Disk_Remove (x0 : PD) (x1 : (List UInt8)) : Option (Int × PD) :=
  if x0.calls < 4611686018427387904 then some ((x0.remove x1).2, (x0.remove x1).1) else none
def m_disk_Disk_Create (x0 : PD) (x1 : (List UInt8)) : Option (Int × PD) :=
  if x0.calls < 4611686018427387904 then some ((x0.create x1).2, (x0.create x1).1) else none
def m_disk_Disk_Append (x0 : PD) (x1 : (List UInt8)) (x2 : (List UInt8)) : Option (Int × PD) :=
  if x0.calls < 4611686018427387904 ∧ (x0.used ≤ x0.cap ∧ x0.cap ≤ 4194304) ∧ x2.length ≤ 1073741824 then some ((x0.append x1 x2).2, (x0.append x1 x2).1) else none
def m_disk_Disk_Sync (x0 : PD) (x1 : (List UInt8)) : Option (Int × PD) :=
  if x0.calls < 4611686018427387904 then some ((x0.sync x1).2, (x0.sync x1).1) else none
def m_disk_Disk_Rename (x0 : PD) (x1 : (List UInt8)) (x2 : (List UInt8)) : Option (Int × PD) :=
  if x0.calls < 4611686018427387904 then some ((x0.rename x1 x2).2, (x0.rename x1 x2).1) else none
def m_snap_Save (x0 : PD) (x1 : (List UInt8)) (x2 : (List UInt8)) : Option (Int × PD) :=
  jn (fun (y3 : Int) (y4 : (List UInt8)) (y5 : PD) =>
    (jn (fun (y8 : Bool) =>
        (jn (fun (y10 : PD) =>
            (some (y3, y10))) fun j3 =>
          if y8 = true then
          ((m_disk_Disk_Remove y5 y4).bind fun p13 =>
            j3 p13.2)
          else
          (j3 y5))) fun j2 =>
      if y3 ≠ 13 then
      ((m_snap_there y5 y4).bind fun p18 =>
        j2 p18)
      else
      (j2 false))) fun j1 =>
  (catS x1 ([46, 110, 101, 119] : List UInt8)).bind fun z20 =>
  if (x1.length : Int) > 28 then
  (some (3, x0))
  else
  ((m_frame_Wrap x2).bind fun p22 =>
    if p22.2 ≠ 0 then
    (some (p22.2, x0))
    else
    ((m_snap_there x0 z20).bind fun p26 =>
      jn (fun (y28 : Int) (y29 : PD) =>
        (jn (fun (y31 : Int) (y32 : PD) =>
            (if y31 ≠ 0 then
              (j1 y31 z20 y32)
              else
              ((m_disk_Disk_Append y32 z20 p22.1).bind fun p35 =>
                if p35.1 ≠ 0 then
                (j1 p35.1 z20 p35.2)
                else
                ((m_disk_Disk_Sync p35.2 z20).bind fun p44 =>
                  if p44.1 ≠ 0 then
                  (j1 p44.1 z20 p44.2)
                  else
                  ((m_disk_Disk_Rename p44.2 z20 x1).bind fun p49 =>
                    if p49.1 = 0 then
                    (some (0, p49.2))
                    else
                    (j1 p49.1 z20 p49.2)))))) fun j5 =>
          if y28 = 0 then
          ((m_disk_Disk_Create y29 z20).bind fun p55 =>
            j5 p55.1 p55.2)
          else
          (j5 y28 y29))) fun j4 =>
      if p26 = true then
      ((m_disk_Disk_Remove x0 z20).bind fun p60 =>
        j4 p60.1 p60.2)
      else
      (j4 p22.2 x0)))
def m_disk_Disk_Down (x0 : PD) : Option Bool :=
  some x0.down
def m_disk_Disk_Read (x0 : PD) (x1 : (List UInt8)) : Option ((List UInt8) × Int) :=
  if x0.used ≤ x0.cap ∧ x0.cap ≤ 4194304 then some (if x0.down = true then (([] : List UInt8), (13 : Int)) else match findF x1 x0.files with | none => ([], 7) | some f => (f.data, 0)) else none
def m_frame_number (x0 : (List UInt8)) : Option UInt32 :=
  (idx x0 0).bind fun z4 =>
  (idx x0 1).bind fun z7 =>
  (idx x0 2).bind fun z10 =>
  (idx x0 3).bind fun z13 =>
  some ((((toU32 ((z4).toNat : Int)) ||| ((toU32 ((z7).toNat : Int)) <<< UInt32.ofNat 8)) ||| ((toU32 ((z10).toNat : Int)) <<< UInt32.ofNat 16)) ||| ((toU32 ((z13).toNat : Int)) <<< UInt32.ofNat 24))
def m_bytes_Clone (x0 : (List UInt8)) : Option (List UInt8) :=
  appL [] x0
def m_frame_First (x0 : (List UInt8)) : Option ((List UInt8) × Int × Int) :=
  if (x0.length : Int) = 0 then
  (some (([] : List UInt8), 0, 2))
  else
  ((idx x0 0).bind fun z6 =>
    if ((z6).toNat : Int) ≠ 165 then
    (some (([] : List UInt8), 0, 3))
    else
    (if (x0.length : Int) < 9 then
      (some (([] : List UInt8), 0, 2))
      else
      ((cutL x0 1 ((x0).length)).bind fun z14 =>
        (m_frame_number z14).bind fun p16 =>
        if ((p16).toNat : Int) > 65536 then
        (some (([] : List UInt8), 0, 4))
        else
        (if (p16.toNat : Int) > W64 ((x0.length : Int) - 9) then
          (some (([] : List UInt8), 0, 2))
          else
          ((cutL x0 0 5).bind fun z25 =>
            (cutL x0 9 (W64 (9 + (p16.toNat : Int)))).bind fun z27 =>
            (cutL x0 5 ((x0).length)).bind fun z29 =>
            (m_frame_sum z25 z27).bind fun p31 =>
            (m_frame_number z29).bind fun p33 =>
            if ((p31).toNat : Int) ≠ ((p33).toNat : Int) then
            (some (([] : List UInt8), 0, 5))
            else
            ((cutL x0 9 (W64 (9 + (p16.toNat : Int)))).bind fun z38 =>
              (m_bytes_Clone z38).bind fun p40 =>
              some (p40, W64 (9 + (p16.toNat : Int)), 0)))))))
def m_snap_Load (x0 : PD) (x1 : (List UInt8)) : Option ((List UInt8) × Bool × Int × PD) :=
  (m_disk_Disk_Down x0).bind fun p2 =>
  if p2 = true then
  (some (([] : List UInt8), false, 13, x0))
  else
  ((catS x1 ([46, 110, 101, 119] : List UInt8)).bind fun z7 =>
    (m_snap_there x0 z7).bind fun p8 =>
    jn (fun (y10 : PD) =>
      ((m_disk_Disk_Read y10 x1).bind fun p12 =>
        if p12.2 = 7 then
        (some (([] : List UInt8), false, 0, y10))
        else
        ((m_frame_First p12.1).bind fun p18 =>
          if (p18.2.2 ≠ 0) ∨ (p18.2.1 ≠ (p12.1.length : Int)) then
          (some (([] : List UInt8), false, 15, y10))
          else
          (some (p18.1, true, 0, y10))))) fun j1 =>
    if p8 = true then
    ((catS x1 ([46, 110, 101, 119] : List UInt8)).bind fun z27 =>
      (m_disk_Disk_Remove x0 z27).bind fun p28 =>
      if p28.1 ≠ 0 then
      (some (([] : List UInt8), false, p28.1, p28.2))
      else
      (j1 p28.2))
    else
    (j1 x0))
def m_disk_Disk_Used (x0 : PD) : Option Int :=
  if x0.used ≤ x0.cap ∧ x0.cap ≤ 4194304 then some ((if x0.down = true then 0 else x0.used : Nat) : Int) else none
def m_frame_Size (x0 : Int) : Option Int :=
  if (x0 < 0) ∨ (x0 > 65536) then
  (some 0)
  else
  (some (W64 (9 + x0)))
def m_snap_Cost (x0 : Int) : Option Int :=
  (m_frame_Size x0).bind fun p1 =>
  some p1
def m_limnographlaw20_awake  : Option Bool :=
  (m_disk_New ([] : List T_api_File) 25).bind fun p1 =>
  jn (fun (y6 : Bool) (y7 : (Option PD)) =>
    (jn (fun (y9 : Bool) (y10 : (Option PD)) =>
        (if y9 = true then
          (some false)
          else
          ((y10).bind fun z14 =>
            (m_snap_Load z14 ([115] : List UInt8)).bind fun p13 =>
            jn (fun (y25 : Bool) =>
              (jn (fun (y28 : Bool) =>
                  (some y28)) fun j4 =>
                if y25 = true then
                ((m_snap_Cost 1).bind fun p31 =>
                  j4 (decide (p31 = 10)))
                else
                (j4 false))) fun j3 =>
            if ((p13.1 = ([97] : List UInt8)) ∧ (p13.2.1 = true)) ∧ (p13.2.2.1 = 0) then
            ((m_disk_Disk_Used p13.2.2.2).bind fun p34 =>
              j3 (decide (p34 = 10)))
            else
            (j3 false)))) fun j2 =>
      if y6 = true then
      (j2 true y7)
      else
      ((y7).bind fun z43 =>
        (m_snap_Save z43 ([115] : List UInt8) ([(116 : UInt8), (111 : UInt8), (111 : UInt8), (32 : UInt8), (109 : UInt8), (117 : UInt8), (99 : UInt8), (104 : UInt8), (32 : UInt8), (114 : UInt8), (111 : UInt8), (111 : UInt8), (109 : UInt8)] : List UInt8)).bind fun p42 =>
        j2 (decide (p42.1 ≠ 12)) (some p42.2)))) fun j1 =>
  if ((p1).isNone) = true then
  (j1 true p1)
  else
  ((p1).bind fun z59 =>
    (m_snap_Save z59 ([115] : List UInt8) ([(97 : UInt8)] : List UInt8)).bind fun p58 =>
    j1 (decide (p58.1 ≠ 0)) (some p58.2))
def m_limnographref18_Bulk_L1 (x0 : (List T_api_File)) (x1 : Int) (j1 : Int → Option Int) : Nat → Int → Int → Option Int
  | 0, _, _ => none
  | n + 1, y5, y6 =>
    if (y6 < (x0.length : Int)) ∧ (y5 ≤ x1) then
    ((idx x0 y6).bind fun z11 =>
      m_limnographref18_Bulk_L1 x0 x1 j1 n (W64 ((W64 (y5 + 1)) + (min (z11.Data.length : Int) (W64 (x1 + 1))))) (W64 (y6 + 1)))
    else
    (j1 y5)
def m_limnographref18_Bulk (x0 : (List T_api_File)) (x1 : Int) : Option Int :=
  jn (fun (y3 : Int) =>
    (some y3)) fun j1 =>
  m_limnographref18_Bulk_L1 x0 x1 j1 fuel 0 0
def m_limnographref18_Name_L1 (x0 : (List UInt8)) (j1 : Unit → Option Bool) : Nat → Int → Option Bool
  | 0, _ => none
  | n + 1, y5 =>
    if y5 < (x0.length : Int) then
    ((idx x0 y5).bind fun z8 =>
      if (((¬ ((((z8).toNat : Int) ≥ 97) ∧ (((z8).toNat : Int) ≤ 122))) ∧ (¬ ((((z8).toNat : Int) ≥ 48) ∧ (((z8).toNat : Int) ≤ 57)))) ∧ (((z8).toNat : Int) ≠ 46)) ∧ (((z8).toNat : Int) ≠ 45) then
      (some false)
      else
      (m_limnographref18_Name_L1 x0 j1 n (W64 (y5 + 1))))
    else
    (j1 ())
def m_limnographref18_Name (x0 : (List UInt8)) : Option Bool :=
  if ((x0.length : Int) < 1) ∨ ((x0.length : Int) > 32) then
  (some false)
  else
  (jn (fun (_ : Unit) =>
      (some true)) fun j1 =>
    m_limnographref18_Name_L1 x0 j1 fuel 0)
def m_limnographref18_Disk_Find_L1 (x0 : T_limnographref18_Disk) (x1 : (List UInt8)) (j1 : Unit → Option Int) : Nat → Int → Option Int
  | 0, _ => none
  | n + 1, y4 =>
    if y4 < (x0.L.length : Int) then
    ((idx x0.L y4).bind fun z12 =>
      if z12.Name = x1 then
      (some y4)
      else
      (m_limnographref18_Disk_Find_L1 x0 x1 j1 n (W64 (y4 + 1))))
    else
    (j1 ())
def m_limnographref18_Disk_Find (x0 : T_limnographref18_Disk) (x1 : (List UInt8)) : Option Int :=
  jn (fun (_ : Unit) =>
    (some (-1))) fun j1 =>
  m_limnographref18_Disk_Find_L1 x0 x1 j1 fuel 0
def m_limnographref18_Disk_Used_L1 (x0 : T_limnographref18_Disk) (j1 : Int → Option Int) : Nat → Int → Int → Option Int
  | 0, _, _ => none
  | n + 1, y5, y6 =>
    if y6 < (x0.L.length : Int) then
    ((idx x0.L y6).bind fun z14 =>
      m_limnographref18_Disk_Used_L1 x0 j1 n (W64 (y5 + (z14.Data.length : Int))) (W64 (y6 + 1)))
    else
    (j1 y5)
def m_limnographref18_Disk_Used (x0 : T_limnographref18_Disk) : Option Int :=
  jn (fun (y3 : Int) =>
    (some y3)) fun j1 =>
  m_limnographref18_Disk_Used_L1 x0 j1 fuel 0 0
def m_limnographref18_Disk_without_L1 (x0 : T_limnographref18_Disk) (x1 : (List UInt8)) (j1 : (List T_limnographref18_File) → Option (List T_limnographref18_File)) : Nat → (List T_limnographref18_File) → Int → Option (List T_limnographref18_File)
  | 0, _, _ => none
  | n + 1, y8, y11 =>
    if y11 < (x0.L.length : Int) then
    (jn (fun (y21 : (List T_limnographref18_File)) =>
        (m_limnographref18_Disk_without_L1 x0 x1 j1 n y21 (W64 (y11 + 1)))) fun j2 =>
      (idx x0.L y11).bind fun z27 =>
      if z27.Name ≠ x1 then
      ((idx x0.L y11).bind fun z32 =>
        (appL y8 [z32]).bind fun z36 =>
        j2 z36)
      else
      (j2 y8))
    else
    (j1 y8)
def m_limnographref18_Disk_without (x0 : T_limnographref18_Disk) (x1 : (List UInt8)) : Option (List T_limnographref18_File) :=
  jn (fun (y3 : (List T_limnographref18_File)) =>
    (some y3)) fun j1 =>
  m_limnographref18_Disk_without_L1 x0 x1 j1 fuel ([] : List T_limnographref18_File) 0
def m_limnographref18_Disk_put_L1 (x1 : T_limnographref18_File) (p9 : (List T_limnographref18_File)) (j1 : Int → Option T_limnographref18_Disk) : Nat → Int → Option T_limnographref18_Disk
  | 0, _ => none
  | n + 1, y38 =>
    jn (fun (y41 : Bool) =>
      (if y41 = true then
        (m_limnographref18_Disk_put_L1 x1 p9 j1 n (W64 (y38 - 1)))
        else
        (j1 y38))) fun j2 =>
    if y38 > 0 then
    ((idx p9 (W64 (y38 - 1))).bind fun z46 =>
      j2 (Op.bytesLess x1.Name z46.Name))
    else
    (j2 false)
def m_limnographref18_Disk_put (x0 : T_limnographref18_Disk) (x1 : T_limnographref18_File) : Option T_limnographref18_Disk :=
  (m_limnographref18_Disk_without x0 x1.Name).bind fun p9 =>
  jn (fun (y15 : Int) =>
    ((cutL p9 0 y15).bind fun z17 =>
      (appL ([] : List T_limnographref18_File) z17).bind fun z21 =>
      (appL z21 [({ Name := x1.Name, Data := x1.Data, Sure := x1.Sure } : T_limnographref18_File)]).bind fun z25 =>
      (cutL p9 y15 ((p9).length)).bind fun z27 =>
      (appL z25 z27).bind fun z29 =>
      some ({ L := z29, Capacity := x0.Capacity, Down := x0.Down, Calls := x0.Calls, Fail := x0.Fail, Crash := x0.Crash, Err := x0.Err } : T_limnographref18_Disk))) fun j1 =>
  m_limnographref18_Disk_put_L1 x1 p9 j1 fuel (p9.length : Int)
def m_limnographref18_New_L1 (x0 : (List T_api_File)) (x1 : Int) (j1 : T_limnographref18_Disk → Option (Option T_limnographref18_Disk)) : Nat → Int → T_limnographref18_Disk → Option (Option T_limnographref18_Disk)
  | 0, _, _ => none
  | n + 1, y22, y23 =>
    if y22 < (x0.length : Int) then
    ((idx x0 y22).bind fun z26 =>
      jn (fun (y35 : Bool) =>
        (if y35 = true then
          (some (none : Option T_limnographref18_Disk))
          else
          ((m_limnographref18_Disk_put y23 ({ Name := z26.Name, Data := z26.Data, Sure := (z26.Data.length : Int) } : T_limnographref18_File)).bind fun p41 =>
            m_limnographref18_New_L1 x0 x1 j1 n (W64 (y22 + 1)) p41))) fun j2 =>
      (m_limnographref18_Name z26.Name).bind fun p48 =>
      if (!p48) = true then
      (j2 true)
      else
      ((m_limnographref18_Disk_Find y23 z26.Name).bind fun p51 =>
        if p51 ≥ 0 then
        (j2 true)
        else
        ((m_limnographref18_Disk_Used y23).bind fun p54 =>
          j2 (decide ((z26.Data.length : Int) > W64 (x1 - p54))))))
    else
    (j1 y23)
def m_limnographref18_New (x0 : (List T_api_File)) (x1 : Int) : Option (Option T_limnographref18_Disk) :=
  if ((x1 < 1) ∨ (x1 > 4194304)) ∨ ((x0.length : Int) > 4096) then
  (some (none : Option T_limnographref18_Disk))
  else
  (jn (fun (y18 : T_limnographref18_Disk) =>
      (some (some y18))) fun j1 =>
    m_limnographref18_New_L1 x0 x1 j1 fuel 0 ({ L := ([] : List T_limnographref18_File), Capacity := x1, Down := false, Calls := 0, Fail := (-1), Crash := (-1), Err := 0 } : T_limnographref18_Disk))
def m_limnographref04_four (x0 : Int) : Option (List UInt8) :=
  (remZ x0 256).bind fun z1 =>
  (quoZ x0 256).bind fun z2 =>
  (remZ z2 256).bind fun z3 =>
  (quoZ x0 65536).bind fun z4 =>
  (remZ z4 256).bind fun z5 =>
  (quoZ x0 16777216).bind fun z6 =>
  some ([toU8 z1, toU8 z3, toU8 z5, toU8 z6] : List UInt8)
def m_limnographref03_Step (x0 : UInt32) : Option UInt32 :=
  (rem32 x0 (2 : UInt32)).bind fun z1 =>
  (quo32 x0 (2 : UInt32)).bind fun z2 =>
  jn (fun (y3 : UInt32) =>
    (some y3)) fun j1 =>
  if ((z1).toNat : Int) = 1 then
  (j1 (z2 ^^^ (2197175160 : UInt32)))
  else
  (j1 z2)
def m_limnographref03_More_L2 (j2 : UInt32 → Option UInt32) : Nat → UInt32 → Int → Option UInt32
  | 0, _, _ => none
  | n + 1, y13, y14 =>
    if y14 < 8 then
    ((m_limnographref03_Step y13).bind fun p17 =>
      m_limnographref03_More_L2 j2 n p17 (W64 (y14 + 1)))
    else
    (j2 y13)
def m_limnographref03_More_L1 (x1 : (List UInt8)) (j1 : UInt32 → Option UInt32) : Nat → UInt32 → Int → Option UInt32
  | 0, _, _ => none
  | n + 1, y5, y6 =>
    if y6 < (x1.length : Int) then
    ((idx x1 y6).bind fun z9 =>
      jn (fun (y11 : UInt32) =>
        (m_limnographref03_More_L1 x1 j1 n y11 (W64 (y6 + 1)))) fun j2 =>
      m_limnographref03_More_L2 j2 fuel (y5 ^^^ (toU32 ((z9).toNat : Int))) 0)
    else
    (j1 y5)
def m_limnographref03_More (x0 : UInt32) (x1 : (List UInt8)) : Option UInt32 :=
  jn (fun (y3 : UInt32) =>
    (some y3)) fun j1 =>
  m_limnographref03_More_L1 x1 j1 fuel x0 0
def m_limnographref03_Of (x0 : (List UInt8)) : Option UInt32 :=
  (m_limnographref03_More (4294967295 : UInt32) x0).bind fun p3 =>
  some ((4294967295 : UInt32) - p3)
def m_limnographref04_Wrap (x0 : (List UInt8)) : Option ((List UInt8) × Int) :=
  if (x0.length : Int) > 65536 then
  (some (([] : List UInt8), 4))
  else
  ((m_limnographref04_four (x0.length : Int)).bind fun p8 =>
    (catS ([165] : List UInt8) p8).bind fun z10 =>
    (catS z10 x0).bind fun z12 =>
    (lenS z12).bind fun z13 =>
    (m_limnographref03_Of z13).bind fun p15 =>
    (m_limnographref04_four (p15.toNat : Int)).bind fun p17 =>
    (catS z10 p17).bind fun z19 =>
    (catS z19 x0).bind fun z20 =>
    (lenS z20).bind fun z21 =>
    some (z21, 0))
def m_limnographref18_Disk_begin (x0 : T_limnographref18_Disk) : Option (Int × T_limnographref18_Disk) :=
  if x0.Down = true then
  (some (13, x0))
  else
  (jn (fun (y12 : T_limnographref18_Disk) =>
      (jn (fun (y18 : T_limnographref18_Disk) =>
          (if x0.Crash = 0 then
            (some (13, ({ L := y18.L, Capacity := y18.Capacity, Down := true, Calls := y18.Calls, Fail := y18.Fail, Crash := y18.Crash, Err := y18.Err } : T_limnographref18_Disk)))
            else
            (if x0.Fail = 0 then
              (some (y18.Err, y18))
              else
              (some (0, y18))))) fun j2 =>
        if y12.Fail ≥ 0 then
        (j2 ({ L := y12.L, Capacity := y12.Capacity, Down := y12.Down, Calls := y12.Calls, Fail := W64 (y12.Fail - 1), Crash := y12.Crash, Err := y12.Err } : T_limnographref18_Disk))
        else
        (j2 y12))) fun j1 =>
    if x0.Crash ≥ 0 then
    (j1 ({ L := ({ L := x0.L, Capacity := x0.Capacity, Down := x0.Down, Calls := W64 (x0.Calls + 1), Fail := x0.Fail, Crash := x0.Crash, Err := x0.Err } : T_limnographref18_Disk).L, Capacity := ({ L := x0.L, Capacity := x0.Capacity, Down := x0.Down, Calls := W64 (x0.Calls + 1), Fail := x0.Fail, Crash := x0.Crash, Err := x0.Err } : T_limnographref18_Disk).Capacity, Down := ({ L := x0.L, Capacity := x0.Capacity, Down := x0.Down, Calls := W64 (x0.Calls + 1), Fail := x0.Fail, Crash := x0.Crash, Err := x0.Err } : T_limnographref18_Disk).Down, Calls := ({ L := x0.L, Capacity := x0.Capacity, Down := x0.Down, Calls := W64 (x0.Calls + 1), Fail := x0.Fail, Crash := x0.Crash, Err := x0.Err } : T_limnographref18_Disk).Calls, Fail := ({ L := x0.L, Capacity := x0.Capacity, Down := x0.Down, Calls := W64 (x0.Calls + 1), Fail := x0.Fail, Crash := x0.Crash, Err := x0.Err } : T_limnographref18_Disk).Fail, Crash := W64 ((({ L := x0.L, Capacity := x0.Capacity, Down := x0.Down, Calls := W64 (x0.Calls + 1), Fail := x0.Fail, Crash := x0.Crash, Err := x0.Err } : T_limnographref18_Disk).Crash) - 1), Err := ({ L := x0.L, Capacity := x0.Capacity, Down := x0.Down, Calls := W64 (x0.Calls + 1), Fail := x0.Fail, Crash := x0.Crash, Err := x0.Err } : T_limnographref18_Disk).Err } : T_limnographref18_Disk))
    else
    (j1 ({ L := x0.L, Capacity := x0.Capacity, Down := x0.Down, Calls := W64 (x0.Calls + 1), Fail := x0.Fail, Crash := x0.Crash, Err := x0.Err } : T_limnographref18_Disk)))
def m_limnographref18_Disk_Remove (x0 : T_limnographref18_Disk) (x1 : (List UInt8)) : Option (Int × T_limnographref18_Disk) :=
  (m_limnographref18_Disk_begin x0).bind fun p2 =>
  if p2.1 ≠ 0 then
  (some (p2.1, p2.2))
  else
  ((m_limnographref18_Disk_Find p2.2 x1).bind fun p7 =>
    if p7 < 0 then
    (some (7, p2.2))
    else
    ((m_limnographref18_Disk_without p2.2 x1).bind fun p10 =>
      some (0, ({ L := p10, Capacity := p2.2.Capacity, Down := p2.2.Down, Calls := p2.2.Calls, Fail := p2.2.Fail, Crash := p2.2.Crash, Err := p2.2.Err } : T_limnographref18_Disk))))
def m_limnographref18_Disk_Create (x0 : T_limnographref18_Disk) (x1 : (List UInt8)) : Option (Int × T_limnographref18_Disk) :=
  (m_limnographref18_Disk_begin x0).bind fun p2 =>
  if p2.1 ≠ 0 then
  (some (p2.1, p2.2))
  else
  ((m_limnographref18_Name x1).bind fun p7 =>
    if (!p7) = true then
    (some (3, p2.2))
    else
    ((m_limnographref18_Disk_Find p2.2 x1).bind fun p10 =>
      if p10 ≥ 0 then
      (some (8, p2.2))
      else
      (if (p2.2.L.length : Int) = 4096 then
        (some (6, p2.2))
        else
        ((m_limnographref18_Disk_put p2.2 ({ Name := x1, Data := [], Sure := 0 } : T_limnographref18_File)).bind fun p18 =>
          some (0, p18)))))
def m_limnographref18_Disk_Append (x0 : T_limnographref18_Disk) (x1 : (List UInt8)) (x2 : (List UInt8)) : Option (Int × T_limnographref18_Disk) :=
  (m_limnographref18_Disk_begin x0).bind fun p3 =>
  if p3.1 ≠ 0 then
  (some (p3.1, p3.2))
  else
  ((m_limnographref18_Disk_Find p3.2 x1).bind fun p8 =>
    if p8 < 0 then
    (some (7, p3.2))
    else
    ((m_limnographref18_Disk_Used p3.2).bind fun p14 =>
      if (x2.length : Int) > W64 (p3.2.Capacity - p14) then
      (some (12, p3.2))
      else
      ((idx p3.2.L p8).bind fun z21 =>
        (catS z21.Data x2).bind fun z28 =>
        (lenS z28).bind fun z29 =>
        (m_limnographref18_Disk_put p3.2 ({ Name := x1, Data := z29, Sure := z21.Sure } : T_limnographref18_File)).bind fun p31 =>
        some (0, p31))))
def m_limnographref18_Disk_Sync (x0 : T_limnographref18_Disk) (x1 : (List UInt8)) : Option (Int × T_limnographref18_Disk) :=
  (m_limnographref18_Disk_begin x0).bind fun p2 =>
  if p2.1 ≠ 0 then
  (some (p2.1, p2.2))
  else
  ((m_limnographref18_Disk_Find p2.2 x1).bind fun p7 =>
    if p7 < 0 then
    (some (7, p2.2))
    else
    ((idx p2.2.L p7).bind fun z12 =>
      (m_limnographref18_Disk_put p2.2 ({ Name := x1, Data := z12.Data, Sure := (z12.Data.length : Int) } : T_limnographref18_File)).bind fun p19 =>
      some (0, p19)))
def m_limnographref18_Disk_Rename (x0 : T_limnographref18_Disk) (x1 : (List UInt8)) (x2 : (List UInt8)) : Option (Int × T_limnographref18_Disk) :=
  (m_limnographref18_Disk_begin x0).bind fun p2 =>
  if p2.1 ≠ 0 then
  (some (p2.1, p2.2))
  else
  ((m_limnographref18_Name x2).bind fun p7 =>
    if (!p7) = true then
    (some (3, p2.2))
    else
    ((m_limnographref18_Disk_Find p2.2 x1).bind fun p10 =>
      if p10 < 0 then
      (some (7, p2.2))
      else
      ((idx p2.2.L p10).bind fun z15 =>
        (m_limnographref18_Disk_without p2.2 x1).bind fun p22 =>
        (m_limnographref18_Disk_put ({ L := p22, Capacity := p2.2.Capacity, Down := p2.2.Down, Calls := p2.2.Calls, Fail := p2.2.Fail, Crash := p2.2.Crash, Err := p2.2.Err } : T_limnographref18_Disk) ({ Name := x2, Data := z15.Data, Sure := z15.Sure } : T_limnographref18_File)).bind fun p33 =>
        some (0, p33))))
def m_limnographref20_tries (x0 : T_limnographref18_Disk) (x1 : (List UInt8)) (x2 : (List UInt8)) : Option (Int × T_limnographref18_Disk) :=
  (catS x1 ([46, 110, 101, 119] : List UInt8)).bind fun z3 =>
  jn (fun (y9 : Bool) =>
    (jn (fun (y11 : T_limnographref18_Disk) =>
        ((m_limnographref18_Disk_Create y11 z3).bind fun p13 =>
          if p13.1 ≠ 0 then
          (some (p13.1, p13.2))
          else
          ((m_limnographref18_Disk_Append p13.2 z3 x2).bind fun p18 =>
            if p18.1 ≠ 0 then
            (some (p18.1, p18.2))
            else
            ((m_limnographref18_Disk_Sync p18.2 z3).bind fun p25 =>
              if p25.1 ≠ 0 then
              (some (p25.1, p25.2))
              else
              ((m_limnographref18_Disk_Rename p25.2 z3 x1).bind fun p30 =>
                some (p30.1, p30.2)))))) fun j2 =>
      if y9 = true then
      ((m_limnographref18_Disk_Remove x0 z3).bind fun p35 =>
        if p35.1 ≠ 0 then
        (some (p35.1, p35.2))
        else
        (j2 p35.2))
      else
      (j2 x0))) fun j1 =>
  if (!x0.Down) = true then
  ((m_limnographref18_Disk_Find x0 z3).bind fun p41 =>
    j1 (decide (p41 ≥ 0)))
  else
  (j1 false)
def m_limnographref20_Save (x0 : T_limnographref18_Disk) (x1 : (List UInt8)) (x2 : (List UInt8)) : Option (Int × T_limnographref18_Disk) :=
  if (x1.length : Int) > 28 then
  (some (3, x0))
  else
  ((m_limnographref04_Wrap x2).bind fun p4 =>
    if p4.2 ≠ 0 then
    (some (4, x0))
    else
    ((m_limnographref20_tries x0 x1 p4.1).bind fun p8 =>
      jn (fun (y17 : Bool) =>
        (jn (fun (y19 : T_limnographref18_Disk) =>
            (some (p8.1, y19))) fun j2 =>
          if y17 = true then
          ((catS x1 ([46, 110, 101, 119] : List UInt8)).bind fun z22 =>
            (m_limnographref18_Disk_Remove p8.2 z22).bind fun p23 =>
            j2 p23.2)
          else
          (j2 p8.2))) fun j1 =>
      if (p8.1 ≠ 0) ∧ (p8.1 ≠ 13) then
      ((catS x1 ([46, 110, 101, 119] : List UInt8)).bind fun z28 =>
        (m_limnographref18_Disk_Find p8.2 z28).bind fun p29 =>
        j1 (decide (p29 ≥ 0)))
      else
      (j1 false)))
def m_limnographref04_First_L1 (x0 : (List UInt8)) (x1 : Int) (j1 : Int → Option T_limnographref04_Got) : Nat → Int → Int → Option T_limnographref04_Got
  | 0, _, _ => none
  | n + 1, y62, y63 =>
    if y63 > 0 then
    ((idx x0 (W64 (x1 + y63))).bind fun z66 =>
      m_limnographref04_First_L1 x0 x1 j1 n (W64 ((W64 (256 * y62)) + (z66.toNat : Int))) (W64 (y63 - 1)))
    else
    (j1 y62)
def m_limnographref04_First (x0 : (List UInt8)) (x1 : Int) : Option T_limnographref04_Got :=
  if W64 ((x0.length : Int) - x1) < 1 then
  (some ({ B := ([] : List UInt8), N := 0, E := 2 } : T_limnographref04_Got))
  else
  ((idx x0 x1).bind fun z13 =>
    if ((z13).toNat : Int) ≠ 165 then
    (some ({ B := ([] : List UInt8), N := 0, E := 3 } : T_limnographref04_Got))
    else
    (if W64 ((x0.length : Int) - x1) < 9 then
      (some ({ B := ([] : List UInt8), N := 0, E := 2 } : T_limnographref04_Got))
      else
      (jn (fun (y29 : Int) =>
          (if y29 > 65536 then
            (some ({ B := ([] : List UInt8), N := 0, E := 4 } : T_limnographref04_Got))
            else
            (if W64 ((x0.length : Int) - x1) < W64 (9 + y29) then
              (some ({ B := ([] : List UInt8), N := 0, E := 2 } : T_limnographref04_Got))
              else
              ((cutL x0 (W64 (x1 + 9)) (W64 ((W64 (x1 + 9)) + y29))).bind fun z45 =>
                (m_limnographref04_Wrap z45).bind fun p47 =>
                (cutL x0 x1 (W64 ((W64 (x1 + 9)) + y29))).bind fun z51 =>
                if p47.1 ≠ z51 then
                (some ({ B := ([] : List UInt8), N := 0, E := 5 } : T_limnographref04_Got))
                else
                (some ({ B := z45, N := W64 (9 + y29), E := 0 } : T_limnographref04_Got)))))) fun j1 =>
        m_limnographref04_First_L1 x0 x1 j1 fuel 0 4)))
def m_limnographref20_Load (x0 : T_limnographref18_Disk) (x1 : (List UInt8)) : Option (T_limnographref20_Got × T_limnographref18_Disk) :=
  if x0.Down = true then
  (some (({ B := ([] : List UInt8), Is := false, E := 13 } : T_limnographref20_Got), x0))
  else
  ((catS x1 ([46, 110, 101, 119] : List UInt8)).bind fun z16 =>
    (m_limnographref18_Disk_Find x0 z16).bind fun p17 =>
    jn (fun (y21 : T_limnographref18_Disk) =>
      ((m_limnographref18_Disk_Find y21 x1).bind fun p23 =>
        if p23 < 0 then
        (some (({ B := ([] : List UInt8), Is := false, E := 0 } : T_limnographref20_Got), y21))
        else
        ((idx y21.L p23).bind fun z34 =>
          (m_limnographref04_First z34.Data 0).bind fun p38 =>
          if (p38.E ≠ 0) ∨ (p38.N ≠ (z34.Data.length : Int)) then
          (some (({ B := ([] : List UInt8), Is := false, E := 15 } : T_limnographref20_Got), y21))
          else
          (some (({ B := p38.B, Is := true, E := 0 } : T_limnographref20_Got), y21))))) fun j1 =>
    if p17 ≥ 0 then
    ((catS x1 ([46, 110, 101, 119] : List UInt8)).bind fun z60 =>
      (m_limnographref18_Disk_Remove x0 z60).bind fun p61 =>
      if p61.1 ≠ 0 then
      (some (({ B := ([] : List UInt8), Is := false, E := p61.1 } : T_limnographref20_Got), p61.2))
      else
      (j1 p61.2))
    else
    (j1 x0))
def m_disk_Disk_Fail (x0 : PD) (x1 : Int) (x2 : Int) : Option PD :=
  if x0.calls < 4611686018427387904 then some (x0.fail x1 x2) else none
def m_limnographref18_Arm (x0 : Int) (x1 : Int) : Option Int :=
  if (x0 < 0) ∨ (x1 = 0) then
  (some (-1))
  else
  (some x0)
def m_disk_Disk_Crash (x0 : PD) (x1 : Int) : Option PD :=
  if x0.calls < 4611686018427387904 then some (x0.crash x1) else none
def m_disk_Disk_Boot (x0 : PD) (x1 : (List Int)) : Option (Int × PD) :=
  if ((∀ k ∈ x0.files.map (·.1), k.length ≤ 1000000) ∧ x0.files.length ≤ 1000000) ∧ (∀ p ∈ x0.files, p.2.sure ≤ p.2.data.length) ∧ x1.length ≤ 9223372036854775807 then some ((x0.boot x1).2, (x0.boot x1).1) else none
def m_limnographref18_Disk_Boot_L1 (x0 : T_limnographref18_Disk) (x1 : (List Int)) (j1 : (List T_limnographref18_File) → Option (Int × T_limnographref18_Disk)) : Nat → (List T_limnographref18_File) → Int → Option (Int × T_limnographref18_Disk)
  | 0, _, _ => none
  | n + 1, y28, y31 =>
    if y31 < ((({ L := x0.L, Capacity := x0.Capacity, Down := false, Calls := x0.Calls, Fail := (-1), Crash := (-1), Err := x0.Err } : T_limnographref18_Disk).L).length : Int) then
    ((idx (({ L := x0.L, Capacity := x0.Capacity, Down := false, Calls := x0.Calls, Fail := (-1), Crash := (-1), Err := x0.Err } : T_limnographref18_Disk).L) y31).bind fun z38 =>
      jn (fun (y48 : Bool) =>
        (jn (fun (y51 : Int) =>
            ((cutL z38.Data 0 y51).bind fun z54 =>
              (appL y28 ([({ Name := z38.Name, Data := z54, Sure := y51 } : T_limnographref18_File)] : List T_limnographref18_File)).bind fun z59 =>
              m_limnographref18_Disk_Boot_L1 x0 x1 j1 n z59 (W64 (y31 + 1)))) fun j3 =>
          if y48 = true then
          ((idx x1 y31).bind fun z63 =>
            if z63 > W64 ((z38.Data.length : Int) - z38.Sure) then
            (j3 (z38.Data.length : Int))
            else
            ((idx x1 y31).bind fun z67 =>
              j3 (W64 (z38.Sure + z67))))
          else
          (j3 z38.Sure))) fun j2 =>
      if y31 < (x1.length : Int) then
      ((idx x1 y31).bind fun z70 =>
        j2 (decide (z70 > 0)))
      else
      (j2 false))
    else
    (j1 y28)
def m_limnographref18_Disk_Boot (x0 : T_limnographref18_Disk) (x1 : (List Int)) : Option (Int × T_limnographref18_Disk) :=
  if (!x0.Down) = true then
  (some (16, x0))
  else
  (jn (fun (y17 : (List T_limnographref18_File)) =>
      (some (0, ({ L := y17, Capacity := ({ L := x0.L, Capacity := x0.Capacity, Down := false, Calls := x0.Calls, Fail := (-1), Crash := (-1), Err := x0.Err } : T_limnographref18_Disk).Capacity, Down := ({ L := x0.L, Capacity := x0.Capacity, Down := false, Calls := x0.Calls, Fail := (-1), Crash := (-1), Err := x0.Err } : T_limnographref18_Disk).Down, Calls := ({ L := x0.L, Capacity := x0.Capacity, Down := false, Calls := x0.Calls, Fail := (-1), Crash := (-1), Err := x0.Err } : T_limnographref18_Disk).Calls, Fail := ({ L := x0.L, Capacity := x0.Capacity, Down := false, Calls := x0.Calls, Fail := (-1), Crash := (-1), Err := x0.Err } : T_limnographref18_Disk).Fail, Crash := ({ L := x0.L, Capacity := x0.Capacity, Down := false, Calls := x0.Calls, Fail := (-1), Crash := (-1), Err := x0.Err } : T_limnographref18_Disk).Crash, Err := ({ L := x0.L, Capacity := x0.Capacity, Down := false, Calls := x0.Calls, Fail := (-1), Crash := (-1), Err := x0.Err } : T_limnographref18_Disk).Err } : T_limnographref18_Disk)))) fun j1 =>
    m_limnographref18_Disk_Boot_L1 x0 x1 j1 fuel ([] : List T_limnographref18_File) 0)
def m_disk_Disk_Calls (x0 : PD) : Option Int :=
  some (x0.calls : Int)
def m_disk_Disk_Names (x0 : PD) : Option (List (List UInt8)) :=
  if (∀ k ∈ x0.files.map (·.1), k.length ≤ 1000000) ∧ x0.files.length ≤ 1000000 then some x0.names else none
def m_limnographlaw20_same_L1 (x0 : PD) (x1 : T_limnographref18_Disk) (p14 : (List (List UInt8))) (j2 : Unit → Option Bool) : Nat → Int → Option Bool
  | 0, _ => none
  | n + 1, y19 =>
    if y19 < (p14.length : Int) then
    ((idx p14 y19).bind fun z22 =>
      (m_disk_Disk_Read x0 z22).bind fun p23 =>
      jn (fun (y26 : Bool) =>
        (if y26 = true then
          (some false)
          else
          (m_limnographlaw20_same_L1 x0 x1 p14 j2 n (W64 (y19 + 1))))) fun j3 =>
      (idx p14 y19).bind fun z30 =>
      (idx x1.L y19).bind fun z31 =>
      if z30 ≠ z31.Name then
      (j3 true)
      else
      ((idx x1.L y19).bind fun z37 =>
        j3 (decide (p23.1 ≠ z37.Data))))
    else
    (j2 ())
def m_limnographlaw20_same (x0 : PD) (x1 : T_limnographref18_Disk) : Option Bool :=
  jn (fun (y5 : Bool) =>
    (if y5 = true then
      (some false)
      else
      (if x1.Down = true then
        (some true)
        else
        ((m_disk_Disk_Names x0).bind fun p14 =>
          if (p14.length : Int) ≠ (x1.L.length : Int) then
          (some false)
          else
          (jn (fun (_ : Unit) =>
              (some true)) fun j2 =>
            m_limnographlaw20_same_L1 x0 x1 p14 j2 fuel 0))))) fun j1 =>
  (m_disk_Disk_Down x0).bind fun p48 =>
  if p48 ≠ x1.Down then
  (j1 true)
  else
  ((m_disk_Disk_Calls x0).bind fun p51 =>
    j1 (decide (p51 ≠ x1.Calls)))
def m_limnographlaw20_SnapPlays_L1 (x2 : (List T_limnographlaw20_Act)) (j3 : Unit → Option Bool) : Nat → Int → (Option PD) → (Option T_limnographref18_Disk) → Option Bool
  | 0, _, _, _ => none
  | n + 1, y28, y29, y30 =>
    if y28 < (x2.length : Int) then
    ((idx x2 y28).bind fun z33 =>
      if (((z33.B.length : Int) > 500) ∨ ((z33.Name.length : Int) > 100)) ∨ ((z33.Keep.length : Int) > 20) then
      (some true)
      else
      (jn (fun (y46 : (Option PD)) (y47 : (Option T_limnographref18_Disk)) =>
          ((y46).bind fun z50 =>
            (y47).bind fun z52 =>
            (m_limnographlaw20_same z50 z52).bind fun p49 =>
            if (!p49) = true then
            (some false)
            else
            (m_limnographlaw20_SnapPlays_L1 x2 j3 n (W64 (y28 + 1)) (some z50) (some z52)))) fun j4 =>
        if z33.Kind = 0 then
        (jn (fun (y61 : Bool) (y62 : (Option PD)) (y63 : (Option T_limnographref18_Disk)) =>
            (if y61 = true then
              (some false)
              else
              (j4 y62 y63))) fun j5 =>
          (lenS z33.B).bind fun z77 =>
          (y29).bind fun z80 =>
          (m_snap_Save z80 z33.Name z77).bind fun p79 =>
          (lenS z33.B).bind fun z87 =>
          (y30).bind fun z90 =>
          (m_limnographref20_Save z90 z33.Name z87).bind fun p89 =>
          j5 (decide (p79.1 ≠ p89.1)) (some p79.2) (some p89.2))
        else
        (if z33.Kind = 1 then
          ((y29).bind fun z177 =>
            (m_snap_Load z177 z33.Name).bind fun p176 =>
            (y30).bind fun z184 =>
            (m_limnographref20_Load z184 z33.Name).bind fun p183 =>
            if ((p176.1 ≠ p183.1.B) ∨ (p176.2.1 ≠ p183.1.Is)) ∨ (p176.2.2.1 ≠ p183.1.E) then
            (some false)
            else
            (j4 (some p176.2.2.2) (some p183.2)))
          else
          (if z33.Kind = 2 then
            ((y29).bind fun z204 =>
              (m_disk_Disk_Fail z204 z33.N z33.Code).bind fun p203 =>
              (m_limnographref18_Arm z33.N z33.Code).bind fun p209 =>
              (y30).bind fun z211 =>
              j4 (some p203) (some ({ L := z211.L, Capacity := z211.Capacity, Down := z211.Down, Calls := z211.Calls, Fail := p209, Crash := z211.Crash, Err := z33.Code } : T_limnographref18_Disk)))
            else
            (if z33.Kind = 3 then
              ((y29).bind fun z227 =>
                (m_disk_Disk_Crash z227 z33.N).bind fun p226 =>
                (m_limnographref18_Arm z33.N 13).bind fun p232 =>
                (y30).bind fun z234 =>
                j4 (some p226) (some ({ L := z234.L, Capacity := z234.Capacity, Down := z234.Down, Calls := z234.Calls, Fail := z234.Fail, Crash := p232, Err := z234.Err } : T_limnographref18_Disk)))
              else
              (if z33.Kind = 4 then
                ((y29).bind fun z259 =>
                  (m_disk_Disk_Boot z259 z33.Keep).bind fun p258 =>
                  (y30).bind fun z267 =>
                  (m_limnographref18_Disk_Boot z267 z33.Keep).bind fun p266 =>
                  if p258.1 ≠ p266.1 then
                  (some false)
                  else
                  (j4 (some p258.2) (some p266.2)))
                else
                (j4 y29 y30)))))))
    else
    (j3 ())
def m_limnographlaw20_SnapPlays (x0 : (List T_api_File)) (x1 : Int) (x2 : (List T_limnographlaw20_Act)) : Option Bool :=
  (m_limnographlaw20_awake ).bind fun p5 =>
  if (!p5) = true then
  (some false)
  else
  ((m_limnographref18_Bulk x0 2000).bind fun p8 =>
    if ((p8 > 2000) ∨ ((x0.length : Int) > 10)) ∨ ((x2.length : Int) > 30) then
    (some true)
    else
    ((m_disk_New x0 x1).bind fun p15 =>
      (m_limnographref18_New x0 x1).bind fun p18 =>
      jn (fun (y21 : Bool) =>
        (if y21 = true then
          (jn (fun (y24 : Bool) =>
              (some y24)) fun j2 =>
            if ((p15).isNone) = true then
            (j2 ((p18).isNone))
            else
            (j2 false))
          else
          (jn (fun (_ : Unit) =>
              (some true)) fun j3 =>
            m_limnographlaw20_SnapPlays_L1 x2 j3 fuel 0 p15 p18))) fun j1 =>
      if ((p15).isNone) = true then
      (j1 true)
      else
      (j1 ((p18).isNone))))
def m_limnographlaw20_SnapWhole (x0 : (List UInt8)) (x1 : (List UInt8)) (x2 : Int) (x3 : Int) (x4 : Int) (x5 : Int) (x6 : (List Int)) : Option Bool :=
  (m_limnographlaw20_awake ).bind fun p7 =>
  if (!p7) = true then
  (some false)
  else
  (if ((((x0.length : Int) > 1000) ∨ ((x1.length : Int) > 1000)) ∨ ((x6.length : Int) > 20)) ∨ (x5 = 13) then
    (some true)
    else
    ((m_disk_New ([] : List T_api_File) x2).bind fun p17 =>
      jn (fun (y22 : Bool) (y23 : (Option PD)) =>
        (if y22 = true then
          (jn (fun (y26 : Bool) =>
              (some y26)) fun j2 =>
            if ((y23).isNone) = true then
            (j2 true)
            else
            (j2 (decide (x2 < W64 (9 + (x0.length : Int))))))
          else
          ((y23).bind fun z30 =>
            (m_disk_Disk_Crash z30 x3).bind fun p29 =>
            (m_disk_Disk_Fail p29 x4 x5).bind fun p35 =>
            (m_snap_Save p35 ([115] : List UInt8) x1).bind fun p39 =>
            jn (fun (y46 : Bool) =>
              (if y46 = true then
                (some false)
                else
                ((m_disk_Disk_Down p39.2).bind fun p49 =>
                  jn (fun (y51 : PD) =>
                    ((m_disk_Disk_Boot y51 x6).bind fun p53 =>
                      if p53.1 ≠ 0 then
                      (some false)
                      else
                      ((m_snap_Load p53.2 ([115] : List UInt8)).bind fun p60 =>
                        jn (fun (y68 : Bool) =>
                          (if y68 = true then
                            (some false)
                            else
                            (if p39.1 = 0 then
                              (some (decide (p60.1 = x1)))
                              else
                              (if p39.1 = 13 then
                                (jn (fun (y74 : Bool) =>
                                    (some y74)) fun j6 =>
                                  if p60.1 = x1 then
                                  (j6 true)
                                  else
                                  (j6 (decide (p60.1 = x0))))
                                else
                                (some (decide (p60.1 = x0))))))) fun j5 =>
                        if ((!p60.2.1) = true) ∨ (p60.2.2.1 ≠ 0) then
                        (j5 true)
                        else
                        ((m_disk_Disk_Names p60.2.2.2).bind fun p78 =>
                          j5 (decide ((p78.length : Int) ≠ 1)))))) fun j4 =>
                  if (!p49) = true then
                  ((m_disk_Disk_Crash p39.2 0).bind fun p82 =>
                    (m_disk_Disk_Sync p82 ([115] : List UInt8)).bind fun p86 =>
                    j4 p86.2)
                  else
                  (j4 p39.2)))) fun j3 =>
            if p39.1 = 13 then
            ((m_disk_Disk_Down p39.2).bind fun p91 =>
              j3 (!p91))
            else
            (j3 false)))) fun j1 =>
      if ((p17).isNone) = true then
      (j1 true p17)
      else
      ((p17).bind fun z95 =>
        (m_snap_Save z95 ([115] : List UInt8) x0).bind fun p94 =>
        j1 (decide (p94.1 ≠ 0)) (some p94.2))))
end Go.Proofs.Ytknenggmdnpimaa
