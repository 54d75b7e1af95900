/-
  Plain forms of functions of the program: what each computes, told over lists and numbers. Printed by a program.
-/
import Derived.Test.YtopknmmckcijkaaWu
import Derived.Test.YtopknmmckcijkaaDk
set_option linter.unusedVariables false
set_option linter.unusedSimpArgs false
namespace Go.Proofs.Ytopknmmckcijkaa
open Go Go.RowKit Go.Wk
structure T_api_File where
  Name : (List UInt8)
  Data : (List UInt8)
  deriving DecidableEq
def T_api_File.rep : Rep T_api_File := Rep.map (fun x => (x.Name, x.Data)) (Rep.two textR (Rep.sl byteR))
structure T_wal_Log where
  name : (List UInt8)
  n : Int
  size : Int
  deriving DecidableEq
structure T_limnographref04_Got where
  B : (List UInt8)
  N : Int
  E : Int
  deriving DecidableEq
def T_limnographref04_Got.rep : Rep T_limnographref04_Got := Rep.map (fun x => (x.B, (x.N, x.E))) (Rep.two (Rep.sl byteR) (Rep.two (intR .i64) (intR .i64)))
structure T_limnographref04_Row where
  L : (List (List UInt8))
  Used : Int
  E : Int
  deriving DecidableEq
def T_limnographref04_Row.rep : Rep T_limnographref04_Row := Rep.map (fun x => (x.L, (x.Used, x.E))) (Rep.two (Rep.sl (Rep.sl byteR)) (Rep.two (intR .i64) (intR .i64)))
structure T_limnographref19_Got where
  L : (List (List UInt8))
  Used : Int
  E : Int
  deriving DecidableEq
def T_limnographref19_Got.rep : Rep T_limnographref19_Got := Rep.map (fun x => (x.L, (x.Used, x.E))) (Rep.two (Rep.sl (Rep.sl byteR)) (Rep.two (intR .i64) (intR .i64)))
def T_wal_Log.sh (b : Nat) (bD : Nat) (x : T_wal_Log) : List Rs → Prop := fun L => L = [boxR b 71 [.pointer (some ⟨bD, 0, none⟩), Str (x.name), .int .i64 (x.n), .int .i64 (x.size)]]
def T_wal_Log.obj (F : Nat → Prop) (b : Nat) (bD : Nat) (x : T_wal_Log) : Rs := objR F (T_wal_Log.sh b bD x)
def m_disk_New (x0 : (List T_api_File)) (x1 : Int) : Option (Option PD) :=
  if x0.length ≤ 1073741824 then some (newD (x0.map fun f : T_api_File => (f.Name, f.Data)) x1) else none
def m_disk_Disk_Read (x0 : PD) (x1 : (List UInt8)) : Option ((List UInt8) × Int) :=
  if x0.used ≤ x0.cap ∧ x0.cap ≤ 4194304 then some (if x0.down = true then (([] : List UInt8), (13 : Int)) else match findF x1 x0.files with | none => ([], 7) | some f => (f.data, 0)) else none
def m_disk_Disk_Create (x0 : PD) (x1 : (List UInt8)) : Option (Int × PD) :=
  if x0.calls < 4611686018427387904 then some ((x0.create x1).2, (x0.create x1).1) else none
def m_frame_number (x0 : (List UInt8)) : Option UInt32 :=
  (idx x0 0).bind fun z4 =>
  (idx x0 1).bind fun z7 =>
  (idx x0 2).bind fun z10 =>
  (idx x0 3).bind fun z13 =>
  some ((((toU32 ((z4).toNat : Int)) ||| ((toU32 ((z7).toNat : Int)) <<< UInt32.ofNat 8)) ||| ((toU32 ((z10).toNat : Int)) <<< UInt32.ofNat 16)) ||| ((toU32 ((z13).toNat : Int)) <<< UInt32.ofNat 24))
def m_crc_Of (x0 : (List UInt8)) : Option UInt32 :=
  if x0.length ≤ 1073741824 then some (moreC 0 x0) else none
def m_crc_More (x0 : UInt32) (x1 : (List UInt8)) : Option UInt32 :=
  if x1.length ≤ 1073741824 then some (moreC x0 x1) else none
def m_frame_sum (x0 : (List UInt8)) (x1 : (List UInt8)) : Option UInt32 :=
  (m_crc_Of x0).bind fun p5 =>
  (m_crc_More p5 x1).bind fun p7 =>
  some p7
def m_bytes_Clone (x0 : (List UInt8)) : Option (List UInt8) :=
  appL [] x0
def m_frame_First (x0 : (List UInt8)) : Option ((List UInt8) × Int × Int) :=
  if (x0.length : Int) = 0 then
  (some (([] : List UInt8), 0, 2))
  else
  ((idx x0 0).bind fun z6 =>
    if ((z6).toNat : Int) ≠ 165 then
    (some (([] : List UInt8), 0, 3))
    else
    (if (x0.length : Int) < 9 then
      (some (([] : List UInt8), 0, 2))
      else
      ((cutL x0 1 ((x0).length)).bind fun z14 =>
        (m_frame_number z14).bind fun p16 =>
        if ((p16).toNat : Int) > 65536 then
        (some (([] : List UInt8), 0, 4))
        else
        (if (p16.toNat : Int) > W64 ((x0.length : Int) - 9) then
          (some (([] : List UInt8), 0, 2))
          else
          ((cutL x0 0 5).bind fun z25 =>
            (cutL x0 9 (W64 (9 + (p16.toNat : Int)))).bind fun z27 =>
            (cutL x0 5 ((x0).length)).bind fun z29 =>
            (m_frame_sum z25 z27).bind fun p31 =>
            (m_frame_number z29).bind fun p33 =>
            if ((p31).toNat : Int) ≠ ((p33).toNat : Int) then
            (some (([] : List UInt8), 0, 5))
            else
            ((cutL x0 9 (W64 (9 + (p16.toNat : Int)))).bind fun z38 =>
              (m_bytes_Clone z38).bind fun p40 =>
              some (p40, W64 (9 + (p16.toNat : Int)), 0)))))))
def m_frame_Scan_L1 (x0 : (List UInt8)) : Nat → (List (List UInt8)) → Int → Option ((List (List UInt8)) × Int × Int)
  | 0, _, _ => none
  | n + 1, y3, y6 =>
    if y6 = (x0.length : Int) then
    (some (y3, y6, 0))
    else
    ((cutL x0 y6 ((x0).length)).bind fun z10 =>
      (m_frame_First z10).bind fun p12 =>
      if p12.2.2 = 0 then
      ((appL y3 [p12.1]).bind fun z18 =>
        m_frame_Scan_L1 x0 n z18 (W64 (y6 + p12.2.1)))
      else
      (some (y3, y6, p12.2.2)))
def m_frame_Scan (x0 : (List UInt8)) : Option ((List (List UInt8)) × Int × Int) :=
  m_frame_Scan_L1 x0 fuel ([] : List (List UInt8)) 0
def m_wal_Records (x0 : (List UInt8)) : Option ((List (List UInt8)) × Int × Int) :=
  (m_frame_Scan x0).bind fun p3 =>
  if (p3.2.2 ≠ 0) ∧ (p3.2.2 ≠ 2) then
  (some (([] : List (List UInt8)), 0, 15))
  else
  (some (p3.1, p3.2.1, 0))
def m_disk_Disk_Cut (x0 : PD) (x1 : (List UInt8)) (x2 : Int) : Option (Int × PD) :=
  if x0.calls < 4611686018427387904 then some ((x0.cut x1 x2).2, (x0.cut x1 x2).1) else none
def m_wal_Open (x0 : PD) (x1 : (List UInt8)) : Option ((Option T_wal_Log) × (List (List UInt8)) × Int × PD) :=
  (m_disk_Disk_Read x0 x1).bind fun p1 =>
  if p1.2 = 7 then
  ((m_disk_Disk_Create x0 x1).bind fun p5 =>
    if p5.1 ≠ 0 then
    (some ((none : Option T_wal_Log), ([] : List (List UInt8)), p5.1, p5.2))
    else
    (some ((some ({ name := x1, n := 0, size := 0 } : T_wal_Log)), ([] : List (List UInt8)), 0, p5.2)))
  else
  (if p1.2 ≠ 0 then
    (some ((none : Option T_wal_Log), ([] : List (List UInt8)), p1.2, x0))
    else
    ((m_wal_Records p1.1).bind fun p30 =>
      jn (fun (y37 : Int) (y38 : PD) =>
        (if y37 ≠ 0 then
          (some ((none : Option T_wal_Log), ([] : List (List UInt8)), y37, y38))
          else
          (some ((some ({ name := x1, n := (p30.1.length : Int), size := p30.2.1 } : T_wal_Log)), p30.1, 0, y38)))) fun j1 =>
      if (p30.2.2 = 0) ∧ (p30.2.1 < (p1.1.length : Int)) then
      ((m_disk_Disk_Cut x0 x1 p30.2.1).bind fun p54 =>
        j1 p54.1 p54.2)
      else
      (j1 p30.2.2 x0)))
def m_frame_four (x0 : UInt32) : Option (List UInt8) :=
  some ([toU8 ((x0).toNat : Int), toU8 ((x0 >>> UInt32.ofNat 8).toNat : Int), toU8 ((x0 >>> UInt32.ofNat 16).toNat : Int), toU8 ((x0 >>> UInt32.ofNat 24).toNat : Int)] : List UInt8)
def m_frame_Wrap (x0 : (List UInt8)) : Option ((List UInt8) × Int) :=
  if (x0.length : Int) > 65536 then
  (some (([] : List UInt8), 4))
  else
  ((m_frame_four (toU32 (x0.length : Int))).bind fun p9 =>
    (appL ([(165 : UInt8)] : List UInt8) p9).bind fun z12 =>
    (m_frame_sum z12 x0).bind fun p14 =>
    (m_frame_four p14).bind fun p16 =>
    (appL z12 p16).bind fun z19 =>
    (appL z19 x0).bind fun z21 =>
    some (z21, 0))
def m_disk_Disk_Append (x0 : PD) (x1 : (List UInt8)) (x2 : (List UInt8)) : Option (Int × PD) :=
  if x0.calls < 4611686018427387904 ∧ (x0.used ≤ x0.cap ∧ x0.cap ≤ 4194304) ∧ x2.length ≤ 1073741824 then some ((x0.append x1 x2).2, (x0.append x1 x2).1) else none
def m_wal_Log_Append (x0 : T_wal_Log) (x1 : (List UInt8)) (xD : PD) : Option (Int × T_wal_Log × PD) :=
  (m_frame_Wrap x1).bind fun p3 =>
  jn (fun (y8 : Int) (y9 : T_wal_Log) (y10 : PD) =>
    (jn (fun (y13 : T_wal_Log) =>
        (some (y8, y13, y10))) fun j2 =>
      if y8 = 0 then
      (j2 ({ name := y9.name, n := W64 (y9.n + 1), size := W64 (y9.size + (p3.1.length : Int)) } : T_wal_Log))
      else
      (j2 y9))) fun j1 =>
  if p3.2 = 0 then
  ((m_disk_Disk_Append xD x0.name p3.1).bind fun p28 =>
    j1 p28.1 x0 p28.2)
  else
  (j1 p3.2 x0 xD)
def m_disk_Disk_Sync (x0 : PD) (x1 : (List UInt8)) : Option (Int × PD) :=
  if x0.calls < 4611686018427387904 then some ((x0.sync x1).2, (x0.sync x1).1) else none
def m_wal_Log_Sync (x0 : T_wal_Log) (xD : PD) : Option (Int × PD) :=
  (m_disk_Disk_Sync xD x0.name).bind fun p5 =>
  some (p5.1, p5.2)
def m_disk_Disk_Crash (x0 : PD) (x1 : Int) : Option PD :=
  if x0.calls < 4611686018427387904 then some (x0.crash x1) else none
def m_disk_Disk_Boot (x0 : PD) (x1 : (List Int)) : Option (Int × PD) :=
  if ((∀ k ∈ x0.files.map (·.1), k.length ≤ 1000000) ∧ x0.files.length ≤ 1000000) ∧ (∀ p ∈ x0.files, p.2.sure ≤ p.2.data.length) ∧ x1.length ≤ 9223372036854775807 then some ((x0.boot x1).2, (x0.boot x1).1) else none
def m_wal_Log_Size (x0 : T_wal_Log) (xD : PD) : Option Int :=
  some x0.size
def m_disk_Disk_Used (x0 : PD) : Option Int :=
  if x0.used ≤ x0.cap ∧ x0.cap ≤ 4194304 then some ((if x0.down = true then 0 else x0.used : Nat) : Int) else none
def m_limnographlaw19_awake  : Option Bool :=
  (m_disk_New ([] : List T_api_File) 100).bind fun p1 =>
  if ((p1).isNone) = true then
  (some false)
  else
  ((p1).bind fun z8 =>
    (m_wal_Open z8 ([119] : List UInt8)).bind fun p7 =>
    jn (fun (y19 : Bool) (y20 : PD) (y21 : (Option T_wal_Log)) =>
      (jn (fun (y24 : Bool) (y25 : PD) =>
          (jn (fun (y27 : Bool) (y28 : PD) (y29 : (Option T_wal_Log)) =>
              (if y27 = true then
                (some false)
                else
                ((m_disk_Disk_Crash y28 0).bind fun p32 =>
                  (y29).bind fun z37 =>
                  (m_wal_Log_Sync z37 p32).bind fun p36 =>
                  (m_disk_Disk_Boot p36.2 ([5] : List Int)).bind fun p46 =>
                  (m_wal_Open p46.2 ([119] : List UInt8)).bind fun p54 =>
                  jn (fun (y67 : Bool) =>
                    (jn (fun (y72 : Bool) =>
                        (jn (fun (y77 : Bool) =>
                            (some y77)) fun j6 =>
                          if y72 = true then
                          ((m_disk_Disk_Used p54.2.2.2).bind fun p80 =>
                            j6 (decide (p80 = 10)))
                          else
                          (j6 false))) fun j5 =>
                      if y67 = true then
                      ((p54.1).bind fun z84 =>
                        (m_wal_Log_Size z84 p54.2.2.2).bind fun p83 =>
                        j5 (decide (p83 = 10)))
                      else
                      (j5 false))) fun j4 =>
                  if (((!((p54.1).isNone)) = true) ∧ (p54.2.2.1 = 0)) ∧ ((p54.2.1.length : Int) = 1) then
                  ((idx p54.2.1 0).bind fun z89 =>
                    j4 (decide (z89 = ([97] : List UInt8))))
                  else
                  (j4 false)))) fun j3 =>
            if y24 = true then
            (j3 true y25 y21)
            else
            ((y21).bind fun z100 =>
              (m_wal_Log_Append z100 ([(98 : UInt8)] : List UInt8) y25).bind fun p99 =>
              j3 (decide (p99.1 ≠ 0)) p99.2.2 (some p99.2.1)))) fun j2 =>
        if y19 = true then
        (j2 true y20)
        else
        ((y21).bind fun z112 =>
          (m_wal_Log_Sync z112 y20).bind fun p111 =>
          j2 (decide (p111.1 ≠ 0)) p111.2))) fun j1 =>
    if ((((p7.1).isNone) = true) ∨ ((p7.2.1.length : Int) > 0)) ∨ (p7.2.2.1 ≠ 0) then
    (j1 true p7.2.2.2 p7.1)
    else
    ((p7.1).bind fun z126 =>
      (m_wal_Log_Append z126 ([(97 : UInt8)] : List UInt8) p7.2.2.2).bind fun p125 =>
      j1 (decide (p125.1 ≠ 0)) p125.2.2 (some p125.2.1)))
def m_limnographref04_four (x0 : Int) : Option (List UInt8) :=
  (remZ x0 256).bind fun z1 =>
  (quoZ x0 256).bind fun z2 =>
  (remZ z2 256).bind fun z3 =>
  (quoZ x0 65536).bind fun z4 =>
  (remZ z4 256).bind fun z5 =>
  (quoZ x0 16777216).bind fun z6 =>
  some ([toU8 z1, toU8 z3, toU8 z5, toU8 z6] : List UInt8)
def m_limnographref03_Step (x0 : UInt32) : Option UInt32 :=
  (rem32 x0 (2 : UInt32)).bind fun z1 =>
  (quo32 x0 (2 : UInt32)).bind fun z2 =>
  jn (fun (y3 : UInt32) =>
    (some y3)) fun j1 =>
  if ((z1).toNat : Int) = 1 then
  (j1 (z2 ^^^ (2197175160 : UInt32)))
  else
  (j1 z2)
def m_limnographref03_More_L2 (j2 : UInt32 → Option UInt32) : Nat → UInt32 → Int → Option UInt32
  | 0, _, _ => none
  | n + 1, y13, y14 =>
    if y14 < 8 then
    ((m_limnographref03_Step y13).bind fun p17 =>
      m_limnographref03_More_L2 j2 n p17 (W64 (y14 + 1)))
    else
    (j2 y13)
def m_limnographref03_More_L1 (x1 : (List UInt8)) (j1 : UInt32 → Option UInt32) : Nat → UInt32 → Int → Option UInt32
  | 0, _, _ => none
  | n + 1, y5, y6 =>
    if y6 < (x1.length : Int) then
    ((idx x1 y6).bind fun z9 =>
      jn (fun (y11 : UInt32) =>
        (m_limnographref03_More_L1 x1 j1 n y11 (W64 (y6 + 1)))) fun j2 =>
      m_limnographref03_More_L2 j2 fuel (y5 ^^^ (toU32 ((z9).toNat : Int))) 0)
    else
    (j1 y5)
def m_limnographref03_More (x0 : UInt32) (x1 : (List UInt8)) : Option UInt32 :=
  jn (fun (y3 : UInt32) =>
    (some y3)) fun j1 =>
  m_limnographref03_More_L1 x1 j1 fuel x0 0
def m_limnographref03_Of (x0 : (List UInt8)) : Option UInt32 :=
  (m_limnographref03_More (4294967295 : UInt32) x0).bind fun p3 =>
  some ((4294967295 : UInt32) - p3)
def m_limnographref04_Wrap (x0 : (List UInt8)) : Option ((List UInt8) × Int) :=
  if (x0.length : Int) > 65536 then
  (some (([] : List UInt8), 4))
  else
  ((m_limnographref04_four (x0.length : Int)).bind fun p8 =>
    (catS ([165] : List UInt8) p8).bind fun z10 =>
    (catS z10 x0).bind fun z12 =>
    (lenS z12).bind fun z13 =>
    (m_limnographref03_Of z13).bind fun p15 =>
    (m_limnographref04_four (p15.toNat : Int)).bind fun p17 =>
    (catS z10 p17).bind fun z19 =>
    (catS z19 x0).bind fun z20 =>
    (lenS z20).bind fun z21 =>
    some (z21, 0))
def m_limnographref04_First_L1 (x0 : (List UInt8)) (x1 : Int) (j1 : Int → Option T_limnographref04_Got) : Nat → Int → Int → Option T_limnographref04_Got
  | 0, _, _ => none
  | n + 1, y62, y63 =>
    if y63 > 0 then
    ((idx x0 (W64 (x1 + y63))).bind fun z66 =>
      m_limnographref04_First_L1 x0 x1 j1 n (W64 ((W64 (256 * y62)) + (z66.toNat : Int))) (W64 (y63 - 1)))
    else
    (j1 y62)
def m_limnographref04_First (x0 : (List UInt8)) (x1 : Int) : Option T_limnographref04_Got :=
  if W64 ((x0.length : Int) - x1) < 1 then
  (some ({ B := ([] : List UInt8), N := 0, E := 2 } : T_limnographref04_Got))
  else
  ((idx x0 x1).bind fun z13 =>
    if ((z13).toNat : Int) ≠ 165 then
    (some ({ B := ([] : List UInt8), N := 0, E := 3 } : T_limnographref04_Got))
    else
    (if W64 ((x0.length : Int) - x1) < 9 then
      (some ({ B := ([] : List UInt8), N := 0, E := 2 } : T_limnographref04_Got))
      else
      (jn (fun (y29 : Int) =>
          (if y29 > 65536 then
            (some ({ B := ([] : List UInt8), N := 0, E := 4 } : T_limnographref04_Got))
            else
            (if W64 ((x0.length : Int) - x1) < W64 (9 + y29) then
              (some ({ B := ([] : List UInt8), N := 0, E := 2 } : T_limnographref04_Got))
              else
              ((cutL x0 (W64 (x1 + 9)) (W64 ((W64 (x1 + 9)) + y29))).bind fun z45 =>
                (m_limnographref04_Wrap z45).bind fun p47 =>
                (cutL x0 x1 (W64 ((W64 (x1 + 9)) + y29))).bind fun z51 =>
                if p47.1 ≠ z51 then
                (some ({ B := ([] : List UInt8), N := 0, E := 5 } : T_limnographref04_Got))
                else
                (some ({ B := z45, N := W64 (9 + y29), E := 0 } : T_limnographref04_Got)))))) fun j1 =>
        m_limnographref04_First_L1 x0 x1 j1 fuel 0 4)))
def m_limnographref04_Scan_L1 (x0 : (List UInt8)) (j1 : T_limnographref04_Row → Option T_limnographref04_Row) : Nat → T_limnographref04_Row → Option T_limnographref04_Row
  | 0, _ => none
  | n + 1, y17 =>
    if y17.Used < (x0.length : Int) then
    ((m_limnographref04_First x0 y17.Used).bind fun p24 =>
      if p24.E ≠ 0 then
      (some ({ L := y17.L, Used := y17.Used, E := p24.E } : T_limnographref04_Row))
      else
      ((appL y17.L [p24.B]).bind fun z37 =>
        m_limnographref04_Scan_L1 x0 j1 n ({ L := z37, Used := W64 (y17.Used + p24.N), E := y17.E } : T_limnographref04_Row)))
    else
    (j1 ({ L := y17.L, Used := y17.Used, E := y17.E } : T_limnographref04_Row))
def m_limnographref04_Scan (x0 : (List UInt8)) : Option T_limnographref04_Row :=
  jn (fun (y9 : T_limnographref04_Row) =>
    (some ({ L := y9.L, Used := y9.Used, E := y9.E } : T_limnographref04_Row))) fun j1 =>
  m_limnographref04_Scan_L1 x0 j1 fuel ({ L := ([] : List (List UInt8)), Used := 0, E := 0 } : T_limnographref04_Row)
def m_limnographref19_Records (x0 : (List UInt8)) : Option T_limnographref19_Got :=
  (m_limnographref04_Scan x0).bind fun p6 =>
  if (p6.E ≠ 0) ∧ (p6.E ≠ 2) then
  (some ({ L := ([] : List (List UInt8)), Used := 0, E := 15 } : T_limnographref19_Got))
  else
  (some ({ L := p6.L, Used := p6.Used, E := 0 } : T_limnographref19_Got))
def m_limnographref04_Same_L1 (x0 : (List (List UInt8))) (x1 : (List (List UInt8))) (j1 : Unit → Option Bool) : Nat → Int → Option Bool
  | 0, _ => none
  | n + 1, y7 =>
    if y7 < (x0.length : Int) then
    ((idx x0 y7).bind fun z11 =>
      (idx x1 y7).bind fun z16 =>
      if z11 ≠ z16 then
      (some false)
      else
      (m_limnographref04_Same_L1 x0 x1 j1 n (W64 (y7 + 1))))
    else
    (j1 ())
def m_limnographref04_Same (x0 : (List (List UInt8))) (x1 : (List (List UInt8))) : Option Bool :=
  if (x0.length : Int) ≠ (x1.length : Int) then
  (some false)
  else
  (jn (fun (_ : Unit) =>
      (some true)) fun j1 =>
    m_limnographref04_Same_L1 x0 x1 j1 fuel 0)
def m_limnographlaw19_WalRecords (x0 : (List UInt8)) : Option Bool :=
  (m_limnographlaw19_awake ).bind fun p3 =>
  if (!p3) = true then
  (some false)
  else
  (if (x0.length : Int) > 3000 then
    (some true)
    else
    ((m_wal_Records x0).bind fun p7 =>
      (m_limnographref19_Records x0).bind fun p10 =>
      (m_limnographref04_Same p7.1 p10.L).bind fun p16 =>
      some (decide (((p16 = true) ∧ (p7.2.1 = p10.Used)) ∧ (p7.2.2 = p10.E)))))
def m_disk_Disk_Names (x0 : PD) : Option (List (List UInt8)) :=
  if (∀ k ∈ x0.files.map (·.1), k.length ≤ 1000000) ∧ x0.files.length ≤ 1000000 then some x0.names else none
def m_wal_Log_Len (x0 : T_wal_Log) (xD : PD) : Option Int :=
  some x0.n
def m_wal_Log_Name (x0 : T_wal_Log) (xD : PD) : Option (List UInt8) :=
  some x0.name
def m_limnographlaw19_WalOpens (x0 : (List UInt8)) (x1 : Bool) (x2 : (List UInt8)) : Option Bool :=
  (m_limnographlaw19_awake ).bind fun p3 =>
  if (!p3) = true then
  (some false)
  else
  (if ((x0.length : Int) > 3000) ∨ ((x2.length : Int) > 100) then
    (some true)
    else
    (jn (fun (y12 : (List UInt8)) (y13 : (List T_api_File)) =>
        ((m_disk_New y13 10000).bind fun p17 =>
          if ((p17).isNone) = true then
          (some false)
          else
          ((p17).bind fun z22 =>
            (m_wal_Open z22 y12).bind fun p21 =>
            if (!x1) = true then
            (if p21.2.2.1 = 3 then
              (jn (fun (y33 : Bool) =>
                  (some y33)) fun j2 =>
                if ((p21.1).isNone) = true then
                ((m_disk_Disk_Names p21.2.2.2).bind fun p36 =>
                  j2 (decide ((p36.length : Int) = 0)))
                else
                (j2 false))
              else
              (jn (fun (y41 : Bool) =>
                  (jn (fun (y47 : Bool) =>
                      (jn (fun (y51 : Bool) =>
                          (jn (fun (y55 : Bool) =>
                              (jn (fun (y59 : Bool) =>
                                  (some y59)) fun j7 =>
                                if y55 = true then
                                ((m_disk_Disk_Names p21.2.2.2).bind fun p62 =>
                                  j7 (decide ((p62.length : Int) = 1)))
                                else
                                (j7 false))) fun j6 =>
                            if y51 = true then
                            ((p21.1).bind fun z67 =>
                              (m_wal_Log_Name z67 p21.2.2.2).bind fun p66 =>
                              j6 (decide (p66 = y12)))
                            else
                            (j6 false))) fun j5 =>
                        if y47 = true then
                        ((p21.1).bind fun z73 =>
                          (m_wal_Log_Size z73 p21.2.2.2).bind fun p72 =>
                          j5 (decide (p72 = 0)))
                        else
                        (j5 false))) fun j4 =>
                    if (y41 = true) ∧ ((p21.2.1.length : Int) = 0) then
                    ((p21.1).bind fun z79 =>
                      (m_wal_Log_Len z79 p21.2.2.2).bind fun p78 =>
                      j4 (decide (p78 = 0)))
                    else
                    (j4 false))) fun j3 =>
                if p21.2.2.1 = 0 then
                (j3 (!((p21.1).isNone)))
                else
                (j3 false)))
            else
            ((m_limnographref19_Records x0).bind fun p84 =>
              (m_disk_Disk_Read p21.2.2.2 ([119] : List UInt8)).bind fun p90 =>
              if p84.E ≠ 0 then
              (jn (fun (y100 : Bool) =>
                  (some y100)) fun j8 =>
                if ((((p21.1).isNone) = true) ∧ ((p21.2.1.length : Int) = 0)) ∧ (p21.2.2.1 = 15) then
                (j8 (decide (p90.1 = x0)))
                else
                (j8 false))
              else
              (if (!((p21.1).isNone)) = true then
                (if p21.2.2.1 = 0 then
                  ((m_limnographref04_Same p21.2.1 p84.L).bind fun p106 =>
                    if p106 = true then
                    ((p21.1).bind fun z110 =>
                      (m_wal_Log_Len z110 p21.2.2.2).bind fun p109 =>
                      if p109 = (p84.L.length : Int) then
                      ((m_wal_Log_Size z110 p21.2.2.2).bind fun p114 =>
                        if p114 = p84.Used then
                        ((cutL x0 0 p84.Used).bind fun z117 =>
                          some (decide (p90.1 = z117)))
                        else
                        (some false))
                      else
                      (some false))
                    else
                    (some false))
                  else
                  (some false))
                else
                (some false)))))) fun j1 =>
      if (!x1) = true then
      (j1 x2 ([] : List T_api_File))
      else
      (j1 ([119] : List UInt8) ([({ Name := ([119] : List UInt8), Data := x0 } : T_api_File)] : List T_api_File))))
def m_limnographref04_Bulk_L1 (x0 : (List (List UInt8))) (x1 : Int) (j1 : Int → Option Int) : Nat → Int → Int → Option Int
  | 0, _, _ => none
  | n + 1, y5, y6 =>
    if (y6 < (x0.length : Int)) ∧ (y5 ≤ x1) then
    ((idx x0 y6).bind fun z11 =>
      m_limnographref04_Bulk_L1 x0 x1 j1 n (W64 ((W64 (y5 + 1)) + (min (z11.length : Int) (W64 (x1 + 1))))) (W64 (y6 + 1)))
    else
    (j1 y5)
def m_limnographref04_Bulk (x0 : (List (List UInt8))) (x1 : Int) : Option Int :=
  jn (fun (y3 : Int) =>
    (some y3)) fun j1 =>
  m_limnographref04_Bulk_L1 x0 x1 j1 fuel 0 0
def m_disk_Disk_Down (x0 : PD) : Option Bool :=
  some x0.down
def m_disk_Disk_Size (x0 : PD) (x1 : (List UInt8)) : Option (Int × Int × Int) :=
  some (if x0.down = true then ((0 : Int), (0 : Int), (13 : Int)) else match findF x1 x0.files with | none => (0, 0, 7) | some f => (f.data.length, f.sure, 0))
def m_limnographlaw19_WalKeeps_L2 (x1 : (List Int)) (y178 : Int) (p194 : (Int × T_wal_Log × PD)) (y203 : (List (List UInt8))) (j11 : Int → PD → Option Bool) : Nat → Int → Int → PD → Option Bool
  | 0, _, _, _ => none
  | n + 1, y214, y215, y216 =>
    if y215 < (x1.length : Int) then
    (jn (fun (y220 : Int) (y221 : PD) =>
        (m_limnographlaw19_WalKeeps_L2 x1 y178 p194 y203 j11 n y220 (W64 (y215 + 1)) y221)) fun j12 =>
      (idx x1 y215).bind fun z223 =>
      jn (fun (y226 : Bool) (y227 : PD) =>
        (if y226 = true then
          (j12 (y203.length : Int) y227)
          else
          (j12 y214 y227))) fun j13 =>
      if z223 = y178 then
      ((m_wal_Log_Sync p194.2.1 y216).bind fun p231 =>
        j13 (decide (p231.1 = 0)) p231.2)
      else
      (j13 false y216))
    else
    (j11 y214 y216)
def m_limnographlaw19_WalKeeps_L1 (x0 : (List (List UInt8))) (x1 : (List Int)) (j2 : (List (List UInt8)) → Int → PD → (Option T_wal_Log) → Option Bool) : Nat → (List (List UInt8)) → Int → Int → PD → (Option T_wal_Log) → Option Bool
  | 0, _, _, _, _, _ => none
  | n + 1, y174, y177, y178, y179, y180 =>
    if y178 < (x0.length : Int) then
    ((y180).bind fun z186 =>
      (m_wal_Log_Size z186 y179).bind fun p185 =>
      (idx x0 y178).bind fun z189 =>
      (m_wal_Log_Append z186 z189 y179).bind fun p194 =>
      jn (fun (y203 : (List (List UInt8))) =>
        (jn (fun (y208 : Int) (y209 : PD) =>
            (m_limnographlaw19_WalKeeps_L1 x0 x1 j2 n y203 y208 (W64 (y178 + 1)) y209 (some p194.2.1))) fun j11 =>
          m_limnographlaw19_WalKeeps_L2 x1 y178 p194 y203 j11 fuel y177 0 p194.2.2)) fun j10 =>
      if p194.1 = 0 then
      ((idx x0 y178).bind fun z237 =>
        (appL y174 [z237]).bind fun z242 =>
        j10 z242)
      else
      ((m_wal_Log_Size p194.2.1 p194.2.2).bind fun p244 =>
        if (p244 ≠ p185) ∨ ((p194.1 ≠ 12) ∧ (p194.1 ≠ 13)) then
        (some false)
        else
        (j10 y174)))
    else
    (j2 y174 y177 y179 y180)
def m_limnographlaw19_WalKeeps (x0 : (List (List UInt8))) (x1 : (List Int)) (x2 : Int) (x3 : (List Int)) (x4 : Int) : Option Bool :=
  (m_limnographlaw19_awake ).bind fun p7 =>
  if (!p7) = true then
  (some false)
  else
  (jn (fun (y14 : Bool) =>
      (if y14 = true then
        (some true)
        else
        ((m_disk_New ([] : List T_api_File) x4).bind fun p17 =>
          if ((p17).isNone) = true then
          (some true)
          else
          ((p17).bind fun z24 =>
            (m_wal_Open z24 ([119] : List UInt8)).bind fun p23 =>
            if (((p23.1).isNone) = true) ∨ (p23.2.2.1 ≠ 0) then
            (some false)
            else
            ((m_disk_Disk_Crash p23.2.2.2 x2).bind fun p34 =>
              jn (fun (y38 : (List (List UInt8))) (y41 : Int) (y42 : PD) (y43 : (Option T_wal_Log)) =>
                ((y43).bind fun z46 =>
                  (m_wal_Log_Len z46 y42).bind fun p45 =>
                  if p45 ≠ (y38.length : Int) then
                  (some false)
                  else
                  ((m_disk_Disk_Down y42).bind fun p50 =>
                    jn (fun (y53 : PD) =>
                      ((m_disk_Disk_Boot y53 x3).bind fun p55 =>
                        if p55.1 ≠ 0 then
                        (some false)
                        else
                        ((m_wal_Open p55.2 ([119] : List UInt8)).bind fun p62 =>
                          jn (fun (y77 : Bool) =>
                            (jn (fun (y82 : Bool) =>
                                (if y82 = true then
                                  (some false)
                                  else
                                  ((m_disk_Disk_Size p62.2.2.2 ([119] : List UInt8)).bind fun p85 =>
                                    (p62.1).bind fun z88 =>
                                    (m_wal_Log_Size z88 p62.2.2.2).bind fun p87 =>
                                    jn (fun (y92 : Bool) (y93 : T_wal_Log) (y94 : PD) =>
                                      (if y92 = true then
                                        (some false)
                                        else
                                        ((m_wal_Open y94 ([119] : List UInt8)).bind fun p97 =>
                                          jn (fun (y109 : Bool) =>
                                            (jn (fun (y115 : Bool) =>
                                                (some y115)) fun j8 =>
                                              if y109 = true then
                                              ((cutL p97.2.1 0 (p62.2.1.length : Int)).bind fun z118 =>
                                                (m_limnographref04_Same z118 p62.2.1).bind fun p122 =>
                                                j8 p122)
                                              else
                                              (j8 false))) fun j7 =>
                                          if ((!((p97.1).isNone)) = true) ∧ (p97.2.2.1 = 0) then
                                          ((p97.1).bind fun z126 =>
                                            (m_wal_Log_Len z126 p97.2.2.2).bind fun p125 =>
                                            (m_wal_Log_Len y93 p97.2.2.2).bind fun p129 =>
                                            j7 (decide (p125 = p129)))
                                          else
                                          (j7 false)))) fun j6 =>
                                    if p85.1 ≠ p87 then
                                    (j6 true z88 p62.2.2.2)
                                    else
                                    ((m_wal_Log_Append z88 ([(109 : UInt8), (111 : UInt8), (114 : UInt8), (101 : UInt8)] : List UInt8) p62.2.2.2).bind fun p138 =>
                                      jn (fun (y148 : Bool) =>
                                        (j6 y148 p138.2.1 p138.2.2)) fun j9 =>
                                      if p138.1 ≠ 0 then
                                      (j9 (decide (W64 (p85.1 + 13) ≤ x4)))
                                      else
                                      (j9 false))))) fun j5 =>
                              if y77 = true then
                              (j5 true)
                              else
                              ((p62.1).bind fun z153 =>
                                (m_wal_Log_Len z153 p62.2.2.2).bind fun p152 =>
                                j5 (decide (p152 ≠ (p62.2.1.length : Int)))))) fun j4 =>
                          if (((((p62.1).isNone) = true) ∨ (p62.2.2.1 ≠ 0)) ∨ ((p62.2.1.length : Int) < y41)) ∨ ((p62.2.1.length : Int) > (y38.length : Int)) then
                          (j4 true)
                          else
                          ((cutL y38 0 (p62.2.1.length : Int)).bind fun z158 =>
                            (m_limnographref04_Same p62.2.1 z158).bind fun p162 =>
                            j4 (!p162))))) fun j3 =>
                    if (!p50) = true then
                    ((m_disk_Disk_Crash y42 0).bind fun p165 =>
                      (m_wal_Log_Sync z46 p165).bind fun p169 =>
                      j3 p169.2)
                    else
                    (j3 y42)))) fun j2 =>
              m_limnographlaw19_WalKeeps_L1 x0 x1 j2 fuel ([] : List (List UInt8)) 0 0 p34 p23.1))))) fun j1 =>
    if (((x0.length : Int) > 40) ∨ ((x1.length : Int) > 100)) ∨ ((x3.length : Int) > 10) then
    (j1 true)
    else
    ((m_limnographref04_Bulk x0 8000).bind fun p252 =>
      j1 (decide (p252 > 8000))))
end Go.Proofs.Ytopknmmckcijkaa
