/-
  Plain forms of functions of the program: what each computes, told over lists and numbers. Printed by a program.
-/
import Derived.Test.YtpeloppldpdonaaWt
import Derived.Test.YtpeloppldpdonaaDk
namespace Go.Proofs.Ytpeloppldpdonaa
open Go Go.RowKit Go.Wk
structure T_api_File where
  Name : (List UInt8)
  Data : (List UInt8)
  deriving DecidableEq
def T_api_File.rep : Rep T_api_File := Rep.map (fun x => (x.Name, x.Data)) (Rep.two textR (Rep.sl byteR))
structure T_ship_Sender where
  ack : Int
  deriving DecidableEq
structure T_pack_Reader where
  b : (List UInt8)
  at_ : Int
  e : Int
  deriving DecidableEq
def T_pack_Reader.rep : Rep T_pack_Reader := Rep.map (fun x => (x.b, (x.at_, x.e))) (Rep.two (Rep.sl byteR) (Rep.two (intR .i64) (intR .i64)))
structure T_pack_Writer where
  b : (List UInt8)
  deriving DecidableEq
def T_pack_Writer.rep : Rep T_pack_Writer := Rep.map (fun x => x.b) (Rep.sl byteR)
structure T_api_Span where
  First : Int
  End : Int
  deriving DecidableEq
def T_api_Span.rep : Rep T_api_Span := Rep.map (fun x => (x.First, x.End)) (Rep.two (intR .i64) (intR .i64))
theorem T_api_Span.flat : T_api_Span.rep.Flat := map_flat _ (two_flat (int_flat _) (int_flat _))
structure T_limnographref18_File where
  Name : (List UInt8)
  Data : (List UInt8)
  Sure : Int
  deriving DecidableEq
def T_limnographref18_File.rep : Rep T_limnographref18_File := Rep.map (fun x => (x.Name, (x.Data, x.Sure))) (Rep.two textR (Rep.two (Rep.sl byteR) (intR .i64)))
structure T_limnographref18_Disk where
  L : (List T_limnographref18_File)
  Capacity : Int
  Down : Bool
  Calls : Int
  Fail : Int
  Crash : Int
  Err : Int
  deriving DecidableEq
def T_limnographref18_Disk.rep : Rep T_limnographref18_Disk := Rep.map (fun x => (x.L, (x.Capacity, (x.Down, (x.Calls, (x.Fail, (x.Crash, x.Err))))))) (Rep.two (Rep.sl T_limnographref18_File.rep) (Rep.two (intR .i64) (Rep.two boolR (Rep.two (intR .i64) (Rep.two (intR .i64) (Rep.two (intR .i64) (intR .i64)))))))
structure T_limnographref20_Got where
  B : (List UInt8)
  Is : Bool
  E : Int
  deriving DecidableEq
def T_limnographref20_Got.rep : Rep T_limnographref20_Got := Rep.map (fun x => (x.B, (x.Is, x.E))) (Rep.two (Rep.sl byteR) (Rep.two boolR (intR .i64)))
structure T_limnographref04_Got where
  B : (List UInt8)
  N : Int
  E : Int
  deriving DecidableEq
def T_limnographref04_Got.rep : Rep T_limnographref04_Got := Rep.map (fun x => (x.B, (x.N, x.E))) (Rep.two (Rep.sl byteR) (Rep.two (intR .i64) (intR .i64)))
structure T_limnographref25_Got where
  Ack : Int
  Is : Bool
  E : Int
  deriving DecidableEq
def T_limnographref25_Got.rep : Rep T_limnographref25_Got := Rep.map (fun x => (x.Ack, (x.Is, x.E))) (Rep.two (intR .i64) (Rep.two boolR (intR .i64)))
theorem T_limnographref25_Got.flat : T_limnographref25_Got.rep.Flat := map_flat _ (two_flat (int_flat _) (two_flat bool_flat (int_flat _)))
structure T_limnographref02_Got where
  V : UInt64
  N : Int
  E : Int
  deriving DecidableEq
def T_limnographref02_Got.rep : Rep T_limnographref02_Got := Rep.map (fun x => (x.V, (x.N, x.E))) (Rep.two w64R (Rep.two (intR .i64) (intR .i64)))
theorem T_limnographref02_Got.flat : T_limnographref02_Got.rep.Flat := map_flat _ (two_flat w64_flat (two_flat (int_flat _) (int_flat _)))
def T_pack_Reader.sh (b : Nat) (x : T_pack_Reader) : List Rs → Prop := fun L => ∃ (A1_0 : Option Addr) (c1_0 : Nat), L = [boxR b 95 [.slice A1_0 (x.b).length c1_0, .int .i64 (x.at_), .int .i64 (x.e)], slR A1_0 c1_0 byteR x.b]
def T_pack_Reader.obj (F : Nat → Prop) (b : Nat) (x : T_pack_Reader) : Rs := objR F (T_pack_Reader.sh b x)
def T_ship_Sender.sh (b : Nat) (bD : Nat) (x : T_ship_Sender) : List Rs → Prop := fun L => L = [boxR b 70 [.pointer (some ⟨bD, 0, none⟩), .int .i64 (x.ack)]]
def T_ship_Sender.obj (F : Nat → Prop) (b : Nat) (bD : Nat) (x : T_ship_Sender) : Rs := objR F (T_ship_Sender.sh b bD x)
def T_pack_Writer.sh (b : Nat) (x : T_pack_Writer) : List Rs → Prop := fun L => ∃ (A1_0 : Option Addr) (c1_0 : Nat), L = [boxR b 102 [.slice A1_0 (x.b).length c1_0], ownR 5 A1_0 c1_0 byteR x.b]
def T_pack_Writer.obj (F : Nat → Prop) (b : Nat) (x : T_pack_Writer) : Rs := objR F (T_pack_Writer.sh b x)
def T_limnographref18_Disk.sh (b : Nat) (x : T_limnographref18_Disk) : List Rs → Prop := fun L => ∃ (A1_0 : Option Addr) (c1_0 : Nat), L = [boxR b 62 [.slice A1_0 (x.L).length c1_0, .int .i64 (x.Capacity), .bool (x.Down), .int .i64 (x.Calls), .int .i64 (x.Fail), .int .i64 (x.Crash), .int .i64 (x.Err)], ownR 66 A1_0 c1_0 T_limnographref18_File.rep x.L]
def T_limnographref18_Disk.obj (F : Nat → Prop) (b : Nat) (x : T_limnographref18_Disk) : Rs := objR F (T_limnographref18_Disk.sh b x)
def m_disk_New (x0 : (List T_api_File)) (x1 : Int) : Option (Option PD) :=
  if x0.length ≤ 1073741824 then some (newD (x0.map fun f : T_api_File => (f.Name, f.Data)) x1) else none
def m_disk_Disk_Down (x0 : PD) : Option Bool :=
  some x0.down
def m_disk_Disk_Size (x0 : PD) (x1 : (List UInt8)) : Option (Int × Int × Int) :=
  some (if x0.down = true then ((0 : Int), (0 : Int), (13 : Int)) else match findF x1 x0.files with | none => (0, 0, 7) | some f => (f.data.length, f.sure, 0))
def m_snap_there (x0 : PD) (x1 : (List UInt8)) : Option Bool :=
  (m_disk_Disk_Size x0 x1).bind fun p3 =>
  some (decide (p3.2.2 = 0))
def m_disk_Disk_Remove (x0 : PD) (x1 : (List UInt8)) : Option (Int × PD) :=
  if x0.calls < 4611686018427387904 then some ((x0.remove x1).2, (x0.remove x1).1) else none
def m_disk_Disk_Read (x0 : PD) (x1 : (List UInt8)) : Option ((List UInt8) × Int) :=
  if x0.used ≤ x0.cap ∧ x0.cap ≤ 4194304 then some (if x0.down = true then (([] : List UInt8), (13 : Int)) else match findF x1 x0.files with | none => ([], 7) | some f => (f.data, 0)) else none
def m_frame_number (x0 : (List UInt8)) : Option UInt32 :=
  (idx x0 0).bind fun z4 =>
  (idx x0 1).bind fun z7 =>
  (idx x0 2).bind fun z10 =>
  (idx x0 3).bind fun z13 =>
  some ((((toU32 ((z4).toNat : Int)) ||| ((toU32 ((z7).toNat : Int)) <<< UInt32.ofNat 8)) ||| ((toU32 ((z10).toNat : Int)) <<< UInt32.ofNat 16)) ||| ((toU32 ((z13).toNat : Int)) <<< UInt32.ofNat 24))
def m_crc_Of (x0 : (List UInt8)) : Option UInt32 :=
  if x0.length ≤ 1073741824 then some (moreC 0 x0) else none
def m_crc_More (x0 : UInt32) (x1 : (List UInt8)) : Option UInt32 :=
  if x1.length ≤ 1073741824 then some (moreC x0 x1) else none
def m_frame_sum (x0 : (List UInt8)) (x1 : (List UInt8)) : Option UInt32 :=
  (m_crc_Of x0).bind fun p5 =>
  (m_crc_More p5 x1).bind fun p7 =>
  some p7
def m_bytes_Clone (x0 : (List UInt8)) : Option (List UInt8) :=
  appL [] x0
def m_frame_First (x0 : (List UInt8)) : Option ((List UInt8) × Int × Int) :=
  if (x0.length : Int) = 0 then
  (some (([] : List UInt8), 0, 2))
  else
  ((idx x0 0).bind fun z6 =>
    if ((z6).toNat : Int) ≠ 165 then
    (some (([] : List UInt8), 0, 3))
    else
    (if (x0.length : Int) < 9 then
      (some (([] : List UInt8), 0, 2))
      else
      ((cutL x0 1 ((x0).length)).bind fun z14 =>
        (m_frame_number z14).bind fun p16 =>
        if ((p16).toNat : Int) > 65536 then
        (some (([] : List UInt8), 0, 4))
        else
        (if (p16.toNat : Int) > W64 ((x0.length : Int) - 9) then
          (some (([] : List UInt8), 0, 2))
          else
          ((cutL x0 0 5).bind fun z25 =>
            (cutL x0 9 (W64 (9 + (p16.toNat : Int)))).bind fun z27 =>
            (cutL x0 5 ((x0).length)).bind fun z29 =>
            (m_frame_sum z25 z27).bind fun p31 =>
            (m_frame_number z29).bind fun p33 =>
            if ((p31).toNat : Int) ≠ ((p33).toNat : Int) then
            (some (([] : List UInt8), 0, 5))
            else
            ((cutL x0 9 (W64 (9 + (p16.toNat : Int)))).bind fun z38 =>
              (m_bytes_Clone z38).bind fun p40 =>
              some (p40, W64 (9 + (p16.toNat : Int)), 0)))))))
def m_snap_Load (x0 : PD) (x1 : (List UInt8)) : Option ((List UInt8) × Bool × Int × PD) :=
  (m_disk_Disk_Down x0).bind fun p2 =>
  if p2 = true then
  (some (([] : List UInt8), false, 13, x0))
  else
  ((catS x1 ([46, 110, 101, 119] : List UInt8)).bind fun z7 =>
    (m_snap_there x0 z7).bind fun p8 =>
    jn (fun (y10 : PD) =>
      ((m_disk_Disk_Read y10 x1).bind fun p12 =>
        if p12.2 = 7 then
        (some (([] : List UInt8), false, 0, y10))
        else
        ((m_frame_First p12.1).bind fun p18 =>
          if (p18.2.2 ≠ 0) ∨ (p18.2.1 ≠ (p12.1.length : Int)) then
          (some (([] : List UInt8), false, 15, y10))
          else
          (some (p18.1, true, 0, y10))))) fun j1 =>
    if p8 = true then
    ((catS x1 ([46, 110, 101, 119] : List UInt8)).bind fun z27 =>
      (m_disk_Disk_Remove x0 z27).bind fun p28 =>
      if p28.1 ≠ 0 then
      (some (([] : List UInt8), false, p28.1, p28.2))
      else
      (j1 p28.2))
    else
    (j1 x0))
def m_pack_NewReader (x0 : (List UInt8)) : Option T_pack_Reader :=
  (m_bytes_Clone x0).bind fun p3 =>
  some ({ b := p3, at_ := 0, e := 0 } : T_pack_Reader)
def m_pack_Reader_fail (x0 : T_pack_Reader) (x1 : Int) : Option T_pack_Reader :=
  if x0.e = 0 then
  (some ({ b := x0.b, at_ := x0.at_, e := x1 } : T_pack_Reader))
  else
  (some x0)
def m_pack_Reader_Left (x0 : T_pack_Reader) : Option Int :=
  some (W64 ((x0.b.length : Int) - x0.at_))
def m_pack_Reader_Raw (x0 : T_pack_Reader) (x1 : Int) : Option ((List UInt8) × T_pack_Reader) :=
  if x0.e ≠ 0 then
  (some (([] : List UInt8), x0))
  else
  (if x1 < 0 then
    ((m_pack_Reader_fail x0 1).bind fun p12 =>
      some (([] : List UInt8), p12))
    else
    ((m_pack_Reader_Left x0).bind fun p22 =>
      if x1 > p22 then
      ((m_pack_Reader_fail x0 2).bind fun p29 =>
        some (([] : List UInt8), p29))
      else
      ((cutL x0.b (W64 ((W64 (x0.at_ + x1)) - x1)) (W64 (x0.at_ + x1))).bind fun z40 =>
        (m_bytes_Clone z40).bind fun p42 =>
        some (p42, ({ b := x0.b, at_ := W64 (x0.at_ + x1), e := x0.e } : T_pack_Reader)))))
def m_pack_Reader_Fix_L1 (p2 : ((List UInt8) × T_pack_Reader)) (j1 : UInt64 → Option (UInt64 × T_pack_Reader)) : Nat → UInt64 → Int → Option (UInt64 × T_pack_Reader)
  | 0, _, _ => none
  | n + 1, y11, y12 =>
    if y12 < (p2.1.length : Int) then
    ((idx p2.1 y12).bind fun z15 =>
      m_pack_Reader_Fix_L1 p2 j1 n (y11 ||| (shl64 (toU64 ((z15).toNat : Int)) ((toU64 (W64 (8 * y12))).toNat))) (W64 (y12 + 1)))
    else
    (j1 y11)
def m_pack_Reader_Fix (x0 : T_pack_Reader) : Option (UInt64 × T_pack_Reader) :=
  (m_pack_Reader_Raw x0 8).bind fun p2 =>
  jn (fun (y8 : UInt64) =>
    (some (y8, p2.2))) fun j1 =>
  m_pack_Reader_Fix_L1 p2 j1 fuel (0 : UInt64) 0
def m_pack_Reader_Done (x0 : T_pack_Reader) : Option Int :=
  jn (fun (y8 : Bool) =>
    (if y8 = true then
      (some 3)
      else
      (some x0.e))) fun j1 =>
  if x0.e = 0 then
  ((m_pack_Reader_Left x0).bind fun p12 =>
    j1 (decide (p12 > 0)))
  else
  (j1 false)
def m_ship_Open (x0 : PD) : Option ((Option T_ship_Sender) × Int × PD) :=
  (m_snap_Load x0 ([97, 99, 107] : List UInt8)).bind fun p1 =>
  if p1.2.2.1 ≠ 0 then
  (some ((none : Option T_ship_Sender), p1.2.2.1, p1.2.2.2))
  else
  (if (!p1.2.1) = true then
    (some ((some ({ ack := 0 } : T_ship_Sender)), 0, p1.2.2.2))
    else
    ((m_pack_NewReader p1.1).bind fun p18 =>
      (m_pack_Reader_Fix p18).bind fun p23 =>
      (m_pack_Reader_Done p23.2).bind fun p27 =>
      if (p27 ≠ 0) ∨ (((p23.1).toNat : Int) > 4503599627370497) then
      (some ((none : Option T_ship_Sender), 15, p1.2.2.2))
      else
      (some ((some ({ ack := W64 ((p23.1).toNat : Int) } : T_ship_Sender)), 0, p1.2.2.2))))
def m_pack_NewWriter  : Option T_pack_Writer :=
  some ({ b := ([] : List UInt8) } : T_pack_Writer)
def m_pack_Writer_Fix_L1 (x1 : UInt64) (j1 : T_pack_Writer → Option T_pack_Writer) : Nat → Int → T_pack_Writer → Option T_pack_Writer
  | 0, _, _ => none
  | n + 1, y4, y5 =>
    if y4 < 8 then
    ((appL y5.b [toU8 ((shr64 x1 ((toU64 (W64 (8 * y4))).toNat)).toNat : Int)]).bind fun z10 =>
      m_pack_Writer_Fix_L1 x1 j1 n (W64 (y4 + 1)) ({ b := z10 } : T_pack_Writer))
    else
    (j1 y5)
def m_pack_Writer_Fix (x0 : T_pack_Writer) (x1 : UInt64) : Option T_pack_Writer :=
  jn (fun (y2 : T_pack_Writer) =>
    (some y2)) fun j1 =>
  m_pack_Writer_Fix_L1 x1 j1 fuel 0 x0
def m_pack_Writer_Bytes (x0 : T_pack_Writer) : Option (List UInt8) :=
  (m_bytes_Clone x0.b).bind fun p8 =>
  some p8
def m_frame_four (x0 : UInt32) : Option (List UInt8) :=
  some ([toU8 ((x0).toNat : Int), toU8 ((x0 >>> UInt32.ofNat 8).toNat : Int), toU8 ((x0 >>> UInt32.ofNat 16).toNat : Int), toU8 ((x0 >>> UInt32.ofNat 24).toNat : Int)] : List UInt8)
def m_frame_Wrap (x0 : (List UInt8)) : Option ((List UInt8) × Int) :=
  if (x0.length : Int) > 65536 then
  (some (([] : List UInt8), 4))
  else
  ((m_frame_four (toU32 (x0.length : Int))).bind fun p9 =>
    (appL ([(165 : UInt8)] : List UInt8) p9).bind fun z12 =>
    (m_frame_sum z12 x0).bind fun p14 =>
    (m_frame_four p14).bind fun p16 =>
    (appL z12 p16).bind fun z19 =>
    (appL z19 x0).bind fun z21 =>
    some (z21, 0))
def m_disk_Disk_Create (x0 : PD) (x1 : (List UInt8)) : Option (Int × PD) :=
  if x0.calls < 4611686018427387904 then some ((x0.create x1).2, (x0.create x1).1) else none
def m_disk_Disk_Append (x0 : PD) (x1 : (List UInt8)) (x2 : (List UInt8)) : Option (Int × PD) :=
  if x0.calls < 4611686018427387904 ∧ (x0.used ≤ x0.cap ∧ x0.cap ≤ 4194304) ∧ x2.length ≤ 1073741824 then some ((x0.append x1 x2).2, (x0.append x1 x2).1) else none
def m_disk_Disk_Sync (x0 : PD) (x1 : (List UInt8)) : Option (Int × PD) :=
  if x0.calls < 4611686018427387904 then some ((x0.sync x1).2, (x0.sync x1).1) else none
def m_disk_Disk_Rename (x0 : PD) (x1 : (List UInt8)) (x2 : (List UInt8)) : Option (Int × PD) :=
  if x0.calls < 4611686018427387904 then some ((x0.rename x1 x2).2, (x0.rename x1 x2).1) else none
def m_snap_Save (x0 : PD) (x1 : (List UInt8)) (x2 : (List UInt8)) : Option (Int × PD) :=
  jn (fun (y3 : Int) (y4 : (List UInt8)) (y5 : PD) =>
    (jn (fun (y8 : Bool) =>
        (jn (fun (y10 : PD) =>
            (some (y3, y10))) fun j3 =>
          if y8 = true then
          ((m_disk_Disk_Remove y5 y4).bind fun p13 =>
            j3 p13.2)
          else
          (j3 y5))) fun j2 =>
      if y3 ≠ 13 then
      ((m_snap_there y5 y4).bind fun p18 =>
        j2 p18)
      else
      (j2 false))) fun j1 =>
  (catS x1 ([46, 110, 101, 119] : List UInt8)).bind fun z20 =>
  if (x1.length : Int) > 28 then
  (some (3, x0))
  else
  ((m_frame_Wrap x2).bind fun p22 =>
    if p22.2 ≠ 0 then
    (some (p22.2, x0))
    else
    ((m_snap_there x0 z20).bind fun p26 =>
      jn (fun (y28 : Int) (y29 : PD) =>
        (jn (fun (y31 : Int) (y32 : PD) =>
            (if y31 ≠ 0 then
              (j1 y31 z20 y32)
              else
              ((m_disk_Disk_Append y32 z20 p22.1).bind fun p35 =>
                if p35.1 ≠ 0 then
                (j1 p35.1 z20 p35.2)
                else
                ((m_disk_Disk_Sync p35.2 z20).bind fun p44 =>
                  if p44.1 ≠ 0 then
                  (j1 p44.1 z20 p44.2)
                  else
                  ((m_disk_Disk_Rename p44.2 z20 x1).bind fun p49 =>
                    if p49.1 = 0 then
                    (some (0, p49.2))
                    else
                    (j1 p49.1 z20 p49.2)))))) fun j5 =>
          if y28 = 0 then
          ((m_disk_Disk_Create y29 z20).bind fun p55 =>
            j5 p55.1 p55.2)
          else
          (j5 y28 y29))) fun j4 =>
      if p26 = true then
      ((m_disk_Disk_Remove x0 z20).bind fun p60 =>
        j4 p60.1 p60.2)
      else
      (j4 p22.2 x0)))
def m_ship_Sender_Take (x0 : T_ship_Sender) (x1 : Int) (x2 : Int) (xD : PD) : Option (Bool × Int × T_ship_Sender × PD) :=
  if (x1 ≤ x0.ack) ∨ (x1 > x2) then
  (some (false, 0, x0, xD))
  else
  ((m_pack_NewWriter ).bind fun p9 =>
    (m_pack_Writer_Fix p9 (toU64 x1)).bind fun p12 =>
    (m_pack_Writer_Bytes p12).bind fun p17 =>
    (m_snap_Save xD ([97, 99, 107] : List UInt8) p17).bind fun p20 =>
    if p20.1 ≠ 0 then
    (some (false, p20.1, x0, p20.2))
    else
    (some (true, 0, ({ ack := x1 } : T_ship_Sender), p20.2)))
def m_ship_Sender_Ack (x0 : T_ship_Sender) (xD : PD) : Option Int :=
  some x0.ack
def m_ship_Left_L1 (x0 : (List T_api_Span)) (x1 : Int) (j1 : Int → Option Int) : Nat → Int → Int → Option Int
  | 0, _, _ => none
  | n + 1, y5, y6 =>
    if y6 < (x0.length : Int) then
    (jn (fun (y9 : Int) =>
        (m_ship_Left_L1 x0 x1 j1 n y9 (W64 (y6 + 1)))) fun j2 =>
      (idx x0 y6).bind fun z11 =>
      if z11.End > x1 then
      (j2 (W64 (y5 + 1)))
      else
      (j2 y5))
    else
    (j1 y5)
def m_ship_Left (x0 : (List T_api_Span)) (x1 : Int) : Option Int :=
  jn (fun (y3 : Int) =>
    (some y3)) fun j1 =>
  m_ship_Left_L1 x0 x1 j1 fuel 0 0
def m_limnographlaw25_awake  : Option Bool :=
  (m_disk_New ([] : List T_api_File) 1000).bind fun p1 =>
  if ((p1).isNone) = true then
  (some false)
  else
  ((p1).bind fun z10 =>
    (m_ship_Open z10).bind fun p9 =>
    if (((p9.1).isNone) = true) ∨ (p9.2.1 ≠ 0) then
    (some false)
    else
    ((p9.1).bind fun z20 =>
      (m_ship_Sender_Take z20 3 5 p9.2.2).bind fun p19 =>
      (m_ship_Sender_Take p19.2.2.1 2 5 p19.2.2.2).bind fun p26 =>
      (m_ship_Sender_Take p26.2.2.1 6 5 p26.2.2.2).bind fun p31 =>
      jn (fun (y42 : Bool) =>
        (jn (fun (y46 : Bool) =>
            (some y46)) fun j2 =>
          if y42 = true then
          ((m_ship_Left ([({ First := 0, End := 3 } : T_api_Span), ({ First := 3, End := 4 } : T_api_Span)] : List T_api_Span) 3).bind fun p52 =>
            j2 (decide (p52 = 1)))
          else
          (j2 false))) fun j1 =>
      if ((p19.1 = true) ∧ ((!p26.1) = true)) ∧ ((!p31.1) = true) then
      ((m_ship_Sender_Ack p31.2.2.1 p31.2.2.2).bind fun p55 =>
        j1 (decide (p55 = 3)))
      else
      (j1 false)))
def m_limnographref18_Name_L1 (x0 : (List UInt8)) (j1 : Unit → Option Bool) : Nat → Int → Option Bool
  | 0, _ => none
  | n + 1, y5 =>
    if y5 < (x0.length : Int) then
    ((idx x0 y5).bind fun z8 =>
      if (((¬ ((((z8).toNat : Int) ≥ 97) ∧ (((z8).toNat : Int) ≤ 122))) ∧ (¬ ((((z8).toNat : Int) ≥ 48) ∧ (((z8).toNat : Int) ≤ 57)))) ∧ (((z8).toNat : Int) ≠ 46)) ∧ (((z8).toNat : Int) ≠ 45) then
      (some false)
      else
      (m_limnographref18_Name_L1 x0 j1 n (W64 (y5 + 1))))
    else
    (j1 ())
def m_limnographref18_Name (x0 : (List UInt8)) : Option Bool :=
  if ((x0.length : Int) < 1) ∨ ((x0.length : Int) > 32) then
  (some false)
  else
  (jn (fun (_ : Unit) =>
      (some true)) fun j1 =>
    m_limnographref18_Name_L1 x0 j1 fuel 0)
def m_limnographref18_Disk_Find_L1 (x0 : T_limnographref18_Disk) (x1 : (List UInt8)) (j1 : Unit → Option Int) : Nat → Int → Option Int
  | 0, _ => none
  | n + 1, y4 =>
    if y4 < (x0.L.length : Int) then
    ((idx x0.L y4).bind fun z12 =>
      if z12.Name = x1 then
      (some y4)
      else
      (m_limnographref18_Disk_Find_L1 x0 x1 j1 n (W64 (y4 + 1))))
    else
    (j1 ())
def m_limnographref18_Disk_Find (x0 : T_limnographref18_Disk) (x1 : (List UInt8)) : Option Int :=
  jn (fun (_ : Unit) =>
    (some (-1))) fun j1 =>
  m_limnographref18_Disk_Find_L1 x0 x1 j1 fuel 0
def m_limnographref18_Disk_Used_L1 (x0 : T_limnographref18_Disk) (j1 : Int → Option Int) : Nat → Int → Int → Option Int
  | 0, _, _ => none
  | n + 1, y5, y6 =>
    if y6 < (x0.L.length : Int) then
    ((idx x0.L y6).bind fun z14 =>
      m_limnographref18_Disk_Used_L1 x0 j1 n (W64 (y5 + (z14.Data.length : Int))) (W64 (y6 + 1)))
    else
    (j1 y5)
def m_limnographref18_Disk_Used (x0 : T_limnographref18_Disk) : Option Int :=
  jn (fun (y3 : Int) =>
    (some y3)) fun j1 =>
  m_limnographref18_Disk_Used_L1 x0 j1 fuel 0 0
def m_limnographref18_Disk_without_L1 (x0 : T_limnographref18_Disk) (x1 : (List UInt8)) (j1 : (List T_limnographref18_File) → Option (List T_limnographref18_File)) : Nat → (List T_limnographref18_File) → Int → Option (List T_limnographref18_File)
  | 0, _, _ => none
  | n + 1, y8, y11 =>
    if y11 < (x0.L.length : Int) then
    (jn (fun (y21 : (List T_limnographref18_File)) =>
        (m_limnographref18_Disk_without_L1 x0 x1 j1 n y21 (W64 (y11 + 1)))) fun j2 =>
      (idx x0.L y11).bind fun z27 =>
      if z27.Name ≠ x1 then
      ((idx x0.L y11).bind fun z32 =>
        (appL y8 [z32]).bind fun z36 =>
        j2 z36)
      else
      (j2 y8))
    else
    (j1 y8)
def m_limnographref18_Disk_without (x0 : T_limnographref18_Disk) (x1 : (List UInt8)) : Option (List T_limnographref18_File) :=
  jn (fun (y3 : (List T_limnographref18_File)) =>
    (some y3)) fun j1 =>
  m_limnographref18_Disk_without_L1 x0 x1 j1 fuel ([] : List T_limnographref18_File) 0
def m_limnographref18_Disk_put_L1 (x1 : T_limnographref18_File) (p9 : (List T_limnographref18_File)) (j1 : Int → Option T_limnographref18_Disk) : Nat → Int → Option T_limnographref18_Disk
  | 0, _ => none
  | n + 1, y38 =>
    jn (fun (y41 : Bool) =>
      (if y41 = true then
        (m_limnographref18_Disk_put_L1 x1 p9 j1 n (W64 (y38 - 1)))
        else
        (j1 y38))) fun j2 =>
    if y38 > 0 then
    ((idx p9 (W64 (y38 - 1))).bind fun z46 =>
      j2 (Op.bytesLess x1.Name z46.Name))
    else
    (j2 false)
def m_limnographref18_Disk_put (x0 : T_limnographref18_Disk) (x1 : T_limnographref18_File) : Option T_limnographref18_Disk :=
  (m_limnographref18_Disk_without x0 x1.Name).bind fun p9 =>
  jn (fun (y15 : Int) =>
    ((cutL p9 0 y15).bind fun z17 =>
      (appL ([] : List T_limnographref18_File) z17).bind fun z21 =>
      (appL z21 [({ Name := x1.Name, Data := x1.Data, Sure := x1.Sure } : T_limnographref18_File)]).bind fun z25 =>
      (cutL p9 y15 ((p9).length)).bind fun z27 =>
      (appL z25 z27).bind fun z29 =>
      some ({ L := z29, Capacity := x0.Capacity, Down := x0.Down, Calls := x0.Calls, Fail := x0.Fail, Crash := x0.Crash, Err := x0.Err } : T_limnographref18_Disk))) fun j1 =>
  m_limnographref18_Disk_put_L1 x1 p9 j1 fuel (p9.length : Int)
def m_limnographref18_New_L1 (x0 : (List T_api_File)) (x1 : Int) (j1 : T_limnographref18_Disk → Option (Option T_limnographref18_Disk)) : Nat → Int → T_limnographref18_Disk → Option (Option T_limnographref18_Disk)
  | 0, _, _ => none
  | n + 1, y22, y23 =>
    if y22 < (x0.length : Int) then
    ((idx x0 y22).bind fun z26 =>
      jn (fun (y35 : Bool) =>
        (if y35 = true then
          (some (none : Option T_limnographref18_Disk))
          else
          ((m_limnographref18_Disk_put y23 ({ Name := z26.Name, Data := z26.Data, Sure := (z26.Data.length : Int) } : T_limnographref18_File)).bind fun p41 =>
            m_limnographref18_New_L1 x0 x1 j1 n (W64 (y22 + 1)) p41))) fun j2 =>
      (m_limnographref18_Name z26.Name).bind fun p48 =>
      if (!p48) = true then
      (j2 true)
      else
      ((m_limnographref18_Disk_Find y23 z26.Name).bind fun p51 =>
        if p51 ≥ 0 then
        (j2 true)
        else
        ((m_limnographref18_Disk_Used y23).bind fun p54 =>
          j2 (decide ((z26.Data.length : Int) > W64 (x1 - p54))))))
    else
    (j1 y23)
def m_limnographref18_New (x0 : (List T_api_File)) (x1 : Int) : Option (Option T_limnographref18_Disk) :=
  if ((x1 < 1) ∨ (x1 > 4194304)) ∨ ((x0.length : Int) > 4096) then
  (some (none : Option T_limnographref18_Disk))
  else
  (jn (fun (y18 : T_limnographref18_Disk) =>
      (some (some y18))) fun j1 =>
    m_limnographref18_New_L1 x0 x1 j1 fuel 0 ({ L := ([] : List T_limnographref18_File), Capacity := x1, Down := false, Calls := 0, Fail := (-1), Crash := (-1), Err := 0 } : T_limnographref18_Disk))
def m_limnographref18_Disk_begin (x0 : T_limnographref18_Disk) : Option (Int × T_limnographref18_Disk) :=
  if x0.Down = true then
  (some (13, x0))
  else
  (jn (fun (y12 : T_limnographref18_Disk) =>
      (jn (fun (y18 : T_limnographref18_Disk) =>
          (if x0.Crash = 0 then
            (some (13, ({ L := y18.L, Capacity := y18.Capacity, Down := true, Calls := y18.Calls, Fail := y18.Fail, Crash := y18.Crash, Err := y18.Err } : T_limnographref18_Disk)))
            else
            (if x0.Fail = 0 then
              (some (y18.Err, y18))
              else
              (some (0, y18))))) fun j2 =>
        if y12.Fail ≥ 0 then
        (j2 ({ L := y12.L, Capacity := y12.Capacity, Down := y12.Down, Calls := y12.Calls, Fail := W64 (y12.Fail - 1), Crash := y12.Crash, Err := y12.Err } : T_limnographref18_Disk))
        else
        (j2 y12))) fun j1 =>
    if x0.Crash ≥ 0 then
    (j1 ({ L := ({ L := x0.L, Capacity := x0.Capacity, Down := x0.Down, Calls := W64 (x0.Calls + 1), Fail := x0.Fail, Crash := x0.Crash, Err := x0.Err } : T_limnographref18_Disk).L, Capacity := ({ L := x0.L, Capacity := x0.Capacity, Down := x0.Down, Calls := W64 (x0.Calls + 1), Fail := x0.Fail, Crash := x0.Crash, Err := x0.Err } : T_limnographref18_Disk).Capacity, Down := ({ L := x0.L, Capacity := x0.Capacity, Down := x0.Down, Calls := W64 (x0.Calls + 1), Fail := x0.Fail, Crash := x0.Crash, Err := x0.Err } : T_limnographref18_Disk).Down, Calls := ({ L := x0.L, Capacity := x0.Capacity, Down := x0.Down, Calls := W64 (x0.Calls + 1), Fail := x0.Fail, Crash := x0.Crash, Err := x0.Err } : T_limnographref18_Disk).Calls, Fail := ({ L := x0.L, Capacity := x0.Capacity, Down := x0.Down, Calls := W64 (x0.Calls + 1), Fail := x0.Fail, Crash := x0.Crash, Err := x0.Err } : T_limnographref18_Disk).Fail, Crash := W64 ((({ L := x0.L, Capacity := x0.Capacity, Down := x0.Down, Calls := W64 (x0.Calls + 1), Fail := x0.Fail, Crash := x0.Crash, Err := x0.Err } : T_limnographref18_Disk).Crash) - 1), Err := ({ L := x0.L, Capacity := x0.Capacity, Down := x0.Down, Calls := W64 (x0.Calls + 1), Fail := x0.Fail, Crash := x0.Crash, Err := x0.Err } : T_limnographref18_Disk).Err } : T_limnographref18_Disk))
    else
    (j1 ({ L := x0.L, Capacity := x0.Capacity, Down := x0.Down, Calls := W64 (x0.Calls + 1), Fail := x0.Fail, Crash := x0.Crash, Err := x0.Err } : T_limnographref18_Disk)))
def m_limnographref18_Disk_Remove (x0 : T_limnographref18_Disk) (x1 : (List UInt8)) : Option (Int × T_limnographref18_Disk) :=
  (m_limnographref18_Disk_begin x0).bind fun p2 =>
  if p2.1 ≠ 0 then
  (some (p2.1, p2.2))
  else
  ((m_limnographref18_Disk_Find p2.2 x1).bind fun p7 =>
    if p7 < 0 then
    (some (7, p2.2))
    else
    ((m_limnographref18_Disk_without p2.2 x1).bind fun p10 =>
      some (0, ({ L := p10, Capacity := p2.2.Capacity, Down := p2.2.Down, Calls := p2.2.Calls, Fail := p2.2.Fail, Crash := p2.2.Crash, Err := p2.2.Err } : T_limnographref18_Disk))))
def m_limnographref04_four (x0 : Int) : Option (List UInt8) :=
  (remZ x0 256).bind fun z1 =>
  (quoZ x0 256).bind fun z2 =>
  (remZ z2 256).bind fun z3 =>
  (quoZ x0 65536).bind fun z4 =>
  (remZ z4 256).bind fun z5 =>
  (quoZ x0 16777216).bind fun z6 =>
  some ([toU8 z1, toU8 z3, toU8 z5, toU8 z6] : List UInt8)
def m_limnographref03_Step (x0 : UInt32) : Option UInt32 :=
  (rem32 x0 (2 : UInt32)).bind fun z1 =>
  (quo32 x0 (2 : UInt32)).bind fun z2 =>
  jn (fun (y3 : UInt32) =>
    (some y3)) fun j1 =>
  if ((z1).toNat : Int) = 1 then
  (j1 (z2 ^^^ (2197175160 : UInt32)))
  else
  (j1 z2)
def m_limnographref03_More_L2 (j2 : UInt32 → Option UInt32) : Nat → UInt32 → Int → Option UInt32
  | 0, _, _ => none
  | n + 1, y13, y14 =>
    if y14 < 8 then
    ((m_limnographref03_Step y13).bind fun p17 =>
      m_limnographref03_More_L2 j2 n p17 (W64 (y14 + 1)))
    else
    (j2 y13)
def m_limnographref03_More_L1 (x1 : (List UInt8)) (j1 : UInt32 → Option UInt32) : Nat → UInt32 → Int → Option UInt32
  | 0, _, _ => none
  | n + 1, y5, y6 =>
    if y6 < (x1.length : Int) then
    ((idx x1 y6).bind fun z9 =>
      jn (fun (y11 : UInt32) =>
        (m_limnographref03_More_L1 x1 j1 n y11 (W64 (y6 + 1)))) fun j2 =>
      m_limnographref03_More_L2 j2 fuel (y5 ^^^ (toU32 ((z9).toNat : Int))) 0)
    else
    (j1 y5)
def m_limnographref03_More (x0 : UInt32) (x1 : (List UInt8)) : Option UInt32 :=
  jn (fun (y3 : UInt32) =>
    (some y3)) fun j1 =>
  m_limnographref03_More_L1 x1 j1 fuel x0 0
def m_limnographref03_Of (x0 : (List UInt8)) : Option UInt32 :=
  (m_limnographref03_More (4294967295 : UInt32) x0).bind fun p3 =>
  some ((4294967295 : UInt32) - p3)
def m_limnographref04_Wrap (x0 : (List UInt8)) : Option ((List UInt8) × Int) :=
  if (x0.length : Int) > 65536 then
  (some (([] : List UInt8), 4))
  else
  ((m_limnographref04_four (x0.length : Int)).bind fun p8 =>
    (catS ([165] : List UInt8) p8).bind fun z10 =>
    (catS z10 x0).bind fun z12 =>
    (lenS z12).bind fun z13 =>
    (m_limnographref03_Of z13).bind fun p15 =>
    (m_limnographref04_four (p15.toNat : Int)).bind fun p17 =>
    (catS z10 p17).bind fun z19 =>
    (catS z19 x0).bind fun z20 =>
    (lenS z20).bind fun z21 =>
    some (z21, 0))
def m_limnographref04_First_L1 (x0 : (List UInt8)) (x1 : Int) (j1 : Int → Option T_limnographref04_Got) : Nat → Int → Int → Option T_limnographref04_Got
  | 0, _, _ => none
  | n + 1, y62, y63 =>
    if y63 > 0 then
    ((idx x0 (W64 (x1 + y63))).bind fun z66 =>
      m_limnographref04_First_L1 x0 x1 j1 n (W64 ((W64 (256 * y62)) + (z66.toNat : Int))) (W64 (y63 - 1)))
    else
    (j1 y62)
def m_limnographref04_First (x0 : (List UInt8)) (x1 : Int) : Option T_limnographref04_Got :=
  if W64 ((x0.length : Int) - x1) < 1 then
  (some ({ B := ([] : List UInt8), N := 0, E := 2 } : T_limnographref04_Got))
  else
  ((idx x0 x1).bind fun z13 =>
    if ((z13).toNat : Int) ≠ 165 then
    (some ({ B := ([] : List UInt8), N := 0, E := 3 } : T_limnographref04_Got))
    else
    (if W64 ((x0.length : Int) - x1) < 9 then
      (some ({ B := ([] : List UInt8), N := 0, E := 2 } : T_limnographref04_Got))
      else
      (jn (fun (y29 : Int) =>
          (if y29 > 65536 then
            (some ({ B := ([] : List UInt8), N := 0, E := 4 } : T_limnographref04_Got))
            else
            (if W64 ((x0.length : Int) - x1) < W64 (9 + y29) then
              (some ({ B := ([] : List UInt8), N := 0, E := 2 } : T_limnographref04_Got))
              else
              ((cutL x0 (W64 (x1 + 9)) (W64 ((W64 (x1 + 9)) + y29))).bind fun z45 =>
                (m_limnographref04_Wrap z45).bind fun p47 =>
                (cutL x0 x1 (W64 ((W64 (x1 + 9)) + y29))).bind fun z51 =>
                if p47.1 ≠ z51 then
                (some ({ B := ([] : List UInt8), N := 0, E := 5 } : T_limnographref04_Got))
                else
                (some ({ B := z45, N := W64 (9 + y29), E := 0 } : T_limnographref04_Got)))))) fun j1 =>
        m_limnographref04_First_L1 x0 x1 j1 fuel 0 4)))
def m_limnographref20_Load (x0 : T_limnographref18_Disk) (x1 : (List UInt8)) : Option (T_limnographref20_Got × T_limnographref18_Disk) :=
  if x0.Down = true then
  (some (({ B := ([] : List UInt8), Is := false, E := 13 } : T_limnographref20_Got), x0))
  else
  ((catS x1 ([46, 110, 101, 119] : List UInt8)).bind fun z16 =>
    (m_limnographref18_Disk_Find x0 z16).bind fun p17 =>
    jn (fun (y21 : T_limnographref18_Disk) =>
      ((m_limnographref18_Disk_Find y21 x1).bind fun p23 =>
        if p23 < 0 then
        (some (({ B := ([] : List UInt8), Is := false, E := 0 } : T_limnographref20_Got), y21))
        else
        ((idx y21.L p23).bind fun z34 =>
          (m_limnographref04_First z34.Data 0).bind fun p38 =>
          if (p38.E ≠ 0) ∨ (p38.N ≠ (z34.Data.length : Int)) then
          (some (({ B := ([] : List UInt8), Is := false, E := 15 } : T_limnographref20_Got), y21))
          else
          (some (({ B := p38.B, Is := true, E := 0 } : T_limnographref20_Got), y21))))) fun j1 =>
    if p17 ≥ 0 then
    ((catS x1 ([46, 110, 101, 119] : List UInt8)).bind fun z60 =>
      (m_limnographref18_Disk_Remove x0 z60).bind fun p61 =>
      if p61.1 ≠ 0 then
      (some (({ B := ([] : List UInt8), Is := false, E := p61.1 } : T_limnographref20_Got), p61.2))
      else
      (j1 p61.2))
    else
    (j1 x0))
def m_limnographref02_GetFix_L1 (x0 : (List UInt8)) (x1 : Int) (j1 : UInt64 → Option T_limnographref02_Got) : Nat → UInt64 → Int → Option T_limnographref02_Got
  | 0, _, _ => none
  | n + 1, y13, y14 =>
    if y14 ≥ 0 then
    ((idx x0 (W64 (x1 + y14))).bind fun z17 =>
      m_limnographref02_GetFix_L1 x0 x1 j1 n (((256 : UInt64) * y13) + (toU64 ((z17).toNat : Int))) (W64 (y14 - 1)))
    else
    (j1 y13)
def m_limnographref02_GetFix (x0 : (List UInt8)) (x1 : Int) : Option T_limnographref02_Got :=
  if W64 ((x0.length : Int) - x1) < 8 then
  (some ({ V := (0 : UInt64), N := 0, E := 2 } : T_limnographref02_Got))
  else
  (jn (fun (y9 : UInt64) =>
      (some ({ V := y9, N := 8, E := 0 } : T_limnographref02_Got))) fun j1 =>
    m_limnographref02_GetFix_L1 x0 x1 j1 fuel (0 : UInt64) 7)
def m_limnographref25_Open (x0 : T_limnographref18_Disk) : Option (T_limnographref25_Got × T_limnographref18_Disk) :=
  (m_limnographref20_Load x0 ([97, 99, 107] : List UInt8)).bind fun p5 =>
  if (p5.1.E ≠ 0) ∨ ((!p5.1.Is) = true) then
  (some (({ Ack := 0, Is := false, E := p5.1.E } : T_limnographref25_Got), p5.2))
  else
  ((m_limnographref02_GetFix p5.1.B 0).bind fun p18 =>
    if ((p5.1.B.length : Int) ≠ 8) ∨ (((p18.V).toNat : Int) > 4503599627370497) then
    (some (({ Ack := 0, Is := false, E := 15 } : T_limnographref25_Got), p5.2))
    else
    (some (({ Ack := W64 ((p18.V).toNat : Int), Is := false, E := 0 } : T_limnographref25_Got), p5.2)))
def m_limnographlaw25_ShipOpens (x0 : (List UInt8)) : Option Bool :=
  (m_limnographlaw25_awake ).bind fun p3 =>
  if (!p3) = true then
  (some false)
  else
  (if (x0.length : Int) > 300 then
    (some true)
    else
    ((m_disk_New ([({ Name := ([97, 99, 107] : List UInt8), Data := x0 } : T_api_File)] : List T_api_File) 1000).bind fun p10 =>
      (m_limnographref18_New ([({ Name := ([97, 99, 107] : List UInt8), Data := x0 } : T_api_File)] : List T_api_File) 1000).bind fun p15 =>
      jn (fun (y18 : Bool) =>
        (if y18 = true then
          (some false)
          else
          ((p10).bind fun z22 =>
            (m_ship_Open z22).bind fun p21 =>
            (p15).bind fun z29 =>
            (m_limnographref25_Open z29).bind fun p28 =>
            if p21.2.1 = p28.1.E then
            (if (p21.1).isNone = decide (p21.2.1 ≠ 0) then
              (if ((p21.1).isNone) = true then
                (some true)
                else
                ((p21.1).bind fun z42 =>
                  (m_ship_Sender_Ack z42 p21.2.2).bind fun p41 =>
                  some (decide (p41 = p28.1.Ack))))
              else
              (some false))
            else
            (some false)))) fun j1 =>
      if ((p10).isNone) = true then
      (j1 true)
      else
      (j1 ((p15).isNone))))
def m_ship_Sender_Due_L1 (x0 : T_ship_Sender) (x1 : (List T_api_Span)) (x2 : Int) (j1 : (List T_api_Span) → Option (List T_api_Span)) : Nat → (List T_api_Span) → Int → Option (List T_api_Span)
  | 0, _, _ => none
  | n + 1, y10, y13 =>
    if y13 < (x1.length : Int) then
    (jn (fun (y18 : (List T_api_Span)) =>
        (m_ship_Sender_Due_L1 x0 x1 x2 j1 n y18 (W64 (y13 + 1)))) fun j2 =>
      (idx x1 y13).bind fun z22 =>
      jn (fun (y27 : Bool) =>
        (if y27 = true then
          ((appL y10 [({ First := z22.First, End := z22.End } : T_api_Span)]).bind fun z30 =>
            j2 z30)
          else
          (j2 y10))) fun j3 =>
      if z22.End > x0.ack then
      (j3 (decide ((y10.length : Int) < x2)))
      else
      (j3 false))
    else
    (j1 y10)
def m_ship_Sender_Due (x0 : T_ship_Sender) (x1 : (List T_api_Span)) (x2 : Int) (xD : PD) : Option (List T_api_Span) :=
  jn (fun (y6 : (List T_api_Span)) =>
    (some y6)) fun j1 =>
  m_ship_Sender_Due_L1 x0 x1 x2 j1 fuel ([] : List T_api_Span) 0
def m_limnographref25_Due_L1 (x0 : (List T_api_Span)) (x1 : Int) (x2 : Int) (j1 : (List T_api_Span) → Option (List T_api_Span)) : Nat → (List T_api_Span) → Int → Option (List T_api_Span)
  | 0, _, _ => none
  | n + 1, y7, y10 =>
    if y10 < (x0.length : Int) then
    (jn (fun (y15 : (List T_api_Span)) =>
        (m_limnographref25_Due_L1 x0 x1 x2 j1 n y15 (W64 (y10 + 1)))) fun j2 =>
      (idx x0 y10).bind fun z19 =>
      if (z19.End > x1) ∧ ((y7.length : Int) < x2) then
      ((idx x0 y10).bind fun z24 =>
        (appL y7 [z24]).bind fun z26 =>
        j2 z26)
      else
      (j2 y7))
    else
    (j1 y7)
def m_limnographref25_Due (x0 : (List T_api_Span)) (x1 : Int) (x2 : Int) : Option (List T_api_Span) :=
  jn (fun (y3 : (List T_api_Span)) =>
    (some y3)) fun j1 =>
  m_limnographref25_Due_L1 x0 x1 x2 j1 fuel ([] : List T_api_Span) 0
def m_limnographref22_SameSpans_L1 (x0 : (List T_api_Span)) (x1 : (List T_api_Span)) (j1 : Unit → Option Bool) : Nat → Int → Option Bool
  | 0, _ => none
  | n + 1, y7 =>
    if y7 < (x0.length : Int) then
    ((idx x0 y7).bind fun z11 =>
      (idx x1 y7).bind fun z14 =>
      if ¬ (z11 = z14) then
      (some false)
      else
      (m_limnographref22_SameSpans_L1 x0 x1 j1 n (W64 (y7 + 1))))
    else
    (j1 ())
def m_limnographref22_SameSpans (x0 : (List T_api_Span)) (x1 : (List T_api_Span)) : Option Bool :=
  if (x0.length : Int) ≠ (x1.length : Int) then
  (some false)
  else
  (jn (fun (_ : Unit) =>
      (some true)) fun j1 =>
    m_limnographref22_SameSpans_L1 x0 x1 j1 fuel 0)
def m_limnographlaw25_ShipDue_L1 (x0 : (List T_api_Span)) (x1 : Int) (j2 : Int → Option Bool) : Nat → Int → Int → Option Bool
  | 0, _, _ => none
  | n + 1, y63, y64 =>
    if y64 < (x0.length : Int) then
    (jn (fun (y69 : Int) =>
        (m_limnographlaw25_ShipDue_L1 x0 x1 j2 n y69 (W64 (y64 + 1)))) fun j5 =>
      (idx x0 y64).bind fun z71 =>
      if z71.End > x1 then
      (j5 (W64 (y63 + 1)))
      else
      (j5 y63))
    else
    (j2 y63)
def m_limnographlaw25_ShipDue (x0 : (List T_api_Span)) (x1 : Int) (x2 : Int) : Option Bool :=
  (m_limnographlaw25_awake ).bind fun p3 =>
  if (!p3) = true then
  (some false)
  else
  (if (x0.length : Int) > 100 then
    (some true)
    else
    ((m_disk_New ([] : List T_api_File) 1000).bind fun p7 =>
      (p7).bind fun z15 =>
      (m_ship_Open z15).bind fun p14 =>
      if ((p14.1).isNone) = true then
      (some false)
      else
      ((p14.1).bind fun z23 =>
        (m_ship_Sender_Take z23 x1 4503599627370496 p14.2.2).bind fun p22 =>
        jn (fun (y33 : Int) =>
          (jn (fun (y37 : Int) =>
              ((m_ship_Sender_Ack p22.2.2.1 p22.2.2.2).bind fun p39 =>
                jn (fun (y43 : Bool) =>
                  (jn (fun (y47 : Bool) =>
                      (some y47)) fun j4 =>
                    if y43 = true then
                    ((m_ship_Left x0 x1).bind fun p50 =>
                      j4 (decide (p50 = y37)))
                    else
                    (j4 false))) fun j3 =>
                if p39 = y33 then
                ((m_ship_Sender_Due p22.2.2.1 x0 x2 p22.2.2.2).bind fun p53 =>
                  (m_limnographref25_Due x0 y33 x2).bind fun p56 =>
                  (m_limnographref22_SameSpans p53 p56).bind fun p59 =>
                  j3 p59)
                else
                (j3 false))) fun j2 =>
            m_limnographlaw25_ShipDue_L1 x0 x1 j2 fuel 0 0)) fun j1 =>
        if (x1 > 0) ∧ (x1 ≤ 4503599627370496) then
        (j1 x1)
        else
        (j1 0))))
end Go.Proofs.Ytpeloppldpdonaa
