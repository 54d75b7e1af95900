/-
  Plain forms of functions of the program: what each computes, told over lists and numbers. Printed by a program.
-/
import Derived.Test.YtlfppodekihcmaaGreatDoorWw
import Derived.Test.YtlfppodekihcmaaGreatDoorDk
import Derived.Test.YtlfppodekihcmaaGreatDoorWzb
namespace Go.Proofs.YtlfppodekihcmaaGreatDoor
open Go Go.RowKit Go.Wk
def gt3 : List UInt8 := [0, 1, 56, 2, 57, 49, 28, 3, 61, 58, 42, 50, 38, 29, 17, 4, 62, 47, 59, 36, 45, 43, 51, 22, 53, 39, 33, 30, 24, 18, 12, 5, 63, 55, 48, 27, 60, 41, 37, 16, 46, 35, 44, 21, 52, 32, 23, 11, 54, 26, 40, 15, 34, 20, 31, 10, 25, 14, 19, 9, 13, 8, 7, 6]
structure T_api_File where
  Name : (List UInt8)
  Data : (List UInt8)
  deriving DecidableEq
def T_api_File.rep : Rep T_api_File := Rep.map (fun x => (x.Name, x.Data)) (Rep.two textR (Rep.sl byteR))
structure T_api_Span where
  First : Int
  End : Int
  deriving DecidableEq
def T_api_Span.rep : Rep T_api_Span := Rep.map (fun x => (x.First, x.End)) (Rep.two (intR .i64) (intR .i64))
theorem T_api_Span.flat : T_api_Span.rep.Flat := map_flat _ (two_flat (int_flat _) (int_flat _))
structure T_pack_Reader where
  b : (List UInt8)
  at_ : Int
  e : Int
  deriving DecidableEq
def T_pack_Reader.rep : Rep T_pack_Reader := Rep.map (fun x => (x.b, (x.at_, x.e))) (Rep.two (Rep.sl byteR) (Rep.two (intR .i64) (intR .i64)))
structure T_segment_parts where
  first : Int
  n : Int
  chunks : (List (List UInt8))
  deriving DecidableEq
def T_segment_parts.rep : Rep T_segment_parts := Rep.map (fun x => (x.first, (x.n, x.chunks))) (Rep.two (intR .i64) (Rep.two (intR .i64) (Rep.sl textR)))
structure T_api_Pair where
  Key : (List UInt8)
  Val : (List UInt8)
  deriving DecidableEq
def T_api_Pair.rep : Rep T_api_Pair := Rep.map (fun x => (x.Key, x.Val)) (Rep.two textR textR)
theorem T_api_Pair.flat : T_api_Pair.rep.Flat := map_flat _ (two_flat text_flat text_flat)
structure T_api_Side where
  Offset : Int
  Counts : (List UInt64)
  deriving DecidableEq
def T_api_Side.rep : Rep T_api_Side := Rep.map (fun x => (x.Offset, x.Counts)) (Rep.two (intR .i64) (Rep.sl w64R))
structure T_api_Hist where
  Scale : Int
  Zero : UInt64
  Pos : T_api_Side
  Neg : T_api_Side
  deriving DecidableEq
def T_api_Hist.rep : Rep T_api_Hist := Rep.map (fun x => (x.Scale, (x.Zero, (x.Pos, x.Neg)))) (Rep.two (intR .i64) (Rep.two w64R (Rep.two T_api_Side.rep T_api_Side.rep)))
structure T_api_Point where
  Name : (List UInt8)
  Attrs : (List T_api_Pair)
  Kind : Int
  Temp : Int
  Mono : Bool
  Start : Int
  Time : Int
  Int_ : Int
  Re : UInt64
  Im : UInt64
  Hist : T_api_Hist
  Flags : Int
  deriving DecidableEq
def T_api_Point.rep : Rep T_api_Point := Rep.map (fun x => (x.Name, (x.Attrs, (x.Kind, (x.Temp, (x.Mono, (x.Start, (x.Time, (x.Int_, (x.Re, (x.Im, (x.Hist, x.Flags)))))))))))) (Rep.two textR (Rep.two (Rep.sl T_api_Pair.rep) (Rep.two (intR .i64) (Rep.two (intR .i64) (Rep.two boolR (Rep.two (intR .i64) (Rep.two (intR .i64) (Rep.two (intR .i64) (Rep.two w64R (Rep.two w64R (Rep.two T_api_Hist.rep (intR .i64))))))))))))
structure T_segment_reader where
  first : Int
  l : (List T_api_Point)
  there : (List Int)
  key : (List UInt8)
  last : Int
  deriving DecidableEq
def T_segment_reader.rep : Rep T_segment_reader := Rep.map (fun x => (x.first, (x.l, (x.there, (x.key, x.last))))) (Rep.two (intR .i64) (Rep.two (Rep.sl T_api_Point.rep) (Rep.two (Rep.sl (intR .i64)) (Rep.two textR (intR .i64)))))
structure T_arr2_api_Side where
  a0 : T_api_Side
  a1 : T_api_Side
  deriving DecidableEq
def T_arr2_api_Side.rep : Rep T_arr2_api_Side := Rep.map (fun x => (x.a0, x.a1)) (Rep.two T_api_Side.rep T_api_Side.rep)
structure T_bitio_Reader where
  b : (List UInt8)
  n : Int
  at_ : Int
  deriving DecidableEq
def T_bitio_Reader.rep : Rep T_bitio_Reader := Rep.map (fun x => (x.b, (x.n, x.at_))) (Rep.two (Rep.sl byteR) (Rep.two (intR .i64) (intR .i64)))
structure T_vary_Row where
  n : Int
  last : UInt64
  step : UInt64
  deriving DecidableEq
def T_vary_Row.rep : Rep T_vary_Row := Rep.map (fun x => (x.n, (x.last, x.step))) (Rep.two (intR .i64) (Rep.two w64R w64R))
theorem T_vary_Row.flat : T_vary_Row.rep.Flat := map_flat _ (two_flat (int_flat _) (two_flat w64_flat w64_flat))
structure T_xor_window where
  ahead : Int
  size : Int
  deriving DecidableEq
def T_xor_window.rep : Rep T_xor_window := Rep.map (fun x => (x.ahead, x.size)) (Rep.two (intR .i64) (intR .i64))
theorem T_xor_window.flat : T_xor_window.rep.Flat := map_flat _ (two_flat (int_flat _) (int_flat _))
structure T_xor_Row where
  n : Int
  last : UInt64
  win : T_xor_window
  deriving DecidableEq
def T_xor_Row.rep : Rep T_xor_Row := Rep.map (fun x => (x.n, (x.last, x.win))) (Rep.two (intR .i64) (Rep.two w64R T_xor_window.rep))
theorem T_xor_Row.flat : T_xor_Row.rep.Flat := map_flat _ (two_flat (int_flat _) (two_flat w64_flat T_xor_window.flat))
structure T_histbits_Row where
  n : Int
  last : T_api_Hist
  deriving DecidableEq
def T_histbits_Row.rep : Rep T_histbits_Row := Rep.map (fun x => (x.n, x.last)) (Rep.two (intR .i64) T_api_Hist.rep)
structure T_chunk_rows where
  ords : T_vary_Row
  times : T_vary_Row
  spans : T_vary_Row
  ints : T_vary_Row
  re : T_xor_Row
  im : T_xor_Row
  hists : T_histbits_Row
  deriving DecidableEq
structure T_chunk_reader where
  r : T_bitio_Reader
  rows : T_chunk_rows
  e : Int
  deriving DecidableEq
structure T_arr4_int where
  a0 : Int
  a1 : Int
  a2 : Int
  a3 : Int
  deriving DecidableEq
def T_arr4_int.rep : Rep T_arr4_int := Rep.map (fun x => (x.a0, (x.a1, (x.a2, x.a3)))) (Rep.two (intR .i64) (Rep.two (intR .i64) (Rep.two (intR .i64) (intR .i64))))
theorem T_arr4_int.flat : T_arr4_int.rep.Flat := map_flat _ (two_flat (int_flat _) (two_flat (int_flat _) (two_flat (int_flat _) (int_flat _))))
structure T_arr5_int where
  a0 : Int
  a1 : Int
  a2 : Int
  a3 : Int
  a4 : Int
  deriving DecidableEq
def T_arr5_int.rep : Rep T_arr5_int := Rep.map (fun x => (x.a0, (x.a1, (x.a2, (x.a3, x.a4))))) (Rep.two (intR .i64) (Rep.two (intR .i64) (Rep.two (intR .i64) (Rep.two (intR .i64) (intR .i64)))))
theorem T_arr5_int.flat : T_arr5_int.rep.Flat := map_flat _ (two_flat (int_flat _) (two_flat (int_flat _) (two_flat (int_flat _) (two_flat (int_flat _) (int_flat _)))))
structure T_histbits_reader where
  r : T_bitio_Reader
  e : Int
  deriving DecidableEq
structure T_histbits_shape where
  scale : Int
  posAt : Int
  posSize : Int
  negAt : Int
  negSize : Int
  deriving DecidableEq
def T_histbits_shape.rep : Rep T_histbits_shape := Rep.map (fun x => (x.scale, (x.posAt, (x.posSize, (x.negAt, x.negSize))))) (Rep.two (intR .i64) (Rep.two (intR .i64) (Rep.two (intR .i64) (Rep.two (intR .i64) (intR .i64)))))
theorem T_histbits_shape.flat : T_histbits_shape.rep.Flat := map_flat _ (two_flat (int_flat _) (two_flat (int_flat _) (two_flat (int_flat _) (two_flat (int_flat _) (int_flat _)))))
structure T_api_Item where
  Ord : Int
  Point : T_api_Point
  deriving DecidableEq
def T_api_Item.rep : Rep T_api_Item := Rep.map (fun x => (x.Ord, x.Point)) (Rep.two (intR .i64) T_api_Point.rep)
structure T_store_Store where
  spans : (List T_api_Span)
  deriving DecidableEq
def T_pack_Reader.sh (b : Nat) (x : T_pack_Reader) : List Rs → Prop := fun L => ∃ (A1_0 : Option Addr) (c1_0 : Nat), L = [boxR b 242 [.slice A1_0 (x.b).length c1_0, iv x.at_, iv x.e], slR A1_0 c1_0 byteR x.b]
def T_pack_Reader.obj (F : Nat → Prop) (b : Nat) (x : T_pack_Reader) : Rs := objR F (T_pack_Reader.sh b x)
def T_segment_reader.sh (b : Nat) (x : T_segment_reader) : List Rs → Prop := fun L => ∃ (A1_0 : Option Addr) (c1_0 : Nat) (A1_1 : Option Addr) (c1_1 : Nat), L = [boxR b 175 [iv x.first, .slice A1_0 (x.l).length c1_0, .slice A1_1 (x.there).length c1_1, Str (x.key), iv x.last], ownR 152 A1_0 c1_0 T_api_Point.rep x.l, ownR 3 A1_1 c1_1 (intR .i64) x.there]
def T_segment_reader.obj (F : Nat → Prop) (b : Nat) (x : T_segment_reader) : Rs := objR F (T_segment_reader.sh b x)
def T_bitio_Reader.sh (b : Nat) (x : T_bitio_Reader) : List Rs → Prop := fun L => ∃ (A1_0 : Option Addr) (c1_0 : Nat), L = [boxR b 283 [.slice A1_0 (x.b).length c1_0, iv x.n, iv x.at_], slR A1_0 c1_0 byteR x.b]
def T_bitio_Reader.obj (F : Nat → Prop) (b : Nat) (x : T_bitio_Reader) : Rs := objR F (T_bitio_Reader.sh b x)
def T_histbits_Row.sh (b : Nat) (x : T_histbits_Row) : List Rs → Prop := fun L => ∃ (A1_0 : Option Addr) (c1_0 : Nat) (A1_1 : Option Addr) (c1_1 : Nat), L = [boxR b 316 [iv x.n, iv x.last.Scale, u64v x.last.Zero, iv x.last.Pos.Offset, .slice A1_0 (x.last.Pos.Counts).length c1_0, iv x.last.Neg.Offset, .slice A1_1 (x.last.Neg.Counts).length c1_1], ownR 137 A1_0 c1_0 w64R x.last.Pos.Counts, ownR 137 A1_1 c1_1 w64R x.last.Neg.Counts]
def T_histbits_Row.obj (F : Nat → Prop) (b : Nat) (x : T_histbits_Row) : Rs := objR F (T_histbits_Row.sh b x)
theorem T_histbits_Row.oflat (F : Nat → Prop) (b : Nat) (x : T_histbits_Row) : (T_histbits_Row.obj F b x).Flat := objR_flat fun L hL => by
  obtain ⟨_, _, _, _, rfl⟩ := hL
  exact (flC (boxR_flat _ _ _) (flC (ownR_flat w64_flat _ _ _ _) (flC (ownR_flat w64_flat _ _ _ _) fl0)))
def T_vary_Row.sh (b : Nat) (x : T_vary_Row) : List Rs → Prop := fun L => L = [boxR b 310 [iv x.n, u64v x.last, u64v x.step]]
def T_vary_Row.obj (F : Nat → Prop) (b : Nat) (x : T_vary_Row) : Rs := objR F (T_vary_Row.sh b x)
theorem T_vary_Row.oflat (F : Nat → Prop) (b : Nat) (x : T_vary_Row) : (T_vary_Row.obj F b x).Flat := objR_flat fun L hL => by
  obtain rfl := hL
  exact (flC (boxR_flat _ _ _) fl0)
def T_xor_Row.sh (b : Nat) (x : T_xor_Row) : List Rs → Prop := fun L => L = [boxR b 314 [iv x.n, u64v x.last, iv x.win.ahead, iv x.win.size]]
def T_xor_Row.obj (F : Nat → Prop) (b : Nat) (x : T_xor_Row) : Rs := objR F (T_xor_Row.sh b x)
theorem T_xor_Row.oflat (F : Nat → Prop) (b : Nat) (x : T_xor_Row) : (T_xor_Row.obj F b x).Flat := objR_flat fun L hL => by
  obtain rfl := hL
  exact (flC (boxR_flat _ _ _) fl0)
def T_chunk_reader.sh (b : Nat) (p0 : Nat) (x : T_chunk_reader) : List Rs → Prop := fun L => ∃ (F1_0 : (Nat → Prop)) (F1_1 : (Nat → Prop)) (b1_1 : Nat) (F1_2 : (Nat → Prop)) (b1_2 : Nat) (F1_3 : (Nat → Prop)) (b1_3 : Nat) (F1_4 : (Nat → Prop)) (b1_4 : Nat) (F1_5 : (Nat → Prop)) (b1_5 : Nat) (F1_6 : (Nat → Prop)) (b1_6 : Nat) (F1_7 : (Nat → Prop)) (b1_7 : Nat), L = [boxR b 256 [pt p0 0, pt b1_1 0, pt b1_2 0, pt b1_3 0, pt b1_4 0, pt b1_5 0, pt b1_6 0, pt b1_7 0, iv x.e], T_bitio_Reader.obj F1_0 p0 x.r, T_vary_Row.obj F1_1 b1_1 x.rows.ords, T_vary_Row.obj F1_2 b1_2 x.rows.times, T_vary_Row.obj F1_3 b1_3 x.rows.spans, T_vary_Row.obj F1_4 b1_4 x.rows.ints, T_xor_Row.obj F1_5 b1_5 x.rows.re, T_xor_Row.obj F1_6 b1_6 x.rows.im, T_histbits_Row.obj F1_7 b1_7 x.rows.hists]
def T_chunk_reader.obj (F : Nat → Prop) (b : Nat) (p0 : Nat) (x : T_chunk_reader) : Rs := objR F (T_chunk_reader.sh b p0 x)
def T_histbits_reader.sh (b : Nat) (p0 : Nat) (x : T_histbits_reader) : List Rs → Prop := fun L => ∃ (F1_0 : (Nat → Prop)), L = [boxR b 324 [pt p0 0, iv x.e], T_bitio_Reader.obj F1_0 p0 x.r]
def T_histbits_reader.obj (F : Nat → Prop) (b : Nat) (p0 : Nat) (x : T_histbits_reader) : Rs := objR F (T_histbits_reader.sh b p0 x)
def T_api_Hist.sh (b : Nat) (x : T_api_Hist) : List Rs → Prop := fun L => ∃ (A1_0 : Option Addr) (c1_0 : Nat) (A1_1 : Option Addr) (c1_1 : Nat), L = [boxR b 150 [iv x.Scale, u64v x.Zero, iv x.Pos.Offset, .slice A1_0 (x.Pos.Counts).length c1_0, iv x.Neg.Offset, .slice A1_1 (x.Neg.Counts).length c1_1], ownR 137 A1_0 c1_0 w64R x.Pos.Counts, ownR 137 A1_1 c1_1 w64R x.Neg.Counts]
def T_api_Hist.obj (F : Nat → Prop) (b : Nat) (x : T_api_Hist) : Rs := objR F (T_api_Hist.sh b x)
theorem T_api_Hist.oflat (F : Nat → Prop) (b : Nat) (x : T_api_Hist) : (T_api_Hist.obj F b x).Flat := objR_flat fun L hL => by
  obtain ⟨_, _, _, _, rfl⟩ := hL
  exact (flC (boxR_flat _ _ _) (flC (ownR_flat w64_flat _ _ _ _) (flC (ownR_flat w64_flat _ _ _ _) fl0)))
def T_store_Store.sh (b : Nat) (bD : Nat) (x : T_store_Store) : List Rs → Prop := fun L => ∃ (A1_1 : Option Addr) (c1_1 : Nat), L = [boxR b 86 [pt bD 0, .slice A1_1 (x.spans).length c1_1], ownR 50 A1_1 c1_1 T_api_Span.rep x.spans]
def T_store_Store.obj (F : Nat → Prop) (b : Nat) (bD : Nat) (x : T_store_Store) : Rs := objR F (T_store_Store.sh b bD x)
def m_disk_New (x0 : (List T_api_File)) (x1 : Int) : Option (Option PD) :=
  if x0.length ≤ 1073741824 then some (newD (x0.map fun f : T_api_File => (f.Name, f.Data)) x1) else none
def m_store_Name_L1 (j1 : (List UInt8) → Option (List UInt8)) : Nat → (List UInt8) → Int → Int → Option (List UInt8)
  | 0, _, _, _ => none
  | n + 1, y11, y12, y13 =>
    if y12 > 0 then
    ((remZ y12 10).bind fun z16 =>
      (idx y11 y13).bind fun z17 =>
      (quoZ y12 10).bind fun z19 =>
      m_store_Name_L1 j1 n (setI y11 y13 (toU8 (W64 (48 + z16)))) z19 (W64 (y13 - 1)))
    else
    (j1 y11)
def m_store_Name (x0 : Int) : Option (List UInt8) :=
  if (x0 < 0) ∨ (x0 > 4503599627370496) then
  (some ([] : List UInt8))
  else
  ((repE ([48] : List UInt8) 16).bind fun z4 =>
    (catS ([115, 101, 103, 45] : List UInt8) z4).bind fun z6 =>
    (lenS z6).bind fun z7 =>
    jn (fun (y9 : (List UInt8)) =>
      (some y9)) fun j1 =>
    m_store_Name_L1 j1 fuel z7 x0 (W64 ((z7.length : Int) - 1)))
def m_disk_Disk_Down (x0 : PD) : Option Bool :=
  some x0.down
def m_disk_Disk_Names (x0 : PD) : Option (List (List UInt8)) :=
  if (∀ k ∈ x0.files.map (·.1), k.length ≤ 1000000) ∧ x0.files.length ≤ 1000000 then some x0.names else none
def m_crc_Of (x0 : (List UInt8)) : Option UInt32 :=
  if x0.length ≤ 1073741824 then some (moreC 0 x0) else none
def m_crc_More (x0 : UInt32) (x1 : (List UInt8)) : Option UInt32 :=
  if x1.length ≤ 1073741824 then some (moreC x0 x1) else none
def m_frame_sum (x0 : (List UInt8)) (x1 : (List UInt8)) : Option UInt32 :=
  (m_crc_Of x0).bind fun p5 =>
  (m_crc_More p5 x1).bind fun p7 =>
  some p7
def m_store_tiles (x0 : (List T_api_Span)) (x1 : Int) (x2 : Int) : Option Bool :=
  if (x0.length : Int) = 0 then
  (some (decide (x1 = x2)))
  else
  (none)
def m_store_Open_L1 (p12 : (List (List UInt8))) (j1 : PD → T_store_Store → Option ((Option T_store_Store) × Int × PD)) : Nat → Int → PD → T_store_Store → Option ((Option T_store_Store) × Int × PD)
  | 0, _, _, _ => none
  | n + 1, y33, y34, y35 =>
    if y33 < (p12.length : Int) then
    (none)
    else
    (j1 y34 y35)
def m_store_Open (x0 : PD) (x1 : Int) (x2 : Int) : Option ((Option T_store_Store) × Int × PD) :=
  (m_disk_Disk_Down x0).bind fun p1 =>
  if p1 = true then
  (none)
  else
  (if ((x1 < 0) ∨ (x1 > x2)) ∨ (x2 > 4503599627370497) then
    (none)
    else
    ((m_disk_Disk_Names x0).bind fun p12 =>
      jn (fun (y19 : PD) (y20 : T_store_Store) =>
        ((m_store_tiles y20.spans x1 x2).bind fun p25 =>
          if (!p25) = true then
          (some ((none : Option T_store_Store), 15, y19))
          else
          (some ((some y20), 0, y19)))) fun j1 =>
      m_store_Open_L1 p12 j1 fuel 0 x0 ({ spans := ([] : List T_api_Span) } : T_store_Store)))
def m_slices_Clone_api_Span_api_Span (x0 : (List T_api_Span)) : Option (List T_api_Span) :=
  appL [] x0
def m_store_Store_Spans (x0 : T_store_Store) (xD : PD) : Option (List T_api_Span) :=
  (m_slices_Clone_api_Span_api_Span x0.spans).bind fun p10 =>
  some p10
def m_frame_four (x0 : UInt32) : Option (List UInt8) :=
  some ([toU8 ((x0).toNat : Int), toU8 ((x0 >>> UInt32.ofNat 8).toNat : Int), toU8 ((x0 >>> UInt32.ofNat 16).toNat : Int), toU8 ((x0 >>> UInt32.ofNat 24).toNat : Int)] : List UInt8)
def m_frame_Wrap (x0 : (List UInt8)) : Option ((List UInt8) × Int) :=
  if (x0.length : Int) > 65536 then
  (none)
  else
  ((m_frame_four (toU32 (x0.length : Int))).bind fun p7 =>
    (appL ([(165 : UInt8)] : List UInt8) p7).bind fun z10 =>
    (m_frame_sum z10 x0).bind fun p12 =>
    (m_frame_four p12).bind fun p14 =>
    (appL z10 p14).bind fun z17 =>
    (appL z17 x0).bind fun z19 =>
    some (z19, 0))
def m_disk_Disk_Create (x0 : PD) (x1 : (List UInt8)) : Option (Int × PD) :=
  if x0.calls < 4611686018427387904 then some ((x0.create x1).2, (x0.create x1).1) else none
def m_disk_Disk_Append (x0 : PD) (x1 : (List UInt8)) (x2 : (List UInt8)) : Option (Int × PD) :=
  if x0.calls < 4611686018427387904 ∧ (x0.used ≤ x0.cap ∧ x0.cap ≤ 4194304) ∧ x2.length ≤ 1073741824 then some ((x0.append x1 x2).2, (x0.append x1 x2).1) else none
def m_disk_Disk_Sync (x0 : PD) (x1 : (List UInt8)) : Option (Int × PD) :=
  if x0.calls < 4611686018427387904 then some ((x0.sync x1).2, (x0.sync x1).1) else none
def m_store_Store_Put (x0 : T_store_Store) (x1 : Int) (x2 : (List UInt8)) (xD : PD) : Option (Int × PD) :=
  (m_store_Name x1).bind fun p3 =>
  if p3 = ([] : List UInt8) then
  (none)
  else
  ((m_frame_Wrap x2).bind fun p6 =>
    if p6.2 = 0 then
    ((m_disk_Disk_Create xD p3).bind fun p13 =>
      if p13.1 ≠ 0 then
      (none)
      else
      ((m_disk_Disk_Append p13.2 p3 p6.1).bind fun p18 =>
        if p18.1 = 0 then
        ((m_disk_Disk_Sync p18.2 p3).bind fun p27 =>
          if (p27.1 ≠ 0) ∧ (p27.1 ≠ 13) then
          (none)
          else
          (some (p27.1, p27.2)))
        else
        (none)))
    else
    (none))
def m_store_Store_Keep (x0 : T_store_Store) (x1 : T_api_Span) (xD : PD) : Option (Bool × T_store_Store) :=
  jn (fun (y12 : Bool) =>
    (if y12 = true then
      (some (false, x0))
      else
      (jn (fun (y16 : T_store_Store) =>
          (some (true, y16))) fun j2 =>
        (appL x0.spans ([x1] : List T_api_Span)).bind fun z27 =>
        j2 ({ spans := z27 } : T_store_Store)))) fun j1 =>
  if x1.First ≥ x1.End then
  (none)
  else
  (if (x0.spans.length : Int) > 0 then
    ((idx x0.spans (W64 ((x0.spans.length : Int) - 1))).bind fun z61 =>
      j1 (decide (z61.End ≠ x1.First)))
    else
    (j1 false))
def m_limnographlaw22_awake  : Option Bool :=
  (m_disk_New ([] : List T_api_File) 1000).bind fun p1 =>
  jn (fun (y7 : Bool) =>
    (if y7 = true then
      (none)
      else
      ((p1).bind fun z11 =>
        (m_store_Open z11 0 0).bind fun p10 =>
        (m_store_Open p10.2.2 0 1).bind fun p17 =>
        jn (fun (y27 : Bool) =>
          (jn (fun (y34 : Bool) =>
              (jn (fun (y38 : Bool) (y39 : PD) =>
                  (jn (fun (y43 : Bool) (y44 : (Option T_store_Store)) =>
                      (jn (fun (y48 : Bool) =>
                          (some y48)) fun j6 =>
                        if y43 = true then
                        ((y44).bind fun z52 =>
                          (m_store_Store_Keep z52 ({ First := 4, End := 6 } : T_api_Span) y39).bind fun p51 =>
                          j6 (!p51.1))
                        else
                        (none))) fun j5 =>
                    if y38 = true then
                    ((p10.1).bind fun z60 =>
                      (m_store_Store_Keep z60 ({ First := 3, End := 5 } : T_api_Span) y39).bind fun p59 =>
                      j5 p59.1 (some p59.2))
                    else
                    (none))) fun j4 =>
                if y34 = true then
                ((p10.1).bind fun z74 =>
                  (m_store_Store_Put z74 3 ([(120 : UInt8)] : List UInt8) p17.2.2).bind fun p73 =>
                  j4 (decide (p73.1 = 0)) p73.2)
                else
                (none))) fun j3 =>
            if (y27 = true) ∧ (p17.2.1 = 15) then
            ((p10.1).bind fun z85 =>
              (m_store_Store_Spans z85 p17.2.2).bind fun p84 =>
              j3 (decide ((p84.length : Int) = 0)))
            else
            (none))) fun j2 =>
        if ((!((p10.1).isNone)) = true) ∧ (p10.2.1 = 0) then
        (j2 ((p17.1).isNone))
        else
        (none)))) fun j1 =>
  if ((p1).isNone) = true then
  (none)
  else
  ((m_store_Name 7).bind fun p92 =>
    j1 (decide (p92 ≠ ([115, 101, 103, 45, 48, 48, 48, 48, 48, 48, 48, 48, 48, 48, 48, 48, 48, 48, 48, 55] : List UInt8))))
def m_limnographref22_Name_L1 (j1 : (List UInt8) → Option (List UInt8)) : Nat → Int → (List UInt8) → Int → Option (List UInt8)
  | 0, _, _, _ => none
  | n + 1, y7, y8, y9 =>
    if y9 < 16 then
    ((remZ y7 10).bind fun z12 =>
      (catS ([toU8 (W64 (48 + z12))] : List UInt8) y8).bind fun z16 =>
      (quoZ y7 10).bind fun z17 =>
      m_limnographref22_Name_L1 j1 n z17 z16 (W64 (y9 + 1)))
    else
    (j1 y8)
def m_limnographref22_Name (x0 : Int) : Option (List UInt8) :=
  if (x0 < 0) ∨ (x0 > 4503599627370496) then
  (some ([] : List UInt8))
  else
  (jn (fun (y4 : (List UInt8)) =>
      ((catS ([115, 101, 103, 45] : List UInt8) y4).bind fun z6 =>
        some z6)) fun j1 =>
    m_limnographref22_Name_L1 j1 fuel x0 ([] : List UInt8) 0)
def m_limnographlaw22_StoreNames (x0 : Int) (x1 : Int) : Option Bool :=
  (m_limnographlaw22_awake ).bind fun p1 =>
  if (!p1) = true then
  (some false)
  else
  ((m_store_Name x0).bind fun p4 =>
    (m_store_Name x1).bind fun p6 =>
    (m_limnographref22_Name x0).bind fun p8 =>
    jn (fun (y10 : Bool) =>
      (if y10 = true then
        (some false)
        else
        (some (decide (((p4 = ([] : List UInt8)) ∨ (p6 = ([] : List UInt8))) ∨ (Op.bytesLess p4 p6 = decide (x0 < x1))))))) fun j1 =>
    if p4 ≠ p8 then
    (j1 true)
    else
    ((m_limnographref22_Name x1).bind fun p18 =>
      j1 (decide (p6 ≠ p18))))
end Go.Proofs.YtlfppodekihcmaaGreatDoor
