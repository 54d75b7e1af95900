import Derived.Test.YtpcpfjpcfcbopaaGreatDoorVC2
namespace Go.Proofs.YtpcpfjpcfcbopaaGreatDoor
open Go Go.RowKit Go.Wk
structure T_api_Match where
 Key:(List UInt8)
 Glob:(List UInt8)
 Not:Bool
 deriving DecidableEq
def T_api_Match.rep:Rep T_api_Match:=Rep.map (λx=>(x.Key,(x.Glob,x.Not))) (Rep.two textR (Rep.two textR boolR))
structure T_api_Pair where
 Key:(List UInt8)
 Val:(List UInt8)
 deriving DecidableEq
def T_api_Pair.rep:Rep T_api_Pair:=Rep.map (λx=>(x.Key,x.Val)) (Rep.two textR textR)
theorem T_api_Pair.flat:T_api_Pair.rep.Flat:=map_flat _ (two_flat text_flat text_flat)
structure T_api_Side where
 Offset:Int
 Counts:(List UInt64)
 deriving DecidableEq
def T_api_Side.rep:Rep T_api_Side:=Rep.map (λx=>(x.Offset,x.Counts)) (Rep.two (intR .i64) (Rep.sl w64R))
structure T_api_Hist where
 Scale:Int
 Zero:UInt64
 Pos:T_api_Side
 Neg:T_api_Side
 deriving DecidableEq
def T_api_Hist.rep:Rep T_api_Hist:=Rep.map (λx=>(x.Scale,(x.Zero,(x.Pos,x.Neg)))) (Rep.two (intR .i64) (Rep.two w64R (Rep.two T_api_Side.rep T_api_Side.rep)))
structure T_api_Point where
 Name:(List UInt8)
 Attrs:(List T_api_Pair)
 Kind:Int
 Temp:Int
 Mono:Bool
 Start:Int
 Time:Int
 Int_:Int
 Re:UInt64
 Im:UInt64
 Hist:T_api_Hist
 Flags:Int
 deriving DecidableEq
def T_api_Point.rep:Rep T_api_Point:=Rep.map (λx=>(x.Name,(x.Attrs,(x.Kind,(x.Temp,(x.Mono,(x.Start,(x.Time,(x.Int_,(x.Re,(x.Im,(x.Hist,x.Flags)))))))))))) (Rep.two textR (Rep.two (Rep.sl T_api_Pair.rep) (Rep.two (intR .i64) (Rep.two (intR .i64) (Rep.two boolR (Rep.two (intR .i64) (Rep.two (intR .i64) (Rep.two (intR .i64) (Rep.two w64R (Rep.two w64R (Rep.two T_api_Hist.rep (intR .i64))))))))))))
structure T_arr2_api_Side where
 a0:T_api_Side
 a1:T_api_Side
 deriving DecidableEq
structure T_index_Index where
 keys:(List (List UInt8))
 rows:(Ko T_api_Pair Int)
 deriving DecidableEq
structure T_glob_set where
 a0:UInt64
 a1:UInt64
 a2:UInt64
 a3:UInt64
 deriving DecidableEq
def T_glob_set.rep:Rep T_glob_set:=Rep.map (λx=>(x.a0,(x.a1,(x.a2,x.a3)))) (Rep.two w64R (Rep.two w64R (Rep.two w64R w64R)))
theorem T_glob_set.flat:T_glob_set.rep.Flat:=map_flat _ (two_flat w64_flat (two_flat w64_flat (two_flat w64_flat w64_flat)))
structure T_glob_piece where
 kind:Int
 set:T_glob_set
 plain:Bool
 c:UInt8
 deriving DecidableEq
def T_glob_piece.rep:Rep T_glob_piece:=Rep.map (λx=>(x.kind,(x.set,(x.plain,x.c)))) (Rep.two (intR .i64) (Rep.two T_glob_set.rep (Rep.two boolR byteR)))
theorem T_glob_piece.flat:T_glob_piece.rep.Flat:=map_flat _ (two_flat (int_flat _) (two_flat T_glob_set.flat (two_flat bool_flat byte_flat)))
structure T_glob_fault where
 at_:Int
 e:Int
 deriving DecidableEq
structure T_glob_Glob where
 text:(List UInt8)
 pieces:(List T_glob_piece)
 deriving DecidableEq
structure T_pack_Writer where
 b:(List UInt8)
 deriving DecidableEq
structure T_limnographref32_Piece where
 Many:Bool
 Plain:Bool
 In:(List Bool)
 C:UInt8
 deriving DecidableEq
def T_limnographref32_Piece.rep:Rep T_limnographref32_Piece:=Rep.map (λx=>(x.Many,(x.Plain,(x.In,x.C)))) (Rep.two boolR (Rep.two boolR (Rep.two (Rep.sl boolR) byteR)))
structure T_limnographref32_Got where
 L:(List T_limnographref32_Piece)
 At:Int
 E:Int
 deriving DecidableEq
structure T_limnographref32_Thing where
 C:UInt8
 Next:Int
 deriving DecidableEq
structure T_limnographref11_Got where
 Name:(List UInt8)
 Attrs:(List T_api_Pair)
 At:Int
 E:Int
 deriving DecidableEq
structure T_limnographref35_Chosen where
 L:(List Int)
 At:Int
 E:Int
 deriving DecidableEq
def kv71:T_api_Pair→Value:=λp=>.agg [Str (p.Key),Str (p.Val)].toArray
def T_index_Index.sh (b:Nat) (x:T_index_Index):List Rs→Prop:=λL=>∃ (A1_0:Option Addr) (c1_0:Nat) (F1_1:(Nat→Prop)) (m1_1:Nat),L=[boxR b 57 [.slice A1_0 (x.keys).length c1_0,.map (some m1_1)],ownR 9 A1_0 c1_0 textR x.keys,mapO F1_1 kv71 3 (intR .i64) m1_1 x.rows]
def T_index_Index.obj (F:Nat→Prop) (b:Nat) (x:T_index_Index):Rs:=objR F (T_index_Index.sh b x)
def T_glob_Glob.sh (b:Nat) (x:T_glob_Glob):List Rs→Prop:=λL=>∃ (A1_0:Option Addr) (c1_0:Nat),L=[boxR b 105 [Str (x.text),.slice A1_0 (x.pieces).length c1_0],ownR 109 A1_0 c1_0 T_glob_piece.rep x.pieces]
def T_glob_Glob.obj (F:Nat→Prop) (b:Nat) (x:T_glob_Glob):Rs:=objR F (T_glob_Glob.sh b x)
theorem T_glob_Glob.oflat (F:Nat→Prop) (b:Nat) (x:T_glob_Glob):(T_glob_Glob.obj F b x).Flat:=objR_flat λL hL=>by
 obtain ⟨_,_,rfl⟩:=hL;exact (flC (boxR_flat _ _ _) (flC (ownR_flat T_glob_piece.flat _ _ _ _) fl0))
def T_pack_Writer.sh (b:Nat) (x:T_pack_Writer):List Rs→Prop:=λL=>∃ (A1_0:Option Addr) (c1_0:Nat),L=[boxR b 129 [.slice A1_0 (x.b).length c1_0],ownR 5 A1_0 c1_0 byteR x.b]
def T_pack_Writer.obj (F:Nat→Prop) (b:Nat) (x:T_pack_Writer):Rs:=objR F (T_pack_Writer.sh b x)
theorem T_pack_Writer.oflat (F:Nat→Prop) (b:Nat) (x:T_pack_Writer):(T_pack_Writer.obj F b x).Flat:=objR_flat λL hL=>by
 obtain ⟨_,_,rfl⟩:=hL;exact (flC (boxR_flat _ _ _) (flC (ownR_flat byte_flat _ _ _ _) fl0))
def m_internal_stringslite_IndexByte (x0:(List UInt8)) (x1:UInt8):Option Int:=
 some (Lib.indexByte x0 x1)
def m_internal_stringslite_Index (x0:(List UInt8)) (x1:(List UInt8)):Option Int:=
 if ((x1.length:Int)=0)∨(x1=x0) then
 (some 0)
 else
 (if (x1.length:Int)=1 then
  ((idx x1 0).bind λz5=>
   (m_internal_stringslite_IndexByte x0 z5).bind λp6=>
   some p6)
  else
  (if (x1.length:Int)≥(x0.length:Int) then
   (some (-1))
   else
   (none)))
def m_internal_stringslite_Cut (x0:(List UInt8)) (x1:(List UInt8)):Option ((List UInt8)×(List UInt8)×Bool):=
 (m_internal_stringslite_Index x0 x1).bind λp1=>
 if p1≥0 then
 ((cutL x0 0 p1).bind λz5=>
  (cutL x0 (W64 (p1+(x1.length:Int))) ((x0).length)).bind λz6=>
  some (z5,z6,true))
 else
 (some (x0,([]:List UInt8),false))
def m_strings_Cut (x0:(List UInt8)) (x1:(List UInt8)):Option ((List UInt8)×(List UInt8)×Bool):=
 (m_internal_stringslite_Cut x0 x1).bind λp1=>
 some (p1.1,p1.2.1,p1.2.2)
def m_label_small (x0:UInt8):Option Bool:=
 some (decide ((((x0).toNat:Int)≥97)∧(((x0).toNat:Int)≤122)))
def m_label_isName_L1 (z6:(List UInt8)) (j2:Unit→Option Bool):Nat→Int→Option Bool
 | 0,_=>none
 | n+1,y9=>
  if y9<(z6.length:Int) then
  ((idx z6 y9).bind λz12=>
   (m_label_small z12).bind λp14=>
   if ((((!p14)=true)∧((((z12).toNat:Int)<48)∨(((z12).toNat:Int)>57)))∧(((z12).toNat:Int)≠95))∧(((z12).toNat:Int)≠46) then
   (some false)
   else
   (m_label_isName_L1 z6 j2 n (W64 (y9+1))))
  else
  (j2 ())
def m_label_isName (x0:(List UInt8)):Option Bool:=
 jn (λ(y3:Bool)=>
  (if y3=true then
   (some false)
   else
   ((lenS x0).bind λz6=>
    jn (λ(_:Unit)=>
     (some true)) λj2=>
    m_label_isName_L1 z6 j2 fuel 0))) λj1=>
 if (x0=([]:List UInt8))∨((x0.length:Int)>32) then
 (j1 true)
 else
 ((idx x0 0).bind λz26=>
  (m_label_small z26).bind λp27=>
  j1 (!p27))
def m_label_isValue_L1 (z4:(List UInt8)) (j1:Unit→Option Bool):Nat→Int→Option Bool
 | 0,_=>none
 | n+1,y7=>
  if y7<(z4.length:Int) then
  ((idx z4 y7).bind λz10=>
   jn (λ(y12:Bool)=>
    (if y12=true then
     (some false)
     else
     (m_label_isValue_L1 z4 j1 n (W64 (y7+1))))) λj2=>
   if ((z10).toNat:Int)<33 then
   (j2 (decide (((z10).toNat:Int)<33)))
   else
   (if ((z10).toNat:Int)>126 then
    (j2 (decide (((z10).toNat:Int)>126)))
    else
    (if ((z10).toNat:Int)=61 then
     (j2 (decide (((z10).toNat:Int)=61)))
     else
     (if ((z10).toNat:Int)=59 then
      (j2 (decide (((z10).toNat:Int)=59)))
      else
      (j2 (decide (((z10).toNat:Int)=44)))))))
  else
  (j1 ())
def m_label_isValue (x0:(List UInt8)):Option Bool:=
 if (x0=([]:List UInt8))∨((x0.length:Int)>32) then
 (some false)
 else
 ((lenS x0).bind λz4=>
  jn (λ(_:Unit)=>
   (some true)) λj1=>
  m_label_isValue_L1 z4 j1 fuel 0)
def m_label_pair (x0:(List UInt8)):Option (T_api_Pair×Int):=
 (m_strings_Cut x0 ([61]:List UInt8)).bind λp4=>
 jn (λ(y6:Bool)=>
  (jn (λ(y8:Bool)=>
   (if y8=true then
    (some ((⟨([]:List UInt8),([]:List UInt8)⟩:T_api_Pair),3))
    else
    (some ((⟨p4.1,p4.2.1⟩:T_api_Pair),0)))) λj2=>
   if y6=true then
   (j2 true)
   else
   ((m_label_isValue p4.2.1).bind λp16=>
    j2 (!p16)))) λj1=>
 if (!p4.2.2)=true then
 (j1 true)
 else
 ((m_label_isName p4.1).bind λp19=>
  j1 (!p19))
def m_label_follows_L1 (x0:(List T_api_Pair)) (x1:(List UInt8)) (j1:Unit→Option Int):Nat→Int→Option Int
 | 0,_=>none
 | n+1,y7=>
  if y7<(x0.length:Int) then
  ((idx x0 y7).bind λz10=>
   if z10.Key=x1 then
   (some 8)
   else
   (m_label_follows_L1 x0 x1 j1 n (W64 (y7+1))))
  else
  (j1 ())
def m_label_follows (x0:(List T_api_Pair)) (x1:(List UInt8)):Option Int:=
 jn (λ(_:Unit)=>
  ((idx x0 (W64 ((x0.length:Int)-1))).bind λz4=>
   if (Op.bytesLess x1 z4.Key)=true then
   (some 9)
   else
   (some 0))) λj1=>
 m_label_follows_L1 x0 x1 j1 fuel 0
def m_label_Parse_L1 (j1:(List T_api_Pair)→Option ((List UInt8)×(List T_api_Pair)×Int×Int)):Nat→(List T_api_Pair)→Int→(List UInt8)→Bool→Option ((List UInt8)×(List T_api_Pair)×Int×Int)
 | 0,_,_,_,_=>none
 | n+1,y12,y15,y16,y17=>
  if y17=true then
  ((m_strings_Cut y16 ([59]:List UInt8)).bind λp22=>
   (m_label_pair p22.1).bind λp24=>
   jn (λ(y29:Int)=>
    (jn (λ(y33:Int)=>
     (if y33≠0 then
      (some (([]:List UInt8),([]:List T_api_Pair),y15,y33))
      else
      ((appL y12 [p24.1]).bind λz38=>
       m_label_Parse_L1 j1 n z38 (W64 (y15+(W64 ((p22.1.length:Int)+1)))) p22.2.1 p22.2.2))) λj3=>
     if (y29=0)∧((y12.length:Int)>0) then
     ((m_label_follows y12 p24.1.Key).bind λp41=>
      j3 p41)
     else
     (j3 y29))) λj2=>
   if (y12.length:Int)=4 then
   (j2 4)
   else
   (j2 p24.2))
  else
  (j1 y12)
def m_label_Parse (x0:(List UInt8)):Option ((List UInt8)×(List T_api_Pair)×Int×Int):=
 (m_strings_Cut x0 ([59]:List UInt8)).bind λp1=>
 (m_label_isName p1.1).bind λp3=>
 if (!p3)=true then
 (some (([]:List UInt8),([]:List T_api_Pair),0,3))
 else
 (jn (λ(y8:(List T_api_Pair))=>
  (some (p1.1,y8,0,0))) λj1=>
  m_label_Parse_L1 j1 fuel ([]:List T_api_Pair) (W64 ((p1.1.length:Int)+1)) p1.2.1 p1.2.2)
def m_label_Check_1 (x0:T_api_Pair) (x1:T_api_Pair):Option Bool:=
 some (decide (x0.Key=x1.Key))
def m_slices_IndexFunc_api_Pair_api_Pair_s1_L1 (x0:(List T_api_Pair)) (x1_0:T_api_Pair) (j1:Unit→Option Int):Nat→Int→Option Int
 | 0,_=>none
 | n+1,y6=>
  if y6<(x0.length:Int) then
  ((idx x0 y6).bind λz9=>
   (m_label_Check_1 z9 x1_0).bind λp11=>
   if p11=true then
   (some y6)
   else
   (m_slices_IndexFunc_api_Pair_api_Pair_s1_L1 x0 x1_0 j1 n (W64 (y6+1))))
  else
  (j1 ())
def m_slices_IndexFunc_api_Pair_api_Pair_s1 (x0:(List T_api_Pair)) (x1_0:T_api_Pair):Option Int:=
 jn (λ(_:Unit)=>
  (some (-1))) λj1=>
 m_slices_IndexFunc_api_Pair_api_Pair_s1_L1 x0 x1_0 j1 fuel 0
def m_slices_ContainsFunc_api_Pair_api_Pair_s2 (x0:(List T_api_Pair)) (x1_0:T_api_Pair):Option Bool:=
 (m_slices_IndexFunc_api_Pair_api_Pair_s1 x0 x1_0).bind λp5=>
 some (decide (p5≥0))
def m_label_Check_L1 (x1:(List T_api_Pair)) (j1:Unit→Option Int):Nat→Int→Option Int
 | 0,_=>none
 | n+1,y8=>
  if y8<(x1.length:Int) then
  ((idx x1 y8).bind λz11=>
   (m_label_isName z11.Key).bind λp18=>
   jn (λ(y20:Bool)=>
    (if y20=true then
     (some 3)
     else
     ((cutL x1 0 y8).bind λz23=>
      (m_slices_ContainsFunc_api_Pair_api_Pair_s2 z23 z11).bind λp25=>
      if p25=true then
      (some 8)
      else
      (m_label_Check_L1 x1 j1 n (W64 (y8+1)))))) λj2=>
   if (!p18)=true then
   (j2 true)
   else
   ((m_label_isValue z11.Val).bind λp29=>
    j2 (!p29)))
  else
  (j1 ())
def m_label_Check (x0:(List UInt8)) (x1:(List T_api_Pair)):Option Int:=
 (m_label_isName x0).bind λp3=>
 if (!p3)=true then
 (some 3)
 else
 (if (x1.length:Int)>4 then
  (some 4)
  else
  (jn (λ(_:Unit)=>
   (some 0)) λj1=>
   m_label_Check_L1 x1 j1 fuel 0))
def m_point_kinds (x0:T_api_Point):Option Bool:=
 if x0.Kind=3 then
 (some (decide (x0.Temp=0)))
 else
 (jn (λ(y14:Bool)=>
  (if y14=true then
   (some (decide ((x0.Temp=1)∨(x0.Temp=2))))
   else
   (some false))) λj1=>
  if x0.Kind=1 then
  (j1 (decide (x0.Kind=1)))
  else
  (if x0.Kind=2 then
   (j1 (decide (x0.Kind=2)))
   else
   (if x0.Kind=4 then
    (j1 (decide (x0.Kind=4)))
    else
    (j1 (decide (x0.Kind=5))))))
def m_point_sum (x0:T_api_Point):Option Bool:=
 some (decide ((x0.Kind=1)∨(x0.Kind=2)))
def m_point_times (x0:T_api_Point):Option Bool:=
 if (x0.Start<0)∨(x0.Time>4503599627370496) then
 (some false)
 else
 (if x0.Kind=3 then
  (some (decide (x0.Start=x0.Time)))
  else
  (some (decide (x0.Start<x0.Time))))
def m_point_bare (x0:T_api_Hist):Option Bool:=
 jn (λ(y16:Bool)=>
  (some y16)) λj1=>
 if (((x0.Scale=0)∧(((x0.Zero).toNat:Int)=0))∧(x0.Pos.Offset=0))∧(x0.Neg.Offset=0) then
 (j1 (decide (W64 ((x0.Pos.Counts.length:Int)+(x0.Neg.Counts.length:Int))=0)))
 else
 (j1 false)
def m_point_own (x0:T_api_Point):Option Bool:=
 jn (λ(y19:Bool)=>
  (if y19=true then
   (some false)
   else
   (some true))) λj1=>
 if (x0.Kind≠1)∧(x0.Int_≠0) then
 (j1 (decide ((x0.Kind≠1)∧(x0.Int_≠0))))
 else
 (if (¬(((x0.Kind=2)∨(x0.Kind=3))∨(x0.Kind=5)))∧(((x0.Re).toNat:Int)≠0) then
  (j1 (decide ((¬(((x0.Kind=2)∨(x0.Kind=3))∨(x0.Kind=5)))∧(((x0.Re).toNat:Int)≠0))))
  else
  (if (x0.Kind≠5)∧(((x0.Im).toNat:Int)≠0) then
   (j1 (decide ((x0.Kind≠5)∧(((x0.Im).toNat:Int)≠0))))
   else
   (jn (λ(y29:Bool)=>
    (if y29=true then
     (j1 y29)
     else
     (j1 (decide ((x0.Flags<0)∨(x0.Flags>31)))))) λj2=>
    if x0.Kind≠4 then
    ((m_point_bare x0.Hist).bind λp35=>
     j2 (!p35))
    else
    (j2 false))))
def m_num_Finite (x0:UInt64):Option Bool:=
 some (decide (((x0&&&(9218868437227405312:UInt64)).toNat:Int)≠9218868437227405312))
def m_num_of (x0:UInt64):Option UInt64:=
 some x0
def m_num_Less (x0:UInt64) (x1:UInt64):Option Bool:=
 (m_num_of x0).bind λp1=>
 (m_num_of x1).bind λp3=>
 some (fltLt p1 p3)
def m_hist_sides (x0:T_api_Hist):Option T_arr2_api_Side:=
 some (⟨x0.Pos,x0.Neg⟩:T_arr2_api_Side)
def m_hist_check (x0:T_api_Side):Option Int:=
 if (x0.Counts.length:Int)>160 then
 (some 4)
 else
 (if ((x0.Counts.length:Int)=0)∧(x0.Offset≠0) then
  (some 3)
  else
  (if (x0.Counts.length:Int)=0 then
   (some 0)
   else
   ((idx x0.Counts 0).bind λz12=>
    jn (λ(y14:Bool)=>
     (if y14=true then
      (some 3)
      else
      (jn (λ(y17:Bool)=>
       (if y17=true then
        (some 1)
        else
        (some 0))) λj2=>
       if x0.Offset<(-1073741824) then
       (j2 true)
       else
       (j2 (decide (x0.Offset>W64 (1073741824-(W64 ((x0.Counts.length:Int)-1))))))))) λj1=>
    if ((z12).toNat:Int)=0 then
    (j1 true)
    else
    ((idx x0.Counts (W64 ((x0.Counts.length:Int)-1))).bind λz22=>
     j1 (decide (((z22).toNat:Int)=0))))))
def m_hist_Total_L2 (z23:T_api_Side) (j2:UInt64→UInt64→Option (UInt64×Bool)):Nat→UInt64→UInt64→Int→Option (UInt64×Bool)
 | 0,_,_,_=>none
 | n+1,y32,y33,y34=>
  if y34<(z23.Counts.length:Int) then
  ((idx z23.Counts y34).bind λz37=>
   m_hist_Total_L2 z23 j2 n (y32+z37) (y33|||(cry y32 z37)) (W64 (y34+1)))
  else
  (j2 y32 y33)
def m_hist_Total_L1 (p10:T_arr2_api_Side) (j1:UInt64→UInt64→Option (UInt64×Bool)):Nat→UInt64→UInt64→Int→Option (UInt64×Bool)
 | 0,_,_,_=>none
 | n+1,y18,y19,y20=>
  if y20<2 then
  ((idx ([p10.a0,p10.a1]:List T_api_Side) y20).bind λz23=>
   jn (λ(y29:UInt64) (y30:UInt64)=>
    (m_hist_Total_L1 p10 j1 n y29 y30 (W64 (y20+1)))) λj2=>
   m_hist_Total_L2 z23 j2 fuel y18 y19 0)
  else
  (j1 y18 y19)
def m_hist_Total (x0:T_api_Hist):Option (UInt64×Bool):=
 (m_hist_sides x0).bind λp10=>
 jn (λ(y14:UInt64) (y15:UInt64)=>
  (if ((y15).toNat:Int)≠0 then
   (some ((0:UInt64),false))
   else
   (some (y14,true)))) λj1=>
 m_hist_Total_L1 p10 j1 fuel x0.Zero (0:UInt64) 0
def m_hist_Check_L1 (p13:T_arr2_api_Side) (j1:Unit→Option Int):Nat→Int→Option Int
 | 0,_=>none
 | n+1,y21=>
  if y21<2 then
  ((idx ([p13.a0,p13.a1]:List T_api_Side) y21).bind λz24=>
   (m_hist_check z24).bind λp30=>
   if p30≠0 then
   (some p30)
   else
   (m_hist_Check_L1 p13 j1 n (W64 (y21+1))))
  else
  (j1 ())
def m_hist_Check (x0:T_api_Hist):Option Int:=
 if (x0.Scale<(-10))∨(x0.Scale>20) then
 (some 1)
 else
 ((m_hist_sides x0).bind λp13=>
  jn (λ(_:Unit)=>
   ((m_hist_Total x0).bind λp18=>
    if (!p18.2)=true then
    (some 4)
    else
    (some 0))) λj1=>
  m_hist_Check_L1 p13 j1 fuel 0)
def m_point_Check (x0:T_api_Point):Option Int:=
 (m_label_Check x0.Name x0.Attrs).bind λp13=>
 if p13≠0 then
 (some p13)
 else
 ((m_point_kinds x0).bind λp16=>
  if (!p16)=true then
  (some 14)
  else
  (jn (λ(y19:Bool)=>
   (jn (λ(y21:Bool)=>
    (if y21=true then
     (some 1)
     else
     ((m_point_own x0).bind λp24=>
      if (!p24)=true then
      (some 3)
      else
      (jn (λ(y29:Bool)=>
       (if y29=true then
        (some 11)
        else
        (jn (λ(y32:Bool)=>
         (if y32=true then
          (some 1)
          else
          (if x0.Kind=4 then
           ((m_hist_Check x0.Hist).bind λp36=>
            some p36)
           else
           (some 0)))) λj4=>
         if x0.Mono=true then
         (jn (λ(y39:Bool)=>
          (j4 y39)) λj5=>
          if x0.Int_<0 then
          (j5 true)
          else
          ((m_num_Less x0.Re (0:UInt64)).bind λp42=>
           j5 p42))
         else
         (j4 false)))) λj3=>
       if (x0.Mono=true)∧(x0.Kind=2) then
       ((m_num_Finite x0.Re).bind λp45=>
        j3 (!p45))
       else
       (j3 false))))) λj2=>
    if y19=true then
    (j2 y19)
    else
    ((m_point_times x0).bind λp48=>
     j2 (!p48)))) λj1=>
   if x0.Mono=true then
   ((m_point_sum x0).bind λp51=>
    j1 (!p51))
   else
   (j1 false)))
def m_chunk_Series (x0:(List UInt8)):Option (T_api_Point×Int):=
 (m_strings_Cut x0 ([32]:List UInt8)).bind λp4=>
 (m_label_Parse p4.1).bind λp6=>
 jn (λ(y13:Bool)=>
  (if y13=true then
   (some ((⟨([]:List UInt8),([]:List T_api_Pair),0,0,false,0,0,0,(0:UInt64),(0:UInt64),(⟨0,(0:UInt64),(⟨0,([]:List UInt64)⟩:T_api_Side),(⟨0,([]:List UInt64)⟩:T_api_Side)⟩:T_api_Hist),0⟩:T_api_Point),3))
   else
   ((idx p4.2.1 0).bind λz25=>
    (idx p4.2.1 1).bind λz26=>
    (idx p4.2.1 2).bind λz27=>
    jn (λ(y38:(List UInt8)) (y39:Int) (y40:Int) (y41:Bool) (y42:Int) (y43:Int) (y44:Int) (y45:UInt64) (y46:UInt64) (y47:Int) (y48:UInt64) (y49:Int) (y50:Int) (y51:Int)=>
     ((m_point_Check (⟨y38,p6.2.1,y39,y40,y41,y42,y43,y44,y45,y46,(⟨y47,y48,(⟨y49,[]⟩:T_api_Side),(⟨y50,[]⟩:T_api_Side)⟩:T_api_Hist),y51⟩:T_api_Point)).bind λp53=>
      if p53≠0 then
      (some ((⟨([]:List UInt8),([]:List T_api_Pair),0,0,false,0,0,0,(0:UInt64),(0:UInt64),(⟨0,(0:UInt64),(⟨0,([]:List UInt64)⟩:T_api_Side),(⟨0,([]:List UInt64)⟩:T_api_Side)⟩:T_api_Hist),0⟩:T_api_Point),3))
      else
      (some ((⟨p6.1,p6.2.1,W64 ((z25.toNat:Int)-48),W64 ((z26.toNat:Int)-48),decide (((z27).toNat:Int)=49),0,0,0,(0:UInt64),(0:UInt64),(⟨0,(0:UInt64),(⟨0,([]:List UInt64)⟩:T_api_Side),(⟨0,([]:List UInt64)⟩:T_api_Side)⟩:T_api_Hist),0⟩:T_api_Point),0)))) λj2=>
    if W64 ((z25.toNat:Int)-48)=3 then
    (j2 p6.1 (W64 ((z25.toNat:Int)-48)) (W64 ((z26.toNat:Int)-48)) (decide (((z27).toNat:Int)=49)) 1 1 0 (0:UInt64) (0:UInt64) 0 (0:UInt64) 0 0 0)
    else
    (j2 p6.1 (W64 ((z25.toNat:Int)-48)) (W64 ((z26.toNat:Int)-48)) (decide (((z27).toNat:Int)=49)) 0 1 0 (0:UInt64) (0:UInt64) 0 (0:UInt64) 0 0 0)))) λj1=>
 if (((!p4.2.2)=true)∨(p6.2.2.2≠0))∨((p4.2.1.length:Int)≠3) then
 (j1 true)
 else
 ((idx p4.2.1 2).bind λz74=>
  jn (λ(y75:Bool)=>
   (j1 y75)) λj3=>
  if ((z74).toNat:Int)≠48 then
  ((idx p4.2.1 2).bind λz78=>
   j3 (decide (((z78).toNat:Int)≠49)))
  else
  (j3 false))
def m_index_New_L2 (y20:Int) (z53:(List T_api_Pair)) (j4:T_index_Index→Option ((Option T_index_Index)×Int×Int)):Nat→Int→T_index_Index→Option ((Option T_index_Index)×Int×Int)
 | 0,_,_=>none
 | n+1,y59,y60=>
  if y59<(z53.length:Int) then
  ((idx z53 y59).bind λz63=>
   (appL (lookO z63 y60.rows) ([y20]:List Int)).bind λz77=>
   m_index_New_L2 y20 z53 j4 n (W64 (y59+1)) (⟨y60.keys,(putO z63 z77 y60.rows)⟩:T_index_Index))
  else
  (j4 y60)
def m_index_New_L1 (x0:(List (List UInt8))) (j1:T_index_Index→Option ((Option T_index_Index)×Int×Int)):Nat→Int→(Kv Int)→T_index_Index→Option ((Option T_index_Index)×Int×Int)
 | 0,_,_,_=>none
 | n+1,y20,y21,y22=>
  if y20<(x0.length:Int) then
  ((idx x0 y20).bind λz25=>
   (m_chunk_Series z25).bind λp27=>
   jn (λ(y36:Bool)=>
    (jn (λ(y39:Int)=>
     (if y39≠0 then
      (some ((none:Option T_index_Index),y20,y39))
      else
      ((appL y22.keys [z25]).bind λz49=>
       (appL p27.1.Attrs [(⟨([]:List UInt8),p27.1.Name⟩:T_api_Pair)]).bind λz53=>
       jn (λ(y57:T_index_Index)=>
        (m_index_New_L1 x0 j1 n (W64 (y20+1)) (putP z25 (W64 (((lookP z25 y21).getD 0)+1)) y21) y57)) λj4=>
       m_index_New_L2 y20 z53 j4 fuel 0 (⟨z49,y22.rows⟩:T_index_Index)))) λj3=>
     if y36=true then
     (j3 8)
     else
     (j3 p27.2))) λj2=>
   if p27.2=0 then
   (j2 (decide (((lookP z25 y21).getD 0)>0)))
   else
   (j2 false))
  else
  (j1 y22)
def m_index_New (x0:(List (List UInt8))):Option ((Option T_index_Index)×Int×Int):=
 if (x0.length:Int)>4096 then
 (some ((none:Option T_index_Index),4096,4))
 else
 (jn (λ(y17:T_index_Index)=>
  (some ((some y17),0,0))) λj1=>
  m_index_New_L1 x0 j1 fuel 0 ([]:Kv Int) (⟨([]:List (List UInt8)),([]:Ko T_api_Pair Int)⟩:T_index_Index))
def m_glob_closed_L1 (x0:(List UInt8)) (j1:Int→Option Bool):Nat→Int→Option Bool
 | 0,_=>none
 | n+1,y3=>
  jn (λ(y5:Bool)=>
   (if y5=true then
    ((idx x0 y3).bind λz8=>
     jn (λ(y9:Int)=>
      (m_glob_closed_L1 x0 j1 n (W64 (y9+1)))) λj3=>
     if ((z8).toNat:Int)=92 then
     (j3 (W64 (y3+1)))
     else
     (j3 y3))
    else
    (j1 y3))) λj2=>
  if y3<(x0.length:Int) then
  ((idx x0 y3).bind λz13=>
   j2 (decide (((z13).toNat:Int)≠93)))
  else
  (j2 false)
def m_glob_closed (x0:(List UInt8)) (x1:Int):Option Bool:=
 jn (λ(y1:Int)=>
  (some (decide (y1<(x0.length:Int))))) λj1=>
 m_glob_closed_L1 x0 j1 fuel x1
def m_glob_member (x0:(List UInt8)) (x1:Int):Option (UInt8×Int):=
 (idx x0 x1).bind λz1=>
 if ((z1).toNat:Int)=92 then
 ((idx x0 (W64 (x1+1))).bind λz3=>
  some (z3,2))
 else
 ((idx x0 x1).bind λz4=>
  some (z4,1))
def m_glob_class_L1 (j5:T_glob_piece→Option (T_glob_piece×Int×T_glob_fault)):Nat→Int→T_glob_piece→Option (T_glob_piece×Int×T_glob_fault)
 | 0,_,_=>none
 | n+1,y46,y47=>
  if y46<4 then
  ((idx ([y47.set.a0,y47.set.a1,y47.set.a2,y47.set.a3]:List UInt64) y46).bind λz50=>
   m_glob_class_L1 j5 n (W64 (y46+1)) (⟨y47.kind,(⟨(if y46=0 then ~~~ z50 else y47.set.a0),(if y46=1 then ~~~ z50 else y47.set.a1),(if y46=2 then ~~~ z50 else y47.set.a2),(if y46=3 then ~~~ z50 else y47.set.a3)⟩:T_glob_set),y47.plain,y47.c⟩:T_glob_piece))
  else
  (j5 y47)
def m_glob_class_L3 (y86:UInt8) (j11:T_glob_piece→Option (T_glob_piece×Int×T_glob_fault)):Nat→Int→T_glob_piece→Option (T_glob_piece×Int×T_glob_fault)
 | 0,_,_=>none
 | n+1,y92,y93=>
  if y92≤(y86.toNat:Int) then
  (jn (λ(y96:T_glob_piece)=>
   (m_glob_class_L3 y86 j11 n (W64 (y92+1)) y96)) λj12=>
   (quo8 (toU8 y92) (64:UInt8)).bind λz99=>
   (idx ([y93.set.a0,y93.set.a1,y93.set.a2,y93.set.a3]:List UInt64) ((z99).toNat:Int)).bind λz100=>
   (rem8 (toU8 y92) (64:UInt8)).bind λz101=>
   j12 (⟨y93.kind,(⟨(if ((z99).toNat:Int)=0 then z100|||(shl64 (1:UInt64) ((toU64 ((z101).toNat:Int)).toNat)) else y93.set.a0),(if ((z99).toNat:Int)=1 then z100|||(shl64 (1:UInt64) ((toU64 ((z101).toNat:Int)).toNat)) else y93.set.a1),(if ((z99).toNat:Int)=2 then z100|||(shl64 (1:UInt64) ((toU64 ((z101).toNat:Int)).toNat)) else y93.set.a2),(if ((z99).toNat:Int)=3 then z100|||(shl64 (1:UInt64) ((toU64 ((z101).toNat:Int)).toNat)) else y93.set.a3)⟩:T_glob_set),y93.plain,y93.c⟩:T_glob_piece))
  else
  (j11 y93)
def m_glob_class_L2 (x0:(List UInt8)) (j3:Int→T_glob_piece→Option (T_glob_piece×Int×T_glob_fault)):Nat→Int→T_glob_piece→Option (T_glob_piece×Int×T_glob_fault)
 | 0,_,_=>none
 | n+1,y55,y56=>
  (idx x0 y55).bind λz58=>
  if ((z58).toNat:Int)≠93 then
  ((idx x0 y55).bind λz60=>
   if ((z60).toNat:Int)=45 then
   ((idx x0 (W64 (y55+1))).bind λz62=>
    if ((z62).toNat:Int)≠93 then
    (some (y56,0,(⟨y55,3⟩:T_glob_fault)))
    else
    (jn (λ(y68:T_glob_piece)=>
     (m_glob_class_L2 x0 j3 n (W64 (y55+1)) y68)) λj6=>
     (quo8 (45:UInt8) (64:UInt8)).bind λz71=>
     (idx ([y56.set.a0,y56.set.a1,y56.set.a2,y56.set.a3]:List UInt64) ((z71).toNat:Int)).bind λz72=>
     (rem8 (45:UInt8) (64:UInt8)).bind λz73=>
     j6 (⟨y56.kind,(⟨(if ((z71).toNat:Int)=0 then z72|||(shl64 (1:UInt64) ((toU64 ((z73).toNat:Int)).toNat)) else y56.set.a0),(if ((z71).toNat:Int)=1 then z72|||(shl64 (1:UInt64) ((toU64 ((z73).toNat:Int)).toNat)) else y56.set.a1),(if ((z71).toNat:Int)=2 then z72|||(shl64 (1:UInt64) ((toU64 ((z73).toNat:Int)).toNat)) else y56.set.a2),(if ((z71).toNat:Int)=3 then z72|||(shl64 (1:UInt64) ((toU64 ((z73).toNat:Int)).toNat)) else y56.set.a3)⟩:T_glob_set),y56.plain,y56.c⟩:T_glob_piece)))
   else
   ((m_glob_member x0 y55).bind λp78=>
    (idx x0 (W64 (y55+p78.2))).bind λz80=>
    jn (λ(y81:Bool)=>
     (jn (λ(y83:Bool)=>
      (jn (λ(y85:Int) (y86:UInt8)=>
       (jn (λ(y88:T_glob_piece)=>
        (m_glob_class_L2 x0 j3 n (W64 (y55+y85)) y88)) λj10=>
        jn (λ(y90:T_glob_piece)=>
         (j10 y90)) λj11=>
        m_glob_class_L3 y86 j11 fuel (p78.1.toNat:Int) y56)) λj9=>
       if y83=true then
       ((m_glob_member x0 (W64 ((W64 (y55+p78.2))+1))).bind λp107=>
        if ((p107.1).toNat:Int)<((p78.1).toNat:Int) then
        (some (y56,0,(⟨y55,3⟩:T_glob_fault)))
        else
        (j9 (W64 ((W64 (p78.2+1))+p107.2)) p107.1))
       else
       (j9 p78.2 p78.1))) λj8=>
      if y81=true then
      ((idx x0 (W64 ((W64 (y55+p78.2))+1))).bind λz115=>
       j8 (decide (((z115).toNat:Int)≠45)))
      else
      (j8 false))) λj7=>
    if ((z80).toNat:Int)=45 then
    ((idx x0 (W64 ((W64 (y55+p78.2))+1))).bind λz117=>
     j7 (decide (((z117).toNat:Int)≠93)))
    else
    (j7 false)))
  else
  (j3 y55 y56)
def m_glob_class (x0:(List UInt8)) (x1:Int):Option (T_glob_piece×Int×T_glob_fault):=
 jn (λ(y12:Bool)=>
  (jn (λ(y14:Int)=>
   ((m_glob_closed x0 y14).bind λp16=>
    if (!p16)=true then
    (some ((⟨0,(⟨(0:UInt64),(0:UInt64),(0:UInt64),(0:UInt64)⟩:T_glob_set),false,(0:UInt8)⟩:T_glob_piece),0,(⟨x1,2⟩:T_glob_fault)))
    else
    (jn (λ(y23:Int) (y24:T_glob_piece)=>
     (if y23=y14 then
      (some (y24,0,(⟨x1,3⟩:T_glob_fault)))
      else
      (jn (λ(y31:T_glob_piece)=>
       (some (y31,W64 ((W64 (y23+1))-x1),(⟨0,0⟩:T_glob_fault)))) λj4=>
       if y12=true then
       (jn (λ(y44:T_glob_piece)=>
        (j4 y44)) λj5=>
        m_glob_class_L1 j5 fuel 0 y24)
       else
       (j4 y24)))) λj3=>
     m_glob_class_L2 x0 j3 fuel y14 (⟨0,(⟨(0:UInt64),(0:UInt64),(0:UInt64),(0:UInt64)⟩:T_glob_set),false,(0:UInt8)⟩:T_glob_piece)))) λj2=>
   if y12=true then
   (j2 (W64 ((W64 (x1+1))+1)))
   else
   (j2 (W64 (x1+1))))) λj1=>
 if W64 (x1+1)<(x0.length:Int) then
 ((idx x0 (W64 (x1+1))).bind λz120=>
  j1 (decide (((z120).toNat:Int)=33)))
 else
 (j1 false)
def m_glob_byteOf (x0:UInt8):Option T_glob_piece:=
 jn (λ(y7:T_glob_piece)=>
  (some y7)) λj1=>
 (quo8 x0 (64:UInt8)).bind λz10=>
 (idx ([(0:UInt64),(0:UInt64),(0:UInt64),(0:UInt64)]:List UInt64) ((z10).toNat:Int)).bind λz11=>
 (rem8 x0 (64:UInt8)).bind λz12=>
 j1 (⟨0,(⟨(if ((z10).toNat:Int)=0 then z11|||(shl64 (1:UInt64) ((toU64 ((z12).toNat:Int)).toNat)) else (0:UInt64)),(if ((z10).toNat:Int)=1 then z11|||(shl64 (1:UInt64) ((toU64 ((z12).toNat:Int)).toNat)) else (0:UInt64)),(if ((z10).toNat:Int)=2 then z11|||(shl64 (1:UInt64) ((toU64 ((z12).toNat:Int)).toNat)) else (0:UInt64)),(if ((z10).toNat:Int)=3 then z11|||(shl64 (1:UInt64) ((toU64 ((z12).toNat:Int)).toNat)) else (0:UInt64))⟩:T_glob_set),true,x0⟩:T_glob_piece)
def m_glob_next_L1 (j2:T_glob_piece→Option (T_glob_piece×Int×T_glob_fault)):Nat→Int→T_glob_piece→Option (T_glob_piece×Int×T_glob_fault)
 | 0,_,_=>none
 | n+1,y29,y30=>
  if y29≤((255:UInt8).toNat:Int) then
  (jn (λ(y33:T_glob_piece)=>
   (m_glob_next_L1 j2 n (W64 (y29+1)) y33)) λj3=>
   (quo8 (toU8 y29) (64:UInt8)).bind λz36=>
   (idx ([y30.set.a0,y30.set.a1,y30.set.a2,y30.set.a3]:List UInt64) ((z36).toNat:Int)).bind λz37=>
   (rem8 (toU8 y29) (64:UInt8)).bind λz38=>
   j3 (⟨y30.kind,(⟨(if ((z36).toNat:Int)=0 then z37|||(shl64 (1:UInt64) ((toU64 ((z38).toNat:Int)).toNat)) else y30.set.a0),(if ((z36).toNat:Int)=1 then z37|||(shl64 (1:UInt64) ((toU64 ((z38).toNat:Int)).toNat)) else y30.set.a1),(if ((z36).toNat:Int)=2 then z37|||(shl64 (1:UInt64) ((toU64 ((z38).toNat:Int)).toNat)) else y30.set.a2),(if ((z36).toNat:Int)=3 then z37|||(shl64 (1:UInt64) ((toU64 ((z38).toNat:Int)).toNat)) else y30.set.a3)⟩:T_glob_set),y30.plain,y30.c⟩:T_glob_piece))
  else
  (j2 y30)
def m_glob_next (x0:(List UInt8)) (x1:Int):Option (T_glob_piece×Int×T_glob_fault):=
 (idx x0 x1).bind λz9=>
 if ((z9).toNat:Int)=42 then
 (some ((⟨1,(⟨(0:UInt64),(0:UInt64),(0:UInt64),(0:UInt64)⟩:T_glob_set),false,(0:UInt8)⟩:T_glob_piece),1,(⟨0,0⟩:T_glob_fault)))
 else
 (if ((z9).toNat:Int)=63 then
  (jn (λ(y25:T_glob_piece)=>
   (some (y25,1,(⟨0,0⟩:T_glob_fault)))) λj1=>
   jn (λ(y27:T_glob_piece)=>
    (j1 y27)) λj2=>
   m_glob_next_L1 j2 fuel ((0:UInt8).toNat:Int) (⟨0,(⟨(0:UInt64),(0:UInt64),(0:UInt64),(0:UInt64)⟩:T_glob_set),false,(0:UInt8)⟩:T_glob_piece))
  else
  (if ((z9).toNat:Int)=91 then
   ((m_glob_class x0 x1).bind λp54=>
    some (p54.1,p54.2.1,p54.2.2))
   else
   (if ((z9).toNat:Int)=92 then
    (if W64 (x1+1)=(x0.length:Int) then
     (some ((⟨0,(⟨(0:UInt64),(0:UInt64),(0:UInt64),(0:UInt64)⟩:T_glob_set),false,(0:UInt8)⟩:T_glob_piece),0,(⟨x1,2⟩:T_glob_fault)))
     else
     ((idx x0 (W64 (x1+1))).bind λz70=>
      (m_glob_byteOf z70).bind λp71=>
      some (p71,2,(⟨0,0⟩:T_glob_fault))))
    else
    ((idx x0 x1).bind λz83=>
     (m_glob_byteOf z83).bind λp84=>
     some (p84,1,(⟨0,0⟩:T_glob_fault))))))
def m_glob_Compile_L1 (x0:(List UInt8)) (j1:T_glob_Glob→Option ((Option T_glob_Glob)×Int×Int)):Nat→Int→T_glob_Glob→Option ((Option T_glob_Glob)×Int×Int)
 | 0,_,_=>none
 | n+1,y16,y17=>
  if y16<(x0.length:Int) then
  ((m_glob_next x0 y16).bind λp20=>
   if ¬(p20.2.2=(⟨0,0⟩:T_glob_fault)) then
   (some ((none:Option T_glob_Glob),p20.2.2.at_,p20.2.2.e))
   else
   (jn (λ(y36:T_glob_Glob)=>
    (m_glob_Compile_L1 x0 j1 n (W64 (y16+p20.2.1)) y36)) λj2=>
    (appL y17.pieces ([p20.1]:List T_glob_piece)).bind λz47=>
    j2 (⟨y17.text,z47⟩:T_glob_Glob)))
  else
  (j1 y17)
def m_glob_Compile (x0:(List UInt8)):Option ((Option T_glob_Glob)×Int×Int):=
 if (x0.length:Int)>64 then
 (some ((none:Option T_glob_Glob),64,4))
 else
 (jn (λ(y13:T_glob_Glob)=>
  (some ((some y13),0,0))) λj1=>
  m_glob_Compile_L1 x0 j1 fuel 0 (⟨x0,([]:List T_glob_piece)⟩:T_glob_Glob))
def m_index_Index_all_L1 (z9:(List Int)) (j1:(List Int)→Option (List Int)):Nat→(List Int)→Int→Option (List Int)
 | 0,_,_=>none
 | n+1,y13,y14=>
  if y14<(z9.length:Int) then
  ((idx y13 y14).bind λz17=>
   m_index_Index_all_L1 z9 j1 n (setI y13 y14 y14) (W64 (y14+1)))
  else
  (j1 y13)
def m_index_Index_all (x0:T_index_Index):Option (List Int):=
 (mkL (x0.keys.length:Int) (0:Int)).bind λz9=>
 jn (λ(y11:(List Int))=>
  (some y11)) λj1=>
 m_index_Index_all_L1 z9 j1 fuel z9 0
def m_index_Index_Values (x0:T_index_Index) (x1:(List UInt8)):Option (List (List UInt8)):=
 if x0.rows.length≤1000000 then some (((((x0.rows.map λp=>p.1).filter λp=>decide (p.Key=x1)).map λp=>p.Val)).mergeSort leK) else none
def m_index_Or_1 (x0:Bool) (x1:Bool):Option Bool:=
 some true
def m_index_merge_s1_L1 (j1:(List Int)→Option (List Int)):Nat→(List Int)→(List Int)→(List Int)→Option (List Int)
 | 0,_,_,_=>none
 | n+1,y9,y12,y15=>
  if ((y9.length:Int)>0)∨((y12.length:Int)>0) then
  (jn (λ(y24:Bool)=>
   (jn (λ(y26:Bool)=>
    (jn (λ(y28:(List Int)) (y31:Int)=>
     (jn (λ(y33:(List Int)) (y36:Int)=>
      ((m_index_Or_1 y24 y26).bind λp38=>
       if p38=true then
       ((appL y15 [y36]).bind λz41=>
        m_index_merge_s1_L1 j1 n y28 y33 z41)
       else
       (m_index_merge_s1_L1 j1 n y28 y33 y15))) λj5=>
      if y26=true then
      ((idx y12 0).bind λz45=>
       (cutL y12 1 ((y12).length)).bind λz48=>
       j5 z48 z45)
      else
      (j5 y12 y31))) λj4=>
     if y24=true then
     ((idx y9 0).bind λz54=>
      (cutL y9 1 ((y9).length)).bind λz57=>
      j4 z57 z54)
     else
     (j4 y9 0))) λj3=>
    if (y12.length:Int)>0 then
    (if (y9.length:Int)=0 then
     (j3 true)
     else
     ((idx y12 0).bind λz64=>
      (idx y9 0).bind λz67=>
      j3 (decide (z64≤z67))))
    else
    (j3 false))) λj2=>
   if (y9.length:Int)>0 then
   (if (y12.length:Int)=0 then
    (j2 true)
    else
    ((idx y9 0).bind λz73=>
     (idx y12 0).bind λz76=>
     j2 (decide (z73≤z76))))
   else
   (j2 false))
  else
  (j1 y15)
def m_index_merge_s1 (x0:(List Int)) (x1:(List Int)):Option (List Int):=
 jn (λ(y5:(List Int))=>
  (some y5)) λj1=>
 m_index_merge_s1_L1 j1 fuel x0 x1 ([]:List Int)
def m_index_Or (x0:(List Int)) (x1:(List Int)):Option (List Int):=
 (m_index_merge_s1 x0 x1).bind λp5=>
 some p5
def m_glob_set_has (x0:T_glob_set) (x1:UInt8):Option Bool:=
 (quo8 x1 (64:UInt8)).bind λz3=>
 (idx ([x0.a0,x0.a1,x0.a2,x0.a3]:List UInt64) ((z3).toNat:Int)).bind λz4=>
 (rem8 x1 (64:UInt8)).bind λz5=>
 some (decide ((((shr64 z4 ((toU64 ((z5).toNat:Int)).toNat))&&&(1:UInt64)).toNat:Int)=1))
def m_glob_Glob_Match_L1 (x0:T_glob_Glob) (x1:(List UInt8)):Nat→Int→Int→Int→Int→Option Bool
 | 0,_,_,_,_=>none
 | n+1,y3,y4,y5,y6=>
  jn (λ(y14:Bool)=>
   (if y14=true then
    (m_glob_Glob_Match_L1 x0 x1 n y3 (W64 (y4+1)) y4 y3)
    else
    (jn (λ(y17:Bool)=>
     (if y17=true then
      (m_glob_Glob_Match_L1 x0 x1 n (W64 (y3+1)) (W64 (y4+1)) y5 y6)
      else
      (if (y4=(x0.pieces.length:Int))∧(y3=(x1.length:Int)) then
       (some true)
       else
       (if (y5≥0)∧(y6<(x1.length:Int)) then
        (m_glob_Glob_Match_L1 x0 x1 n (W64 (y6+1)) (W64 (y5+1)) y5 (W64 (y6+1)))
        else
        (some false))))) λj3=>
     if y4<(x0.pieces.length:Int) then
     (if y3<(x1.length:Int) then
      ((idx x0.pieces y4).bind λz29=>
       (idx x1 y3).bind λz32=>
       (m_glob_set_has z29.set z32).bind λp33=>
       j3 p33)
      else
      (j3 false))
     else
     (j3 false)))) λj2=>
  if y4<(x0.pieces.length:Int) then
  ((idx x0.pieces y4).bind λz36=>
   j2 (decide (z36.kind=1)))
  else
  (j2 false)
def m_glob_Glob_Match (x0:T_glob_Glob) (x1:(List UInt8)):Option Bool:=
 m_glob_Glob_Match_L1 x0 x1 fuel 0 0 (-1) 0
def m_index_Less_1 (x0:Bool) (x1:Bool):Option Bool:=
 some (!x1)
def m_index_merge_s2_L1 (j1:(List Int)→Option (List Int)):Nat→(List Int)→(List Int)→(List Int)→Option (List Int)
 | 0,_,_,_=>none
 | n+1,y9,y12,y15=>
  if ((y9.length:Int)>0)∨((y12.length:Int)>0) then
  (jn (λ(y24:Bool)=>
   (jn (λ(y26:Bool)=>
    (jn (λ(y28:(List Int)) (y31:Int)=>
     (jn (λ(y33:(List Int)) (y36:Int)=>
      ((m_index_Less_1 y24 y26).bind λp38=>
       if p38=true then
       ((appL y15 [y36]).bind λz41=>
        m_index_merge_s2_L1 j1 n y28 y33 z41)
       else
       (m_index_merge_s2_L1 j1 n y28 y33 y15))) λj5=>
      if y26=true then
      ((idx y12 0).bind λz45=>
       (cutL y12 1 ((y12).length)).bind λz48=>
       j5 z48 z45)
      else
      (j5 y12 y31))) λj4=>
     if y24=true then
     ((idx y9 0).bind λz54=>
      (cutL y9 1 ((y9).length)).bind λz57=>
      j4 z57 z54)
     else
     (j4 y9 0))) λj3=>
    if (y12.length:Int)>0 then
    (if (y9.length:Int)=0 then
     (j3 true)
     else
     ((idx y12 0).bind λz64=>
      (idx y9 0).bind λz67=>
      j3 (decide (z64≤z67))))
    else
    (j3 false))) λj2=>
   if (y9.length:Int)>0 then
   (if (y12.length:Int)=0 then
    (j2 true)
    else
    ((idx y9 0).bind λz73=>
     (idx y12 0).bind λz76=>
     j2 (decide (z73≤z76))))
   else
   (j2 false))
  else
  (j1 y15)
def m_index_merge_s2 (x0:(List Int)) (x1:(List Int)):Option (List Int):=
 jn (λ(y5:(List Int))=>
  (some y5)) λj1=>
 m_index_merge_s2_L1 j1 fuel x0 x1 ([]:List Int)
def m_index_Less (x0:(List Int)) (x1:(List Int)):Option (List Int):=
 (m_index_merge_s2 x0 x1).bind λp5=>
 some p5
def m_index_Index_ask_L1 (x0:T_index_Index) (x1:T_api_Match) (x2:T_glob_Glob) (p8:(List (List UInt8))) (j1:(List Int)→(List Int)→Option (List Int)):Nat→(List Int)→(List Int)→Int→Option (List Int)
 | 0,_,_,_=>none
 | n+1,y41,y44,y47=>
  if y47<(p8.length:Int) then
  (jn (λ(y54:(List Int)) (y57:(List Int))=>
   (m_index_Index_ask_L1 x0 x1 x2 p8 j1 n y54 y57 (W64 (y47+1)))) λj3=>
   (idx p8 y47).bind λz61=>
   (m_index_Or y44 (lookO (⟨x1.Key,z61⟩:T_api_Pair) x0.rows)).bind λp71=>
   (m_glob_Glob_Match x2 z61).bind λp74=>
   if p74=true then
   ((m_index_Or y41 (lookO (⟨x1.Key,z61⟩:T_api_Pair) x0.rows)).bind λp77=>
    j3 p77 p71)
   else
   (j3 y41 p71))
  else
  (j1 y41 y44)
def m_index_Index_ask (x0:T_index_Index) (x1:T_api_Match) (x2:T_glob_Glob):Option (List Int):=
 (m_index_Index_Values x0 x1.Key).bind λp8=>
 jn (λ(y11:(List Int)) (y14:(List Int))=>
  ((m_glob_Glob_Match x2 ([]:List UInt8)).bind λp18=>
   jn (λ(y20:(List Int))=>
    (if x1.Not=true then
     ((m_index_Index_all x0).bind λp25=>
      (m_index_Less p25 y20).bind λp28=>
      some p28)
     else
     (some y20))) λj2=>
   if p18=true then
   ((m_index_Index_all x0).bind λp32=>
    (m_index_Less p32 y14).bind λp35=>
    (m_index_Or y11 p35).bind λp38=>
    j2 p38)
   else
   (j2 y11))) λj1=>
 m_index_Index_ask_L1 x0 x1 x2 p8 j1 fuel ([]:List Int) ([]:List Int) 0
def m_index_And_1 (x0:Bool) (x1:Bool):Option Bool:=
 some (decide ((x0=true)∧(x1=true)))
def m_index_merge_s3_L1 (j1:(List Int)→Option (List Int)):Nat→(List Int)→(List Int)→(List Int)→Option (List Int)
 | 0,_,_,_=>none
 | n+1,y9,y12,y15=>
  if ((y9.length:Int)>0)∨((y12.length:Int)>0) then
  (jn (λ(y24:Bool)=>
   (jn (λ(y26:Bool)=>
    (jn (λ(y28:(List Int)) (y31:Int)=>
     (jn (λ(y33:(List Int)) (y36:Int)=>
      ((m_index_And_1 y24 y26).bind λp38=>
       if p38=true then
       ((appL y15 [y36]).bind λz41=>
        m_index_merge_s3_L1 j1 n y28 y33 z41)
       else
       (m_index_merge_s3_L1 j1 n y28 y33 y15))) λj5=>
      if y26=true then
      ((idx y12 0).bind λz45=>
       (cutL y12 1 ((y12).length)).bind λz48=>
       j5 z48 z45)
      else
      (j5 y12 y31))) λj4=>
     if y24=true then
     ((idx y9 0).bind λz54=>
      (cutL y9 1 ((y9).length)).bind λz57=>
      j4 z57 z54)
     else
     (j4 y9 0))) λj3=>
    if (y12.length:Int)>0 then
    (if (y9.length:Int)=0 then
     (j3 true)
     else
     ((idx y12 0).bind λz64=>
      (idx y9 0).bind λz67=>
      j3 (decide (z64≤z67))))
    else
    (j3 false))) λj2=>
   if (y9.length:Int)>0 then
   (if (y12.length:Int)=0 then
    (j2 true)
    else
    ((idx y9 0).bind λz73=>
     (idx y12 0).bind λz76=>
     j2 (decide (z73≤z76))))
   else
   (j2 false))
  else
  (j1 y15)
def m_index_merge_s3 (x0:(List Int)) (x1:(List Int)):Option (List Int):=
 jn (λ(y5:(List Int))=>
  (some y5)) λj1=>
 m_index_merge_s3_L1 j1 fuel x0 x1 ([]:List Int)
def m_index_And (x0:(List Int)) (x1:(List Int)):Option (List Int):=
 (m_index_merge_s3 x0 x1).bind λp5=>
 some p5
def m_index_Index_Select_L1 (x0:T_index_Index) (x1:(List T_api_Match)) (y7:(List T_glob_Glob)) (j2:(List Int)→Option ((List Int)×Int×Int)):Nat→(List Int)→Int→Option ((List Int)×Int×Int)
 | 0,_,_=>none
 | n+1,y20,y23=>
  if y23<(x1.length:Int) then
  ((idx x1 y23).bind λz26=>
   (idx y7 y23).bind λz34=>
   (m_index_Index_ask x0 z26 z34).bind λp37=>
   (m_index_And y20 p37).bind λp40=>
   m_index_Index_Select_L1 x0 x1 y7 j2 n p40 (W64 (y23+1)))
  else
  (j2 y20)
def m_index_Index_Select_L2 (x1:(List T_api_Match)) (j1:(List T_glob_Glob)→Option ((List Int)×Int×Int)):Nat→(List T_glob_Glob)→Int→Option ((List Int)×Int×Int)
 | 0,_,_=>none
 | n+1,y43,y46=>
  if y46<(x1.length:Int) then
  ((idx x1 y46).bind λz51=>
   (m_glob_Compile z51.Glob).bind λp58=>
   jn (λ(y64:Bool)=>
    (jn (λ(y67:Int)=>
     (if y67≠0 then
      (some (([]:List Int),y46,y67))
      else
      ((p58.1).bind λz72=>
       (appL y43 [z72]).bind λz74=>
       m_index_Index_Select_L2 x1 j1 n z74 (W64 (y46+1))))) λj4=>
     if y64=true then
     (j4 3)
     else
     (j4 p58.2.2))) λj3=>
   if (p58.2.2=0)∧(z51.Key≠([]:List UInt8)) then
   ((m_label_Check z51.Key ([]:List T_api_Pair)).bind λp79=>
    j3 (decide (p79≠0)))
   else
   (j3 false))
  else
  (j1 y43)
def m_index_Index_Select (x0:T_index_Index) (x1:(List T_api_Match)):Option ((List Int)×Int×Int):=
 jn (λ(y7:(List T_glob_Glob))=>
  ((m_index_Index_all x0).bind λp11=>
   jn (λ(y14:(List Int))=>
    (some (y14,0,0))) λj2=>
   m_index_Index_Select_L1 x0 x1 y7 j2 fuel p11 0)) λj1=>
 m_index_Index_Select_L2 x1 j1 fuel ([]:List T_glob_Glob) 0
def m_pack_NewWriter  : Option T_pack_Writer:=
 some (⟨([]:List UInt8)⟩:T_pack_Writer)
def m_math_bits_Len64 (x0:UInt64):Option Int:=
 jn (λ(y1:UInt64) (y2:Int)=>
  (jn (λ(y4:UInt64) (y5:Int)=>
   (jn (λ(y7:UInt64) (y8:Int)=>
    ((idx ([0,1,2,2,3,3,3,3,4,4,4,4,4,4,4,4,5,5,5,5,5,5,5,5,5,5,5,5,5,5,5,5,6,6,6,6,6,6,6,6,6,6,6,6,6,6,6,6,6,6,6,6,6,6,6,6,6,6,6,6,6,6,6,6,7,7,7,7,7,7,7,7,7,7,7,7,7,7,7,7,7,7,7,7,7,7,7,7,7,7,7,7,7,7,7,7,7,7,7,7,7,7,7,7,7,7,7,7,7,7,7,7,7,7,7,7,7,7,7,7,7,7,7,7,7,7,7,7,8,8,8,8,8,8,8,8,8,8,8,8,8,8,8,8,8,8,8,8,8,8,8,8,8,8,8,8,8,8,8,8,8,8,8,8,8,8,8,8,8,8,8,8,8,8,8,8,8,8,8,8,8,8,8,8,8,8,8,8,8,8,8,8,8,8,8,8,8,8,8,8,8,8,8,8,8,8,8,8,8,8,8,8,8,8,8,8,8,8,8,8,8,8,8,8,8,8,8,8,8,8,8,8,8,8,8,8,8,8,8,8,8,8,8,8,8,8,8,8,8,8,8,8,8,8,8,8]:List UInt8) ((toU8 ((y7).toNat:Int)).toNat:Int)).bind λz10=>
     some (W64 (y8+(z10.toNat:Int))))) λj3=>
    if ((y4).toNat:Int)≥256 then
    (j3 (y4>>>UInt64.ofNat 8) (W64 (y5+8)))
    else
    (j3 y4 y5))) λj2=>
   if ((y1).toNat:Int)≥65536 then
   (j2 (y1>>>UInt64.ofNat 16) (W64 (y2+16)))
   else
   (j2 y1 y2))) λj1=>
 if ((x0).toNat:Int)≥4294967296 then
 (j1 (x0>>>UInt64.ofNat 32) 32)
 else
 (j1 x0 0)
def m_pack_others (x0:UInt64):Option Int:=
 (m_math_bits_Len64 x0).bind λp1=>
 if p1>56 then
 (some 8)
 else
 ((quoZ (max (W64 (p1-1)) 0) 7).bind λz4=>
  some z4)
def m_pack_Writer_Num_L1 (x1:UInt64) (j2:T_pack_Writer→Option T_pack_Writer):Nat→Int→T_pack_Writer→Option T_pack_Writer
 | 0,_,_=>none
 | n+1,y17,y18=>
  if y17>0 then
  ((appL y18.b [toU8 ((shr64 x1 ((toU64 (W64 ((W64 (8*y17))-8))).toNat)).toNat:Int)]).bind λz23=>
   m_pack_Writer_Num_L1 x1 j2 n (W64 (y17-1)) (⟨z23⟩:T_pack_Writer))
  else
  (j2 y18)
def m_pack_Writer_Num (x0:T_pack_Writer) (x1:UInt64):Option T_pack_Writer:=
 (m_pack_others x1).bind λp2=>
 jn (λ(y5:UInt8)=>
  ((appL x0.b [y5]).bind λz9=>
   jn (λ(y15:T_pack_Writer)=>
    (some y15)) λj2=>
   m_pack_Writer_Num_L1 x1 j2 fuel p2 (⟨z9⟩:T_pack_Writer))) λj1=>
 if p2<8 then
 (j1 ((shl8 (255:UInt8) ((toU64 (W64 (8-p2))).toNat))|||(toU8 ((shr64 x1 ((toU64 (W64 (8*p2))).toNat)).toNat:Int))))
 else
 (j1 (shl8 (255:UInt8) ((toU64 (W64 (8-p2))).toNat)))
def m_bytes_Clone (x0:(List UInt8)):Option (List UInt8):=
 appL [] x0
def m_pack_Writer_Bytes (x0:T_pack_Writer):Option (List UInt8):=
 (m_bytes_Clone x0.b).bind λp8=>
 some p8
def m_index_Bytes_L1 (x0:(List Int)) (j3:T_pack_Writer→Option ((List UInt8)×Int)):Nat→Int→Int→T_pack_Writer→Option ((List UInt8)×Int)
 | 0,_,_,_=>none
 | n+1,y21,y22,y23=>
  if y22<(x0.length:Int) then
  ((idx x0 y22).bind λz26=>
   (m_pack_Writer_Num y23 (toU64 (W64 ((W64 (z26-y21))-1)))).bind λp28=>
   m_index_Bytes_L1 x0 j3 n z26 (W64 (y22+1)) p28)
  else
  (j3 y23)
def m_index_Bytes_L2 (x0:(List Int)) (j1:Unit→Option ((List UInt8)×Int)):Nat→Int→Option ((List UInt8)×Int)
 | 0,_=>none
 | n+1,y38=>
  if y38<(x0.length:Int) then
  ((idx x0 y38).bind λz41=>
   jn (λ(y43:Bool)=>
    (if y43=true then
     (some (([]:List UInt8),9))
     else
     (m_index_Bytes_L2 x0 j1 n (W64 (y38+1))))) λj5=>
   if z41<0 then
   (j5 true)
   else
   (jn (λ(y49:Bool)=>
    (j5 y49)) λj6=>
    if y38>0 then
    ((idx x0 (W64 (y38-1))).bind λz52=>
     j6 (decide (z41≤z52)))
    else
    (j6 false)))
  else
  (j1 ())
def m_index_Bytes (x0:(List Int)):Option ((List UInt8)×Int):=
 jn (λ(_:Unit)=>
  (jn (λ(y4:Bool)=>
   (if y4=true then
    (some (([]:List UInt8),4))
    else
    ((m_pack_NewWriter).bind λp9=>
     (m_pack_Writer_Num p9 (toU64 (x0.length:Int))).bind λp12=>
     jn (λ(y16:T_pack_Writer)=>
      ((m_pack_Writer_Bytes y16).bind λp18=>
       some (p18,0))) λj3=>
     m_index_Bytes_L1 x0 j3 fuel (-1) 0 p12))) λj2=>
   if (x0.length:Int)>65536 then
   (j2 true)
   else
   (jn (λ(y33:Bool)=>
    (j2 y33)) λj4=>
    if (x0.length:Int)>0 then
    ((idx x0 (W64 ((x0.length:Int)-1))).bind λz36=>
     j4 (decide (z36>4503599627370496)))
    else
    (j4 false)))) λj1=>
 m_index_Bytes_L2 x0 j1 fuel 0
def m_limnographlaw35_awake  : Option Bool:=
 (m_index_New ([([97,59,98,61,49,32,51,48,48]:List UInt8),([98,32,51,48,48]:List UInt8)]:List (List UInt8))).bind λp6=>
 (m_index_New ([([97,32,51,48,48]:List UInt8),([97,32,51,48,48]:List UInt8)]:List (List UInt8))).bind λp14=>
 if (((((p6.1).isNone)=true)∨(p6.2.2≠0))∨(p14.2.1≠1))∨(p14.2.2≠8) then
 (some false)
 else
 ((p6.1).bind λz30=>
  (m_index_Index_Select z30 ([(⟨([98]:List UInt8),([]:List UInt8),false⟩:T_api_Match)]:List T_api_Match)).bind λp29=>
  (m_index_Bytes ([3,4,9]:List Int)).bind λp37=>
  jn (λ(y44:Bool)=>
   (jn (λ(y50:Bool)=>
    (jn (λ(y54:Bool)=>
     (some y54)) λj3=>
     if y50=true then
     ((m_index_And ([1,2]:List Int) ([2,3]:List Int)).bind λp63=>
      j3 (decide ((p63.length:Int)=1)))
     else
     (j3 false))) λj2=>
    if (y44=true)∧(p37.2=0) then
    (j2 (decide (p37.1=([3,3,0,4]:List UInt8))))
    else
    (j2 false))) λj1=>
  if (p29.2.2=0)∧((p29.1.length:Int)=1) then
  ((idx p29.1 0).bind λz68=>
   j1 (decide (z68=1)))
  else
  (j1 false))
def m_limnographref34_Few_L1 (x0:(List (List UInt8))) (j1:Unit→Option Bool):Nat→Int→Option Bool
 | 0,_=>none
 | n+1,y5=>
  if y5<(x0.length:Int) then
  ((idx x0 y5).bind λz8=>
   if (z8.length:Int)>500 then
   (some false)
   else
   (m_limnographref34_Few_L1 x0 j1 n (W64 (y5+1))))
  else
  (j1 ())
def m_limnographref34_Few (x0:(List (List UInt8))) (x1:Int):Option Bool:=
 if (x0.length:Int)>x1 then
 (some false)
 else
 (jn (λ(_:Unit)=>
  (some true)) λj1=>
  m_limnographref34_Few_L1 x0 j1 fuel 0)
def m_limnographref35_Few_L1 (x0:(List T_api_Match)) (j1:Unit→Option Bool):Nat→Int→Option Bool
 | 0,_=>none
 | n+1,y5=>
  if y5<(x0.length:Int) then
  ((idx x0 y5).bind λz8=>
   jn (λ(y10:Bool)=>
    (if y10=true then
     (some false)
     else
     (m_limnographref35_Few_L1 x0 j1 n (W64 (y5+1))))) λj2=>
   if (z8.Glob.length:Int)>70 then
   (j2 true)
   else
   ((idx x0 y5).bind λz14=>
    j2 (decide ((z14.Key.length:Int)>100))))
  else
  (j1 ())
def m_limnographref35_Few (x0:(List T_api_Match)):Option Bool:=
 if (x0.length:Int)>20 then
 (some false)
 else
 (jn (λ(_:Unit)=>
  (some true)) λj1=>
  m_limnographref35_Few_L1 x0 j1 fuel 0)
def m_limnographref32_end_L1 (x0:(List UInt8)) (j1:Unit→Option Int):Nat→Int→Option Int
 | 0,_=>none
 | n+1,y2=>
  if y2<(x0.length:Int) then
  ((idx x0 y2).bind λz5=>
   if ((z5).toNat:Int)=93 then
   (some y2)
   else
   ((idx x0 y2).bind λz7=>
    jn (λ(y8:Int)=>
     (m_limnographref32_end_L1 x0 j1 n (W64 (y8+1)))) λj2=>
    if ((z7).toNat:Int)=92 then
    (j2 (W64 (y2+1)))
    else
    (j2 y2)))
  else
  (j1 ())
def m_limnographref32_end (x0:(List UInt8)) (x1:Int):Option Int:=
 jn (λ(_:Unit)=>
  (some (-1))) λj1=>
 m_limnographref32_end_L1 x0 j1 fuel x1
def m_limnographref32_nothing_L1 (x0:Bool) (j1:(List Bool)→Option (List Bool)):Nat→(List Bool)→Int→Option (List Bool)
 | 0,_,_=>none
 | n+1,y5,y8=>
  if y8<256 then
  ((appL y5 [x0]).bind λz13=>
   m_limnographref32_nothing_L1 x0 j1 n z13 (W64 (y8+1)))
  else
  (j1 y5)
def m_limnographref32_nothing (x0:Bool):Option (List Bool):=
 jn (λ(y1:(List Bool))=>
  (some y1)) λj1=>
 m_limnographref32_nothing_L1 x0 j1 fuel ([]:List Bool) 0
def m_limnographref32_thing (x0:(List UInt8)) (x1:Int):Option T_limnographref32_Thing:=
 (idx x0 x1).bind λz4=>
 if ((z4).toNat:Int)=92 then
 ((idx x0 (W64 (x1+1))).bind λz6=>
  some (⟨z6,W64 (x1+2)⟩:T_limnographref32_Thing))
 else
 ((idx x0 x1).bind λz9=>
  some (⟨z9,W64 (x1+1)⟩:T_limnographref32_Thing))
def m_limnographref32_set_L1 (j5:(List Bool)→Option T_limnographref32_Got):Nat→(List Bool)→Int→Option T_limnographref32_Got
 | 0,_,_=>none
 | n+1,y43,y44=>
  if y44<256 then
  ((idx y43 y44).bind λz47=>
   (idx y43 y44).bind λz48=>
   m_limnographref32_set_L1 j5 n (setI y43 y44 (!z47)) (W64 (y44+1)))
  else
  (j5 y43)
def m_limnographref32_set_L3 (y77:T_limnographref32_Thing) (j9:(List Bool)→Option T_limnographref32_Got):Nat→(List Bool)→Int→Option T_limnographref32_Got
 | 0,_,_=>none
 | n+1,y88,y89=>
  if y89≤(y77.C.toNat:Int) then
  ((idx y88 y89).bind λz92=>
   m_limnographref32_set_L3 y77 j9 n (setI y88 y89 true) (W64 (y89+1)))
  else
  (j9 y88)
def m_limnographref32_set_L2 (x0:(List UInt8)) (p8:Int) (j3:(List Bool)→Option T_limnographref32_Got):Nat→(List Bool)→Int→Option T_limnographref32_Got
 | 0,_,_=>none
 | n+1,y50,y51=>
  if y51<p8 then
  ((idx x0 y51).bind λz54=>
   if ((z54).toNat:Int)=45 then
   (if W64 (y51+1)≠p8 then
    (some (⟨([]:List T_limnographref32_Piece),y51,3⟩:T_limnographref32_Got))
    else
    ((idx y50 45).bind λz63=>
     m_limnographref32_set_L2 x0 p8 j3 n (setI y50 45 true) (W64 (y51+1))))
   else
   ((m_limnographref32_thing x0 y51).bind λp65=>
    jn (λ(y73:Bool)=>
     (jn (λ(y75:Bool)=>
      (jn (λ(y77:T_limnographref32_Thing)=>
       (if ((y77.C).toNat:Int)<((p65.C).toNat:Int) then
        (some (⟨([]:List T_limnographref32_Piece),y51,3⟩:T_limnographref32_Got))
        else
        (jn (λ(y86:(List Bool))=>
         (m_limnographref32_set_L2 x0 p8 j3 n y86 y77.Next)) λj9=>
         m_limnographref32_set_L3 y77 j9 fuel y50 (p65.C.toNat:Int)))) λj8=>
       if y75=true then
       ((m_limnographref32_thing x0 (W64 (p65.Next+1))).bind λp95=>
        j8 p95)
       else
       (j8 p65))) λj7=>
      if y73=true then
      ((idx x0 (W64 (p65.Next+1))).bind λz100=>
       j7 (decide (((z100).toNat:Int)≠45)))
      else
      (j7 false))) λj6=>
    if W64 (p65.Next+1)<p8 then
    ((idx x0 p65.Next).bind λz102=>
     j6 (decide (((z102).toNat:Int)=45)))
    else
    (j6 false)))
  else
  (j3 y50)
def m_limnographref32_set (x0:(List UInt8)) (x1:Int):Option T_limnographref32_Got:=
 jn (λ(y4:Bool)=>
  (jn (λ(y6:Int)=>
   ((m_limnographref32_end x0 y6).bind λp8=>
    if p8<0 then
    (some (⟨([]:List T_limnographref32_Piece),x1,2⟩:T_limnographref32_Got))
    else
    (if p8=y6 then
     (some (⟨([]:List T_limnographref32_Piece),x1,3⟩:T_limnographref32_Got))
     else
     ((m_limnographref32_nothing false).bind λp24=>
      jn (λ(y27:(List Bool))=>
       (jn (λ(y29:(List Bool))=>
        (some (⟨([(⟨false,false,y29,(0:UInt8)⟩:T_limnographref32_Piece)]:List T_limnographref32_Piece),W64 (p8+1),0⟩:T_limnographref32_Got))) λj4=>
        if y4=true then
        (jn (λ(y41:(List Bool))=>
         (j4 y41)) λj5=>
         m_limnographref32_set_L1 j5 fuel y27 0)
        else
        (j4 y27))) λj3=>
      m_limnographref32_set_L2 x0 p8 j3 fuel p24 y6)))) λj2=>
   if y4=true then
   (j2 (W64 ((W64 (x1+1))+1)))
   else
   (j2 (W64 (x1+1))))) λj1=>
 if W64 (x1+1)<(x0.length:Int) then
 ((idx x0 (W64 (x1+1))).bind λz105=>
  j1 (decide (((z105).toNat:Int)=33)))
 else
 (j1 false)
def m_limnographref32_plain (x0:UInt8):Option T_limnographref32_Piece:=
 (m_limnographref32_nothing false).bind λp4=>
 (idx p4 (x0.toNat:Int)).bind λz7=>
 some (⟨false,true,(setI p4 (x0.toNat:Int) true),x0⟩:T_limnographref32_Piece)
def m_limnographref32_Compile_L1 (x0:(List UInt8)) (j1:(List T_limnographref32_Piece)→Option T_limnographref32_Got):Nat→(List T_limnographref32_Piece)→Int→Option T_limnographref32_Got
 | 0,_,_=>none
 | n+1,y19,y22=>
  if y22<(x0.length:Int) then
  ((idx x0 y22).bind λz27=>
   if ((z27).toNat:Int)=91 then
   ((m_limnographref32_set x0 y22).bind λp29=>
    if p29.E≠0 then
    (some p29)
    else
    ((idx p29.L 0).bind λz38=>
     (appL y19 [z38]).bind λz43=>
     m_limnographref32_Compile_L1 x0 j1 n z43 p29.At))
   else
   (if ((z27).toNat:Int)=92 then
    (if W64 (y22+1)=(x0.length:Int) then
     (some (⟨([]:List T_limnographref32_Piece),y22,2⟩:T_limnographref32_Got))
     else
     ((idx x0 (W64 (y22+1))).bind λz53=>
      (m_limnographref32_plain z53).bind λp54=>
      (appL y19 [p54]).bind λz59=>
      m_limnographref32_Compile_L1 x0 j1 n z59 (W64 (y22+2))))
    else
    (jn (λ(y61:(List T_limnographref32_Piece))=>
     (m_limnographref32_Compile_L1 x0 j1 n y61 (W64 (y22+1)))) λj2=>
     if ((z27).toNat:Int)=42 then
     ((appL y19 [(⟨true,false,[],(0:UInt8)⟩:T_limnographref32_Piece)]).bind λz66=>
      j2 z66)
     else
     (if ((z27).toNat:Int)=63 then
      ((m_limnographref32_nothing true).bind λp69=>
       (appL y19 [(⟨false,false,p69,(0:UInt8)⟩:T_limnographref32_Piece)]).bind λz74=>
       j2 z74)
      else
      ((m_limnographref32_plain z27).bind λp76=>
       (appL y19 [p76]).bind λz81=>
       j2 z81)))))
  else
  (j1 y19)
def m_limnographref32_Compile (x0:(List UInt8)):Option T_limnographref32_Got:=
 if (x0.length:Int)>64 then
 (some (⟨([]:List T_limnographref32_Piece),64,4⟩:T_limnographref32_Got))
 else
 (jn (λ(y11:(List T_limnographref32_Piece))=>
  (some (⟨y11,0,0⟩:T_limnographref32_Got))) λj1=>
  m_limnographref32_Compile_L1 x0 j1 fuel ([]:List T_limnographref32_Piece) 0)
def m_limnographref11_Name_L1 (x0:(List UInt8)) (j1:Unit→Option Bool):Nat→Int→Option Bool
 | 0,_=>none
 | n+1,y5=>
  if y5<(x0.length:Int) then
  ((idx x0 y5).bind λz8=>
   if (¬((((z8).toNat:Int)≥97)∧(((z8).toNat:Int)≤122)))∧((y5=0)∨(¬((((((z8).toNat:Int)≥48)∧(((z8).toNat:Int)≤57))∨(((z8).toNat:Int)=95))∨(((z8).toNat:Int)=46)))) then
   (some false)
   else
   (m_limnographref11_Name_L1 x0 j1 n (W64 (y5+1))))
  else
  (j1 ())
def m_limnographref11_Name (x0:(List UInt8)):Option Bool:=
 if ((x0.length:Int)<1)∨((x0.length:Int)>32) then
 (some false)
 else
 (jn (λ(_:Unit)=>
  (some true)) λj1=>
  m_limnographref11_Name_L1 x0 j1 fuel 0)
def m_limnographref11_find_L1 (x0:(List UInt8)) (x2:UInt8) (j1:Int→Option Int):Nat→Int→Option Int
 | 0,_=>none
 | n+1,y3=>
  jn (λ(y5:Bool)=>
   (if y5=true then
    (m_limnographref11_find_L1 x0 x2 j1 n (W64 (y3+1)))
    else
    (j1 y3))) λj2=>
  if y3<(x0.length:Int) then
  ((idx x0 y3).bind λz9=>
   j2 (decide (((z9).toNat:Int)≠((x2).toNat:Int))))
  else
  (j2 false)
def m_limnographref11_find (x0:(List UInt8)) (x1:Int) (x2:UInt8):Option Int:=
 jn (λ(y1:Int)=>
  (some y1)) λj1=>
 m_limnographref11_find_L1 x0 x2 j1 fuel x1
def m_limnographref11_Value_L1 (x0:(List UInt8)) (j1:Unit→Option Bool):Nat→Int→Option Bool
 | 0,_=>none
 | n+1,y5=>
  if y5<(x0.length:Int) then
  ((idx x0 y5).bind λz8=>
   if ((((((z8).toNat:Int)≤32)∨(((z8).toNat:Int)≥127))∨(((z8).toNat:Int)=61))∨(((z8).toNat:Int)=59))∨(((z8).toNat:Int)=44) then
   (some false)
   else
   (m_limnographref11_Value_L1 x0 j1 n (W64 (y5+1))))
  else
  (j1 ())
def m_limnographref11_Value (x0:(List UInt8)):Option Bool:=
 if ((x0.length:Int)<1)∨((x0.length:Int)>32) then
 (some false)
 else
 (jn (λ(_:Unit)=>
  (some true)) λj1=>
  m_limnographref11_Value_L1 x0 j1 fuel 0)
def m_limnographref11_Parse_L2 (y23:Int) (y24:T_limnographref11_Got) (z51:(List UInt8)) (j4:Unit→Option T_limnographref11_Got):Nat→Int→Option T_limnographref11_Got
 | 0,_=>none
 | n+1,y73=>
  if y73<(y24.Attrs.length:Int) then
  ((idx y24.Attrs y73).bind λz77=>
   if z77.Key=z51 then
   (some (⟨([]:List UInt8),([]:List T_api_Pair),W64 (y23+1),8⟩:T_limnographref11_Got))
   else
   (m_limnographref11_Parse_L2 y23 y24 z51 j4 n (W64 (y73+1))))
  else
  (j4 ())
def m_limnographref11_Parse_L1 (x0:(List UInt8)) (j1:T_limnographref11_Got→Option T_limnographref11_Got):Nat→Int→T_limnographref11_Got→Option T_limnographref11_Got
 | 0,_,_=>none
 | n+1,y23,y24=>
  if y23<(x0.length:Int) then
  ((m_limnographref11_find x0 (W64 (y23+1)) (59:UInt8)).bind λp31=>
   (cutL x0 (W64 (y23+1)) p31).bind λz33=>
   if (y24.Attrs.length:Int)=4 then
   (some (⟨([]:List UInt8),([]:List T_api_Pair),W64 (y23+1),4⟩:T_limnographref11_Got))
   else
   ((m_limnographref11_find z33 0 (61:UInt8)).bind λp39=>
    jn (λ(y41:Bool)=>
     (jn (λ(y43:Bool)=>
      (if y43=true then
       (some (⟨([]:List UInt8),([]:List T_api_Pair),W64 (y23+1),3⟩:T_limnographref11_Got))
       else
       ((cutL z33 0 p39).bind λz51=>
        (cutL z33 (W64 (p39+1)) ((z33).length)).bind λz52=>
        jn (λ(_:Unit)=>
         (jn (λ(y59:Bool)=>
          (if y59=true then
           (some (⟨([]:List UInt8),([]:List T_api_Pair),W64 (y23+1),9⟩:T_limnographref11_Got))
           else
           ((appL y24.Attrs [(⟨z51,z52⟩:T_api_Pair)]).bind λz66=>
            m_limnographref11_Parse_L1 x0 j1 n p31 (⟨y24.Name,z66,y24.At,y24.E⟩:T_limnographref11_Got)))) λj5=>
          if (y24.Attrs.length:Int)>0 then
          ((idx y24.Attrs (W64 ((y24.Attrs.length:Int)-1))).bind λz72=>
           j5 (Op.bytesLess z51 z72.Key))
          else
          (j5 false))) λj4=>
        m_limnographref11_Parse_L2 y23 y24 z51 j4 fuel 0))) λj3=>
      if y41=true then
      (j3 true)
      else
      ((cutL z33 (W64 (p39+1)) ((z33).length)).bind λz84=>
       (m_limnographref11_Value z84).bind λp85=>
       j3 (!p85)))) λj2=>
    if p39=(z33.length:Int) then
    (j2 true)
    else
    ((cutL z33 0 p39).bind λz88=>
     (m_limnographref11_Name z88).bind λp89=>
     j2 (!p89))))
  else
  (j1 y24)
def m_limnographref11_Parse (x0:(List UInt8)):Option T_limnographref11_Got:=
 (m_limnographref11_find x0 0 (59:UInt8)).bind λp4=>
 (cutL x0 0 p4).bind λz6=>
 (m_limnographref11_Name z6).bind λp10=>
 if (!p10)=true then
 (some (⟨([]:List UInt8),([]:List T_api_Pair),0,3⟩:T_limnographref11_Got))
 else
 (jn (λ(y17:T_limnographref11_Got)=>
  (some y17)) λj1=>
  m_limnographref11_Parse_L1 x0 j1 fuel p4 (⟨z6,([]:List T_api_Pair),0,0⟩:T_limnographref11_Got))
def m_limnographref11_Check_L2 (x1:(List T_api_Pair)) (y8:Int) (j3:Unit→Option Int):Nat→Int→Option Int
 | 0,_=>none
 | n+1,y19=>
  if y19<y8 then
  ((idx x1 y19).bind λz23=>
   (idx x1 y8).bind λz26=>
   if z23.Key=z26.Key then
   (some 8)
   else
   (m_limnographref11_Check_L2 x1 y8 j3 n (W64 (y19+1))))
  else
  (j3 ())
def m_limnographref11_Check_L1 (x1:(List T_api_Pair)) (j1:Unit→Option Int):Nat→Int→Option Int
 | 0,_=>none
 | n+1,y8=>
  if y8<(x1.length:Int) then
  ((idx x1 y8).bind λz11=>
   (m_limnographref11_Name z11.Key).bind λp13=>
   jn (λ(y15:Bool)=>
    (if y15=true then
     (some 3)
     else
     (jn (λ(_:Unit)=>
      (m_limnographref11_Check_L1 x1 j1 n (W64 (y8+1)))) λj3=>
      m_limnographref11_Check_L2 x1 y8 j3 fuel 0))) λj2=>
   if (!p13)=true then
   (j2 true)
   else
   ((idx x1 y8).bind λz31=>
    (m_limnographref11_Value z31.Val).bind λp33=>
    j2 (!p33)))
  else
  (j1 ())
def m_limnographref11_Check (x0:(List UInt8)) (x1:(List T_api_Pair)):Option Int:=
 (m_limnographref11_Name x0).bind λp3=>
 if (!p3)=true then
 (some 3)
 else
 (if (x1.length:Int)>4 then
  (some 4)
  else
  (jn (λ(_:Unit)=>
   (some 0)) λj1=>
   m_limnographref11_Check_L1 x1 j1 fuel 0))
def m_limnographref08_SameSide_L1 (x0:T_api_Side) (x1:T_api_Side) (j1:Unit→Option Bool):Nat→Int→Option Bool
 | 0,_=>none
 | n+1,y17=>
  if y17<(x0.Counts.length:Int) then
  ((idx x0.Counts y17).bind λz21=>
   (idx x1.Counts y17).bind λz24=>
   if ((z21).toNat:Int)≠((z24).toNat:Int) then
   (some false)
   else
   (m_limnographref08_SameSide_L1 x0 x1 j1 n (W64 (y17+1))))
  else
  (j1 ())
def m_limnographref08_SameSide (x0:T_api_Side) (x1:T_api_Side):Option Bool:=
 if (x0.Offset≠x1.Offset)∨((x0.Counts.length:Int)≠(x1.Counts.length:Int)) then
 (some false)
 else
 (jn (λ(_:Unit)=>
  (some true)) λj1=>
  m_limnographref08_SameSide_L1 x0 x1 j1 fuel 0)
def m_limnographref08_Same (x0:T_api_Hist) (x1:T_api_Hist):Option Bool:=
 jn (λ(y21:Bool)=>
  (jn (λ(y23:Bool)=>
   (some y23)) λj2=>
   if y21=true then
   ((m_limnographref08_SameSide x0.Neg x1.Neg).bind λp26=>
    j2 p26)
   else
   (j2 false))) λj1=>
 if (x0.Scale=x1.Scale)∧(((x0.Zero).toNat:Int)=((x1.Zero).toNat:Int)) then
 ((m_limnographref08_SameSide x0.Pos x1.Pos).bind λp29=>
  j1 p29)
 else
 (j1 false)
def m_limnographref12_none (x0:T_api_Hist):Option Bool:=
 (m_limnographref08_Same x0 (⟨0,(0:UInt64),(⟨0,[]⟩:T_api_Side),(⟨0,[]⟩:T_api_Side)⟩:T_api_Hist)).bind λp10=>
 some p10
def m_limnographref05_Finite (x0:UInt64):Option Bool:=
 (quo64 x0 (4503599627370496:UInt64)).bind λz1=>
 (rem64 z1 (2048:UInt64)).bind λz2=>
 some (decide (((z2).toNat:Int)≠2047))
def m_limnographref05_Odd (x0:UInt64):Option Bool:=
 (quo64 x0 (4503599627370496:UInt64)).bind λz1=>
 (rem64 z1 (2048:UInt64)).bind λz2=>
 jn (λ(y3:Bool)=>
  (some y3)) λj1=>
 if ((z2).toNat:Int)=2047 then
 ((rem64 x0 (4503599627370496:UInt64)).bind λz6=>
  j1 (decide (((z6).toNat:Int)≠0)))
 else
 (j1 false)
def m_limnographref05_Less (x0:UInt64) (x1:UInt64):Option Bool:=
 (m_limnographref05_Odd x0).bind λp1=>
 jn (λ(y3:Bool)=>
  (if y3=true then
   (some false)
   else
   ((rem64 x0 (9223372036854775808:UInt64)).bind λz6=>
    (rem64 x1 (9223372036854775808:UInt64)).bind λz7=>
    if (((z6).toNat:Int)=0)∧(((z7).toNat:Int)=0) then
    (some false)
    else
    (if (((x0).toNat:Int)≥9223372036854775808)∧(((x1).toNat:Int)≥9223372036854775808) then
     (some (decide (((z6).toNat:Int)>((z7).toNat:Int))))
     else
     (if (((x0).toNat:Int)<9223372036854775808)∧(((x1).toNat:Int)<9223372036854775808) then
      (some (decide (((z6).toNat:Int)<((z7).toNat:Int))))
      else
      (some (decide (((x0).toNat:Int)≥9223372036854775808)))))))) λj1=>
 if p1=true then
 (j1 true)
 else
 ((m_limnographref05_Odd x1).bind λp18=>
  j1 p18)
def m_limnographref08_side (x0:T_api_Side):Option Int:=
 if (x0.Counts.length:Int)>160 then
 (some 4)
 else
 (if (x0.Counts.length:Int)=0 then
  (if x0.Offset≠0 then
   (some 3)
   else
   (some 0))
  else
  ((idx x0.Counts 0).bind λz10=>
   jn (λ(y12:Bool)=>
    (if y12=true then
     (some 3)
     else
     (jn (λ(y17:Bool)=>
      (if y17=true then
       (some 1)
       else
       (some 0))) λj2=>
      if (x0.Offset<(-1073741824))∨(x0.Offset>1073741824) then
      (j2 true)
      else
      (j2 (decide (W64 ((W64 (x0.Offset+(x0.Counts.length:Int)))-1)>1073741824)))))) λj1=>
   if ((z10).toNat:Int)=0 then
   (j1 true)
   else
   ((idx x0.Counts (W64 ((x0.Counts.length:Int)-1))).bind λz22=>
    j1 (decide (((z22).toNat:Int)=0)))))
def m_limnographref08_sum_L1 (x1:(List UInt64)) (j1:UInt64→Option (UInt64×Bool)):Nat→UInt64→Int→Option (UInt64×Bool)
 | 0,_,_=>none
 | n+1,y5,y6=>
  if y6<(x1.length:Int) then
  ((idx x1 y6).bind λz9=>
   if ((z9).toNat:Int)>(((18446744073709551615:UInt64)-y5).toNat:Int) then
   (some ((0:UInt64),false))
   else
   ((idx x1 y6).bind λz12=>
    m_limnographref08_sum_L1 x1 j1 n (y5+z12) (W64 (y6+1))))
  else
  (j1 y5)
def m_limnographref08_sum (x0:UInt64) (x1:(List UInt64)):Option (UInt64×Bool):=
 jn (λ(y3:UInt64)=>
  (some (y3,true))) λj1=>
 m_limnographref08_sum_L1 x1 j1 fuel x0 0
def m_limnographref08_Total (x0:T_api_Hist):Option (UInt64×Bool):=
 (m_limnographref08_sum x0.Zero x0.Pos.Counts).bind λp10=>
 if (!p10.2)=true then
 (some ((0:UInt64),false))
 else
 ((m_limnographref08_sum p10.1 x0.Neg.Counts).bind λp13=>
  some (p13.1,p13.2))
def m_limnographref08_Check (x0:T_api_Hist):Option Int:=
 if (x0.Scale<(-10))∨(x0.Scale>20) then
 (some 1)
 else
 ((m_limnographref08_side x0.Pos).bind λp13=>
  if p13≠0 then
  (some p13)
  else
  ((m_limnographref08_side x0.Neg).bind λp16=>
   if p16≠0 then
   (some p16)
   else
   ((m_limnographref08_Total x0).bind λp19=>
    if (!p19.2)=true then
    (some 4)
    else
    (some 0))))
def m_limnographref12_Check (x0:T_api_Point):Option Int:=
 (m_limnographref11_Check x0.Name x0.Attrs).bind λp13=>
 if p13≠0 then
 (some p13)
 else
 (if (x0.Kind<1)∨(x0.Kind>5) then
  (some 14)
  else
  (if ((x0.Kind=3)∧(x0.Temp≠0))∨(((x0.Kind≠3)∧(x0.Temp≠1))∧(x0.Temp≠2)) then
   (some 14)
   else
   (if ((x0.Mono=true)∧(x0.Kind≠1))∧(x0.Kind≠2) then
    (some 1)
    else
    (if (((x0.Start<0)∨(x0.Time>4503599627370496))∨((x0.Kind=3)∧(x0.Start≠x0.Time)))∨((x0.Kind≠3)∧(x0.Start≥x0.Time)) then
     (some 1)
     else
     (jn (λ(y50:Bool)=>
      (if y50=true then
       (some 3)
       else
       (if ((((x0.Kind=1)∨(x0.Kind=4))∧(((x0.Re).toNat:Int)≠0))∨(x0.Flags<0))∨(x0.Flags>31) then
        (some 3)
        else
        (jn (λ(y64:Bool)=>
         (if y64=true then
          (some 11)
          else
          (jn (λ(y69:Bool)=>
           (if (y69=true)∨(((x0.Mono=true)∧(x0.Kind=1))∧(x0.Int_<0)) then
            (some 1)
            else
            (if x0.Kind=4 then
             ((m_limnographref08_Check x0.Hist).bind λp79=>
              some p79)
             else
             (some 0)))) λj3=>
           if (x0.Mono=true)∧(x0.Kind=2) then
           ((m_limnographref05_Less x0.Re (0:UInt64)).bind λp82=>
            j3 p82)
           else
           (j3 false)))) λj2=>
         if (x0.Mono=true)∧(x0.Kind=2) then
         ((m_limnographref05_Finite x0.Re).bind λp85=>
          j2 (!p85))
         else
         (j2 false))))) λj1=>
      if ((x0.Kind≠1)∧(x0.Int_≠0))∨((x0.Kind≠5)∧(((x0.Im).toNat:Int)≠0)) then
      (j1 true)
      else
      (jn (λ(y88:Bool)=>
       (j1 y88)) λj4=>
       if x0.Kind≠4 then
       ((m_limnographref12_none x0.Hist).bind λp91=>
        j4 (!p91))
       else
       (j4 false)))))))
def m_limnographref13_Series_L1 (x0:(List UInt8)) (j1:Int→Option (T_api_Point×Int)):Nat→Int→Option (T_api_Point×Int)
 | 0,_=>none
 | n+1,y78=>
  jn (λ(y80:Bool)=>
   (if y80=true then
    (m_limnographref13_Series_L1 x0 j1 n (W64 (y78+1)))
    else
    (j1 y78))) λj6=>
  if y78<(x0.length:Int) then
  ((idx x0 y78).bind λz84=>
   j6 (decide (((z84).toNat:Int)≠32)))
  else
  (j6 false)
def m_limnographref13_Series (x0:(List UInt8)):Option (T_api_Point×Int):=
 jn (λ(y4:Int)=>
  (if W64 ((x0.length:Int)-y4)≠4 then
   (some ((⟨([]:List UInt8),([]:List T_api_Pair),0,0,false,0,0,0,(0:UInt64),(0:UInt64),(⟨0,(0:UInt64),(⟨0,([]:List UInt64)⟩:T_api_Side),(⟨0,([]:List UInt64)⟩:T_api_Side)⟩:T_api_Hist),0⟩:T_api_Point),3))
   else
   ((cutL x0 0 y4).bind λz15=>
    (m_limnographref11_Parse z15).bind λp16=>
    (idx x0 (W64 (y4+1))).bind λz23=>
    (idx x0 (W64 (y4+2))).bind λz24=>
    (idx x0 (W64 (y4+3))).bind λz25=>
    jn (λ(y31:T_api_Point)=>
     (jn (λ(y39:Bool)=>
      (jn (λ(y41:Bool)=>
       (if y41=true then
        (some ((⟨([]:List UInt8),([]:List T_api_Pair),0,0,false,0,0,0,(0:UInt64),(0:UInt64),(⟨0,(0:UInt64),(⟨0,([]:List UInt64)⟩:T_api_Side),(⟨0,([]:List UInt64)⟩:T_api_Side)⟩:T_api_Hist),0⟩:T_api_Point),3))
        else
        (some ((⟨y31.Name,y31.Attrs,y31.Kind,y31.Temp,y31.Mono,0,0,y31.Int_,y31.Re,y31.Im,y31.Hist,y31.Flags⟩:T_api_Point),0)))) λj4=>
       if y39=true then
       (j4 true)
       else
       ((idx x0 (W64 (y4+3))).bind λz59=>
        jn (λ(y60:Bool)=>
         (j4 y60)) λj5=>
        if ((z59).toNat:Int)≠48 then
        ((idx x0 (W64 (y4+3))).bind λz63=>
         j5 (decide (((z63).toNat:Int)≠49)))
        else
        (j5 false)))) λj3=>
      if p16.E≠0 then
      (j3 true)
      else
      ((m_limnographref12_Check y31).bind λp65=>
       j3 (decide (p65≠0))))) λj2=>
    if W64 ((z23.toNat:Int)-48)=3 then
    (j2 (⟨p16.Name,p16.Attrs,W64 ((z23.toNat:Int)-48),W64 ((z24.toNat:Int)-48),decide (((z25).toNat:Int)=49),1,1,0,(0:UInt64),(0:UInt64),(⟨0,(0:UInt64),(⟨0,([]:List UInt64)⟩:T_api_Side),(⟨0,([]:List UInt64)⟩:T_api_Side)⟩:T_api_Hist),0⟩:T_api_Point))
    else
    (j2 (⟨p16.Name,p16.Attrs,W64 ((z23.toNat:Int)-48),W64 ((z24.toNat:Int)-48),decide (((z25).toNat:Int)=49),0,1,0,(0:UInt64),(0:UInt64),(⟨0,(0:UInt64),(⟨0,([]:List UInt64)⟩:T_api_Side),(⟨0,([]:List UInt64)⟩:T_api_Side)⟩:T_api_Hist),0⟩:T_api_Point))))) λj1=>
 m_limnographref13_Series_L1 x0 j1 fuel 0
def m_limnographref35_looked_L1 (x1:(List UInt8)) (p1:(T_api_Point×Int)) (j1:Unit→Option ((List UInt8)×Bool)):Nat→Int→Option ((List UInt8)×Bool)
 | 0,_=>none
 | n+1,y11=>
  if y11<(p1.1.Attrs.length:Int) then
  ((idx p1.1.Attrs y11).bind λz14=>
   if z14.Key=x1 then
   ((idx p1.1.Attrs y11).bind λz16=>
    some (z16.Val,true))
   else
   (m_limnographref35_looked_L1 x1 p1 j1 n (W64 (y11+1))))
  else
  (j1 ())
def m_limnographref35_looked (x0:(List UInt8)) (x1:(List UInt8)):Option ((List UInt8)×Bool):=
 (m_limnographref13_Series x0).bind λp1=>
 if x1=([]:List UInt8) then
 (some (p1.1.Name,true))
 else
 (jn (λ(_:Unit)=>
  (some (([]:List UInt8),false))) λj1=>
  m_limnographref35_looked_L1 x1 p1 j1 fuel 0)
def m_limnographref32_Match_L2 (x0:(List T_limnographref32_Piece)) (x1:(List UInt8)) (y12:(List Bool)) (y15:Int) (j2:(List Bool)→Option Bool):Nat→(List Bool)→Int→Option Bool
 | 0,_,_=>none
 | n+1,y22,y23=>
  if y23≤(x1.length:Int) then
  (jn (λ(y26:(List Bool))=>
   (m_limnographref32_Match_L2 x0 x1 y12 y15 j2 n y26 (W64 (y23+1)))) λj3=>
   (idx x0 y15).bind λz28=>
   if z28.Many=true then
   ((idx y12 y23).bind λz34=>
    jn (λ(y35:Bool)=>
     ((idx y22 y23).bind λz37=>
      j3 (setI y22 y23 y35))) λj4=>
    if z34=true then
    (j4 true)
    else
    (jn (λ(y40:Bool)=>
     (j4 y40)) λj5=>
     if y23>0 then
     ((idx y22 (W64 (y23-1))).bind λz43=>
      j5 z43)
     else
     (j5 false)))
   else
   (if y23>0 then
    ((idx y12 (W64 (y23-1))).bind λz46=>
     if z46=true then
     ((idx x0 y15).bind λz48=>
      (idx x1 (W64 (y23-1))).bind λz53=>
      (idx z48.In (z53.toNat:Int)).bind λz54=>
      (idx y22 y23).bind λz57=>
      j3 (setI y22 y23 z54))
     else
     ((idx y22 y23).bind λz59=>
      j3 (setI y22 y23 false)))
    else
    ((idx y22 y23).bind λz61=>
     j3 (setI y22 y23 false))))
  else
  (j2 y22)
def m_limnographref32_Match_L1 (x0:(List T_limnographref32_Piece)) (x1:(List UInt8)) (j1:(List Bool)→Option Bool):Nat→(List Bool)→Int→Option Bool
 | 0,_,_=>none
 | n+1,y12,y15=>
  if y15<(x0.length:Int) then
  ((mkL (W64 ((x1.length:Int)+1)) (false:Bool)).bind λz18=>
   jn (λ(y20:(List Bool))=>
    (m_limnographref32_Match_L1 x0 x1 j1 n y20 (W64 (y15+1)))) λj2=>
   m_limnographref32_Match_L2 x0 x1 y12 y15 j2 fuel z18 0)
  else
  (j1 y12)
def m_limnographref32_Match (x0:(List T_limnographref32_Piece)) (x1:(List UInt8)):Option Bool:=
 (mkL (W64 ((x1.length:Int)+1)) (false:Bool)).bind λz3=>
 (idx z3 0).bind λz5=>
 jn (λ(y7:(List Bool))=>
  ((idx y7 (x1.length:Int)).bind λz11=>
   some z11)) λj1=>
 m_limnographref32_Match_L1 x0 x1 j1 fuel (setI z3 0 true) 0
def m_limnographref35_Select_L2 (x0:(List (List UInt8))) (x1:(List T_api_Match)) (y18:Int) (j4:Bool→Option T_limnographref35_Chosen):Nat→Bool→Int→Option T_limnographref35_Chosen
 | 0,_,_=>none
 | n+1,y32,y33=>
  if y33<(x1.length:Int) then
  ((idx x0 y18).bind λz37=>
   (idx x1 y33).bind λz40=>
   (m_limnographref35_looked z37 z40.Key).bind λp43=>
   jn (λ(y45:Bool)=>
    (m_limnographref35_Select_L2 x0 x1 y18 j4 n y45 (W64 (y33+1)))) λj5=>
   if y32=true then
   ((idx x1 y33).bind λz49=>
    (idx x1 y33).bind λz52=>
    (m_limnographref32_Compile z49.Glob).bind λp55=>
    (m_limnographref32_Match p55.L p43.1).bind λp58=>
    j5 (decide (p58≠z52.Not)))
   else
   (j5 false))
  else
  (j4 y32)
def m_limnographref35_Select_L1 (x0:(List (List UInt8))) (x1:(List T_api_Match)) (j2:(List Int)→Option T_limnographref35_Chosen):Nat→(List Int)→Int→Option T_limnographref35_Chosen
 | 0,_,_=>none
 | n+1,y15,y18=>
  if y18<(x0.length:Int) then
  (jn (λ(y23:(List Int))=>
   (m_limnographref35_Select_L1 x0 x1 j2 n y23 (W64 (y18+1)))) λj3=>
   jn (λ(y27:Bool)=>
    (if y27=true then
     ((appL y15 [y18]).bind λz30=>
      j3 z30)
     else
     (j3 y15))) λj4=>
   m_limnographref35_Select_L2 x0 x1 y18 j4 fuel true 0)
  else
  (j2 y15)
def m_limnographref35_Select_L3 (x1:(List T_api_Match)) (j1:Unit→Option T_limnographref35_Chosen):Nat→Int→Option T_limnographref35_Chosen
 | 0,_=>none
 | n+1,y60=>
  if y60<(x1.length:Int) then
  ((idx x1 y60).bind λz63=>
   (m_limnographref32_Compile z63.Glob).bind λp65=>
   if p65.E≠0 then
   (some (⟨([]:List Int),y60,p65.E⟩:T_limnographref35_Chosen))
   else
   ((idx x1 y60).bind λz76=>
    jn (λ(y78:Bool)=>
     (if y78=true then
      (some (⟨([]:List Int),y60,3⟩:T_limnographref35_Chosen))
      else
      (m_limnographref35_Select_L3 x1 j1 n (W64 (y60+1))))) λj6=>
    if z76.Key≠([]:List UInt8) then
    ((idx x1 y60).bind λz86=>
     (m_limnographref11_Name z86.Key).bind λp88=>
     j6 (!p88))
    else
    (j6 false)))
  else
  (j1 ())
def m_limnographref35_Select (x0:(List (List UInt8))) (x1:(List T_api_Match)):Option T_limnographref35_Chosen:=
 jn (λ(_:Unit)=>
  (jn (λ(y9:(List Int))=>
   (some (⟨y9,0,0⟩:T_limnographref35_Chosen))) λj2=>
   m_limnographref35_Select_L1 x0 x1 j2 fuel ([]:List Int) 0)) λj1=>
 m_limnographref35_Select_L3 x1 j1 fuel 0
def m_limnographref35_Same_L1 (x0:(List Int)) (x1:(List Int)) (j1:Unit→Option Bool):Nat→Int→Option Bool
 | 0,_=>none
 | n+1,y7=>
  if y7<(x0.length:Int) then
  ((idx x0 y7).bind λz11=>
   (idx x1 y7).bind λz14=>
   if z11≠z14 then
   (some false)
   else
   (m_limnographref35_Same_L1 x0 x1 j1 n (W64 (y7+1))))
  else
  (j1 ())
def m_limnographref35_Same (x0:(List Int)) (x1:(List Int)):Option Bool:=
 if (x0.length:Int)≠(x1.length:Int) then
 (some false)
 else
 (jn (λ(_:Unit)=>
  (some true)) λj1=>
  m_limnographref35_Same_L1 x0 x1 j1 fuel 0)
def m_limnographlaw35_IndexSelects (x0:(List (List UInt8))) (x1:(List T_api_Match)):Option Bool:=
 (m_limnographlaw35_awake).bind λp7=>
 if (!p7)=true then
 (some false)
 else
 ((m_limnographref34_Few x0 40).bind λp10=>
  jn (λ(y12:Bool)=>
   (if y12=true then
    (some true)
    else
    ((m_index_New x0).bind λp15=>
     if ((p15.1).isNone)=true then
     (some true)
     else
     ((p15.1).bind λz20=>
      (m_index_Index_Select z20 x1).bind λp19=>
      (m_limnographref35_Select x0 x1).bind λp24=>
      (m_limnographref35_Same p19.1 p24.L).bind λp30=>
      some (decide (((p30=true)∧(p19.2.1=p24.At))∧(p19.2.2=p24.E))))))) λj1=>
  if (!p10)=true then
  (j1 true)
  else
  ((m_limnographref35_Few x1).bind λp37=>
   j1 (!p37)))
end Go.Proofs.YtpcpfjpcfcbopaaGreatDoor
namespace Go.Proofs.YtpcpfjpcfcbopaaGreatDoor
open Go Go.RowKit Go.Wk
set_option maxRecDepth 20000 in
theorem m_label_isName_L1_scan (z6:(List UInt8)) (j2:Unit→Option Bool) (hE:z6.length<4611686018427387904) :
 m_label_isName_L1 z6 j2 fuel 0=scanL z6 ()
 (λii xx ss kk=>
 (some xx).bind λz12=>
 (m_label_small z12).bind λp14=>
 if ((((!p14)=true)∧((((z12).toNat:Int)<48)∨(((z12).toNat:Int)>57)))∧(((z12).toNat:Int)≠95))∧(((z12).toNat:Int)≠46) then
 (some false)
 else
 (kk ()))
 (λss=>
 j2 ()):=scanQ hE (λnn (ss:Unit) (yy:Int)=>m_label_isName_L1 z6 j2 nn yy) ()
set_option maxRecDepth 20000 in
theorem m_label_isValue_L1_scan (z4:(List UInt8)) (j1:Unit→Option Bool) (hE:z4.length<4611686018427387904) :
 m_label_isValue_L1 z4 j1 fuel 0=scanL z4 ()
 (λii xx ss kk=>
 (some xx).bind λz10=>
 jn (λ(y12:Bool)=>
  (if y12=true then
   (some false)
   else
   (kk ()))) λj2=>
 if ((z10).toNat:Int)<33 then
 (j2 (decide (((z10).toNat:Int)<33)))
 else
 (if ((z10).toNat:Int)>126 then
  (j2 (decide (((z10).toNat:Int)>126)))
  else
  (if ((z10).toNat:Int)=61 then
   (j2 (decide (((z10).toNat:Int)=61)))
   else
   (if ((z10).toNat:Int)=59 then
    (j2 (decide (((z10).toNat:Int)=59)))
    else
    (j2 (decide (((z10).toNat:Int)=44)))))))
 (λss=>
 j1 ()):=scanQ hE (λnn (ss:Unit) (yy:Int)=>m_label_isValue_L1 z4 j1 nn yy) ()
set_option maxRecDepth 20000 in
theorem m_label_follows_L1_scan (x0:(List T_api_Pair)) (x1:(List UInt8)) (j1:Unit→Option Int) (hE:x0.length<4611686018427387904) :
 m_label_follows_L1 x0 x1 j1 fuel 0=scanL x0 ()
 (λii xx ss kk=>
 (some xx).bind λz10=>
 if z10.Key=x1 then
 (some 8)
 else
 (kk ()))
 (λss=>
 j1 ()):=scanQ hE (λnn (ss:Unit) (yy:Int)=>m_label_follows_L1 x0 x1 j1 nn yy) ()
set_option maxRecDepth 20000 in
theorem m_slices_IndexFunc_api_Pair_api_Pair_s1_L1_scan (x0:(List T_api_Pair)) (x1_0:T_api_Pair) (j1:Unit→Option Int) (hE:x0.length<4611686018427387904) :
 m_slices_IndexFunc_api_Pair_api_Pair_s1_L1 x0 x1_0 j1 fuel 0=scanL x0 ()
 (λii xx ss kk=>
 (some xx).bind λz9=>
 (m_label_Check_1 z9 x1_0).bind λp11=>
 if p11=true then
 (some (ii:Int))
 else
 (kk ()))
 (λss=>
 j1 ()):=scanQ hE (λnn (ss:Unit) (yy:Int)=>m_slices_IndexFunc_api_Pair_api_Pair_s1_L1 x0 x1_0 j1 nn yy) ()
set_option maxRecDepth 20000 in
theorem m_label_Check_L1_scan (x1:(List T_api_Pair)) (j1:Unit→Option Int) (hE:x1.length<4611686018427387904) :
 m_label_Check_L1 x1 j1 fuel 0=scanL x1 ()
 (λii xx ss kk=>
 (some xx).bind λz11=>
 (m_label_isName z11.Key).bind λp18=>
 jn (λ(y20:Bool)=>
  (if y20=true then
   (some 3)
   else
   ((cutL x1 0 (ii:Int)).bind λz23=>
    (m_slices_ContainsFunc_api_Pair_api_Pair_s2 z23 z11).bind λp25=>
    if p25=true then
    (some 8)
    else
    (kk ())))) λj2=>
 if (!p18)=true then
 (j2 true)
 else
 ((m_label_isValue z11.Val).bind λp29=>
  j2 (!p29)))
 (λss=>
 j1 ()):=scanQ hE (λnn (ss:Unit) (yy:Int)=>m_label_Check_L1 x1 j1 nn yy) ()
set_option maxRecDepth 20000 in
theorem m_hist_Total_L2_scan (z23:T_api_Side) (j2:UInt64→UInt64→Option (UInt64×Bool)) (y32:UInt64) (y33:UInt64) (hE:z23.Counts.length<4611686018427387904) :
 m_hist_Total_L2 z23 j2 fuel y32 y33 0=scanL z23.Counts (y32,y33)
 (λii xx ss kk=>
 (some xx).bind λz37=>
 kk ((ss.1+z37),(ss.2|||(cry ss.1 z37))))
 (λss=>
 j2 ss.1 ss.2):=scanQ hE (λnn (ss:(UInt64)×(UInt64)) (yy:Int)=>m_hist_Total_L2 z23 j2 nn ss.1 ss.2 yy) (y32,y33)
set_option maxRecDepth 20000 in
theorem m_index_New_L2_scan (y20:Int) (z53:(List T_api_Pair)) (j4:T_index_Index→Option ((Option T_index_Index)×Int×Int)) (y60:T_index_Index) (hE:z53.length<4611686018427387904) :
 m_index_New_L2 y20 z53 j4 fuel 0 y60=scanL z53 y60
 (λii xx ss kk=>
 (some xx).bind λz63=>
 (appL (lookO z63 ss.rows) ([y20]:List Int)).bind λz77=>
 kk (⟨ss.keys,(putO z63 z77 ss.rows)⟩:T_index_Index))
 (λss=>
 j4 ss):=scanQ hE (λnn (ss:(T_index_Index)) (yy:Int)=>m_index_New_L2 y20 z53 j4 nn yy ss) y60
set_option maxRecDepth 20000 in
theorem m_index_New_L1_scan (x0:(List (List UInt8))) (j1:T_index_Index→Option ((Option T_index_Index)×Int×Int)) (y21:(Kv Int)) (y22:T_index_Index) (hE:x0.length<4611686018427387904) :
 m_index_New_L1 x0 j1 fuel 0 y21 y22=scanL x0 (y21,y22)
 (λii xx ss kk=>
 (some xx).bind λz25=>
 (m_chunk_Series z25).bind λp27=>
 jn (λ(y36:Bool)=>
  (jn (λ(y39:Int)=>
   (if y39≠0 then
    (some ((none:Option T_index_Index),(ii:Int),y39))
    else
    ((appL ss.2.keys [z25]).bind λz49=>
     (appL p27.1.Attrs [(⟨([]:List UInt8),p27.1.Name⟩:T_api_Pair)]).bind λz53=>
     jn (λ(y57:T_index_Index)=>
      (kk ((putP z25 (W64 (((lookP z25 ss.1).getD 0)+1)) ss.1),y57))) λj4=>
     m_index_New_L2 (ii:Int) z53 j4 fuel 0 (⟨z49,ss.2.rows⟩:T_index_Index)))) λj3=>
   if y36=true then
   (j3 8)
   else
   (j3 p27.2))) λj2=>
 if p27.2=0 then
 (j2 (decide (((lookP z25 ss.1).getD 0)>0)))
 else
 (j2 false))
 (λss=>
 j1 ss.2):=scanQ hE (λnn (ss:((Kv Int))×(T_index_Index)) (yy:Int)=>m_index_New_L1 x0 j1 nn yy ss.1 ss.2) (y21,y22)
set_option maxRecDepth 20000 in
theorem m_index_Index_all_L1_scan (z9:(List Int)) (j1:(List Int)→Option (List Int)) (y13:(List Int)) (hE:z9.length<4611686018427387904) :
 m_index_Index_all_L1 z9 j1 fuel y13 0=scanL z9 y13
 (λii xx ss kk=>
 (idx ss (ii:Int)).bind λz17=>
 kk (setI ss (ii:Int) (ii:Int)))
 (λss=>
 j1 ss):=scanQ hE (λnn (ss:((List Int))) (yy:Int)=>m_index_Index_all_L1 z9 j1 nn ss yy) y13
set_option maxRecDepth 20000 in
theorem m_index_Index_ask_L1_scan (x0:T_index_Index) (x1:T_api_Match) (x2:T_glob_Glob) (p8:(List (List UInt8))) (j1:(List Int)→(List Int)→Option (List Int)) (y41:(List Int)) (y44:(List Int)) (hE:p8.length<4611686018427387904) :
 m_index_Index_ask_L1 x0 x1 x2 p8 j1 fuel y41 y44 0=scanL p8 (y41,y44)
 (λii xx ss kk=>
 jn (λ(y54:(List Int)) (y57:(List Int))=>
  (kk (y54,y57))) λj3=>
 (some xx).bind λz61=>
 (m_index_Or ss.2 (lookO (⟨x1.Key,z61⟩:T_api_Pair) x0.rows)).bind λp71=>
 (m_glob_Glob_Match x2 z61).bind λp74=>
 if p74=true then
 ((m_index_Or ss.1 (lookO (⟨x1.Key,z61⟩:T_api_Pair) x0.rows)).bind λp77=>
  j3 p77 p71)
 else
 (j3 ss.1 p71))
 (λss=>
 j1 ss.1 ss.2):=scanQ hE (λnn (ss:((List Int))×((List Int))) (yy:Int)=>m_index_Index_ask_L1 x0 x1 x2 p8 j1 nn ss.1 ss.2 yy) (y41,y44)
set_option maxRecDepth 20000 in
theorem m_index_Index_Select_L1_scan (x0:T_index_Index) (x1:(List T_api_Match)) (y7:(List T_glob_Glob)) (j2:(List Int)→Option ((List Int)×Int×Int)) (y20:(List Int)) (hE:x1.length<4611686018427387904) :
 m_index_Index_Select_L1 x0 x1 y7 j2 fuel y20 0=scanL x1 y20
 (λii xx ss kk=>
 (some xx).bind λz26=>
 (idx y7 (ii:Int)).bind λz34=>
 (m_index_Index_ask x0 z26 z34).bind λp37=>
 (m_index_And ss p37).bind λp40=>
 kk p40)
 (λss=>
 j2 ss):=scanQ hE (λnn (ss:((List Int))) (yy:Int)=>m_index_Index_Select_L1 x0 x1 y7 j2 nn ss yy) y20
set_option maxRecDepth 20000 in
theorem m_index_Index_Select_L2_scan (x1:(List T_api_Match)) (j1:(List T_glob_Glob)→Option ((List Int)×Int×Int)) (y43:(List T_glob_Glob)) (hE:x1.length<4611686018427387904) :
 m_index_Index_Select_L2 x1 j1 fuel y43 0=scanL x1 y43
 (λii xx ss kk=>
 (some xx).bind λz51=>
 (m_glob_Compile z51.Glob).bind λp58=>
 jn (λ(y64:Bool)=>
  (jn (λ(y67:Int)=>
   (if y67≠0 then
    (some (([]:List Int),(ii:Int),y67))
    else
    ((p58.1).bind λz72=>
     (appL ss [z72]).bind λz74=>
     kk z74))) λj4=>
   if y64=true then
   (j4 3)
   else
   (j4 p58.2.2))) λj3=>
 if (p58.2.2=0)∧(z51.Key≠([]:List UInt8)) then
 ((m_label_Check z51.Key ([]:List T_api_Pair)).bind λp79=>
  j3 (decide (p79≠0)))
 else
 (j3 false))
 (λss=>
 j1 ss):=scanQ hE (λnn (ss:((List T_glob_Glob))) (yy:Int)=>m_index_Index_Select_L2 x1 j1 nn ss yy) y43
set_option maxRecDepth 20000 in
theorem m_limnographref34_Few_L1_scan (x0:(List (List UInt8))) (j1:Unit→Option Bool) (hE:x0.length<4611686018427387904) :
 m_limnographref34_Few_L1 x0 j1 fuel 0=scanL x0 ()
 (λii xx ss kk=>
 (some xx).bind λz8=>
 if (z8.length:Int)>500 then
 (some false)
 else
 (kk ()))
 (λss=>
 j1 ()):=scanQ hE (λnn (ss:Unit) (yy:Int)=>m_limnographref34_Few_L1 x0 j1 nn yy) ()
set_option maxRecDepth 20000 in
theorem m_limnographref35_Few_L1_scan (x0:(List T_api_Match)) (j1:Unit→Option Bool) (hE:x0.length<4611686018427387904) :
 m_limnographref35_Few_L1 x0 j1 fuel 0=scanL x0 ()
 (λii xx ss kk=>
 (some xx).bind λz8=>
 jn (λ(y10:Bool)=>
  (if y10=true then
   (some false)
   else
   (kk ()))) λj2=>
 if (z8.Glob.length:Int)>70 then
 (j2 true)
 else
 ((some xx).bind λz14=>
  j2 (decide ((z14.Key.length:Int)>100))))
 (λss=>
 j1 ()):=scanQ hE (λnn (ss:Unit) (yy:Int)=>m_limnographref35_Few_L1 x0 j1 nn yy) ()
set_option maxRecDepth 20000 in
theorem m_limnographref11_Name_L1_scan (x0:(List UInt8)) (j1:Unit→Option Bool) (hE:x0.length<4611686018427387904) :
 m_limnographref11_Name_L1 x0 j1 fuel 0=scanL x0 ()
 (λii xx ss kk=>
 (some xx).bind λz8=>
 if (¬((((z8).toNat:Int)≥97)∧(((z8).toNat:Int)≤122)))∧(((ii:Int)=0)∨(¬((((((z8).toNat:Int)≥48)∧(((z8).toNat:Int)≤57))∨(((z8).toNat:Int)=95))∨(((z8).toNat:Int)=46)))) then
 (some false)
 else
 (kk ()))
 (λss=>
 j1 ()):=scanQ hE (λnn (ss:Unit) (yy:Int)=>m_limnographref11_Name_L1 x0 j1 nn yy) ()
set_option maxRecDepth 20000 in
theorem m_limnographref11_Value_L1_scan (x0:(List UInt8)) (j1:Unit→Option Bool) (hE:x0.length<4611686018427387904) :
 m_limnographref11_Value_L1 x0 j1 fuel 0=scanL x0 ()
 (λii xx ss kk=>
 (some xx).bind λz8=>
 if ((((((z8).toNat:Int)≤32)∨(((z8).toNat:Int)≥127))∨(((z8).toNat:Int)=61))∨(((z8).toNat:Int)=59))∨(((z8).toNat:Int)=44) then
 (some false)
 else
 (kk ()))
 (λss=>
 j1 ()):=scanQ hE (λnn (ss:Unit) (yy:Int)=>m_limnographref11_Value_L1 x0 j1 nn yy) ()
set_option maxRecDepth 20000 in
theorem m_limnographref11_Parse_L2_scan (y23:Int) (y24:T_limnographref11_Got) (z51:(List UInt8)) (j4:Unit→Option T_limnographref11_Got) (hE:y24.Attrs.length<4611686018427387904) :
 m_limnographref11_Parse_L2 y23 y24 z51 j4 fuel 0=scanL y24.Attrs ()
 (λii xx ss kk=>
 (some xx).bind λz77=>
 if z77.Key=z51 then
 (some (⟨([]:List UInt8),([]:List T_api_Pair),W64 (y23+1),8⟩:T_limnographref11_Got))
 else
 (kk ()))
 (λss=>
 j4 ()):=scanQ hE (λnn (ss:Unit) (yy:Int)=>m_limnographref11_Parse_L2 y23 y24 z51 j4 nn yy) ()
set_option maxRecDepth 20000 in
theorem m_limnographref11_Check_L1_scan (x1:(List T_api_Pair)) (j1:Unit→Option Int) (hE:x1.length<4611686018427387904) :
 m_limnographref11_Check_L1 x1 j1 fuel 0=scanL x1 ()
 (λii xx ss kk=>
 (some xx).bind λz11=>
 (m_limnographref11_Name z11.Key).bind λp13=>
 jn (λ(y15:Bool)=>
  (if y15=true then
   (some 3)
   else
   (jn (λ(_:Unit)=>
    (kk ())) λj3=>
    m_limnographref11_Check_L2 x1 (ii:Int) j3 fuel 0))) λj2=>
 if (!p13)=true then
 (j2 true)
 else
 ((some xx).bind λz31=>
  (m_limnographref11_Value z31.Val).bind λp33=>
  j2 (!p33)))
 (λss=>
 j1 ()):=scanQ hE (λnn (ss:Unit) (yy:Int)=>m_limnographref11_Check_L1 x1 j1 nn yy) ()
set_option maxRecDepth 20000 in
theorem m_limnographref08_SameSide_L1_scan (x0:T_api_Side) (x1:T_api_Side) (j1:Unit→Option Bool) (hE:x0.Counts.length<4611686018427387904) :
 m_limnographref08_SameSide_L1 x0 x1 j1 fuel 0=scanL x0.Counts ()
 (λii xx ss kk=>
 (some xx).bind λz21=>
 (idx x1.Counts (ii:Int)).bind λz24=>
 if ((z21).toNat:Int)≠((z24).toNat:Int) then
 (some false)
 else
 (kk ()))
 (λss=>
 j1 ()):=scanQ hE (λnn (ss:Unit) (yy:Int)=>m_limnographref08_SameSide_L1 x0 x1 j1 nn yy) ()
set_option maxRecDepth 20000 in
theorem m_limnographref08_sum_L1_scan (x1:(List UInt64)) (j1:UInt64→Option (UInt64×Bool)) (y5:UInt64) (hE:x1.length<4611686018427387904) :
 m_limnographref08_sum_L1 x1 j1 fuel y5 0=scanL x1 y5
 (λii xx ss kk=>
 (some xx).bind λz9=>
 if ((z9).toNat:Int)>(((18446744073709551615:UInt64)-ss).toNat:Int) then
 (some ((0:UInt64),false))
 else
 ((some xx).bind λz12=>
  kk (ss+z12)))
 (λss=>
 j1 ss):=scanQ hE (λnn (ss:(UInt64)) (yy:Int)=>m_limnographref08_sum_L1 x1 j1 nn ss yy) y5
set_option maxRecDepth 20000 in
theorem m_limnographref35_looked_L1_scan (x1:(List UInt8)) (p1:(T_api_Point×Int)) (j1:Unit→Option ((List UInt8)×Bool)) (hE:p1.1.Attrs.length<4611686018427387904) :
 m_limnographref35_looked_L1 x1 p1 j1 fuel 0=scanL p1.1.Attrs ()
 (λii xx ss kk=>
 (some xx).bind λz14=>
 if z14.Key=x1 then
 ((some xx).bind λz16=>
  some (z16.Val,true))
 else
 (kk ()))
 (λss=>
 j1 ()):=scanQ hE (λnn (ss:Unit) (yy:Int)=>m_limnographref35_looked_L1 x1 p1 j1 nn yy) ()
set_option maxRecDepth 20000 in
theorem m_limnographref32_Match_L1_scan (x0:(List T_limnographref32_Piece)) (x1:(List UInt8)) (j1:(List Bool)→Option Bool) (y12:(List Bool)) (hE:x0.length<4611686018427387904) :
 m_limnographref32_Match_L1 x0 x1 j1 fuel y12 0=scanL x0 y12
 (λii xx ss kk=>
 (mkL (W64 ((x1.length:Int)+1)) (false:Bool)).bind λz18=>
 jn (λ(y20:(List Bool))=>
  (kk y20)) λj2=>
 m_limnographref32_Match_L2 x0 x1 ss (ii:Int) j2 fuel z18 0)
 (λss=>
 j1 ss):=scanQ hE (λnn (ss:((List Bool))) (yy:Int)=>m_limnographref32_Match_L1 x0 x1 j1 nn ss yy) y12
set_option maxRecDepth 20000 in
theorem m_limnographref35_Select_L2_scan (x0:(List (List UInt8))) (x1:(List T_api_Match)) (y18:Int) (j4:Bool→Option T_limnographref35_Chosen) (y32:Bool) (hE:x1.length<4611686018427387904) :
 m_limnographref35_Select_L2 x0 x1 y18 j4 fuel y32 0=scanL x1 y32
 (λii xx ss kk=>
 (idx x0 y18).bind λz37=>
 (some xx).bind λz40=>
 (m_limnographref35_looked z37 z40.Key).bind λp43=>
 jn (λ(y45:Bool)=>
  (kk y45)) λj5=>
 if ss=true then
 ((some xx).bind λz49=>
  (some xx).bind λz52=>
  (m_limnographref32_Compile z49.Glob).bind λp55=>
  (m_limnographref32_Match p55.L p43.1).bind λp58=>
  j5 (decide (p58≠z52.Not)))
 else
 (j5 false))
 (λss=>
 j4 ss):=scanQ hE (λnn (ss:(Bool)) (yy:Int)=>m_limnographref35_Select_L2 x0 x1 y18 j4 nn ss yy) y32
set_option maxRecDepth 20000 in
theorem m_limnographref35_Select_L1_scan (x0:(List (List UInt8))) (x1:(List T_api_Match)) (j2:(List Int)→Option T_limnographref35_Chosen) (y15:(List Int)) (hE:x0.length<4611686018427387904) :
 m_limnographref35_Select_L1 x0 x1 j2 fuel y15 0=scanL x0 y15
 (λii xx ss kk=>
 jn (λ(y23:(List Int))=>
  (kk y23)) λj3=>
 jn (λ(y27:Bool)=>
  (if y27=true then
   ((appL ss [(ii:Int)]).bind λz30=>
    j3 z30)
   else
   (j3 ss))) λj4=>
 m_limnographref35_Select_L2 x0 x1 (ii:Int) j4 fuel true 0)
 (λss=>
 j2 ss):=scanQ hE (λnn (ss:((List Int))) (yy:Int)=>m_limnographref35_Select_L1 x0 x1 j2 nn ss yy) y15
set_option maxRecDepth 20000 in
theorem m_limnographref35_Select_L3_scan (x1:(List T_api_Match)) (j1:Unit→Option T_limnographref35_Chosen) (hE:x1.length<4611686018427387904) :
 m_limnographref35_Select_L3 x1 j1 fuel 0=scanL x1 ()
 (λii xx ss kk=>
 (some xx).bind λz63=>
 (m_limnographref32_Compile z63.Glob).bind λp65=>
 if p65.E≠0 then
 (some (⟨([]:List Int),(ii:Int),p65.E⟩:T_limnographref35_Chosen))
 else
 ((some xx).bind λz76=>
  jn (λ(y78:Bool)=>
   (if y78=true then
    (some (⟨([]:List Int),(ii:Int),3⟩:T_limnographref35_Chosen))
    else
    (kk ()))) λj6=>
  if z76.Key≠([]:List UInt8) then
  ((some xx).bind λz86=>
   (m_limnographref11_Name z86.Key).bind λp88=>
   j6 (!p88))
  else
  (j6 false)))
 (λss=>
 j1 ()):=scanQ hE (λnn (ss:Unit) (yy:Int)=>m_limnographref35_Select_L3 x1 j1 nn yy) ()
set_option maxRecDepth 20000 in
theorem m_limnographref35_Same_L1_scan (x0:(List Int)) (x1:(List Int)) (j1:Unit→Option Bool) (hE:x0.length<4611686018427387904) :
 m_limnographref35_Same_L1 x0 x1 j1 fuel 0=scanL x0 ()
 (λii xx ss kk=>
 (some xx).bind λz11=>
 (idx x1 (ii:Int)).bind λz14=>
 if z11≠z14 then
 (some false)
 else
 (kk ()))
 (λss=>
 j1 ()):=scanQ hE (λnn (ss:Unit) (yy:Int)=>m_limnographref35_Same_L1 x0 x1 j1 nn yy) ()
end Go.Proofs.YtpcpfjpcfcbopaaGreatDoor
