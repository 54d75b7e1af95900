import Derived.Test.YtaikmpmokihciaaGreatVY2
set_option linter.unusedVariables false
set_option linter.unusedSimpArgs false
namespace Go.Proofs.YtaikmpmokihciaaGreat
open Go Go.RowKit Go.Wk
structure T_api_Config where
 Out:Int
 Series:Int
 Buckets:Int
 Points:Int
 Bytes:Int
 Disk:Int
 Window:Int
 deriving DecidableEq
def T_api_Config.rep:Rep T_api_Config:=Rep.map (λx=>(x.Out,(x.Series,(x.Buckets,(x.Points,(x.Bytes,(x.Disk,x.Window))))))) (Rep.two (intR .i64) (Rep.two (intR .i64) (Rep.two (intR .i64) (Rep.two (intR .i64) (Rep.two (intR .i64) (Rep.two (intR .i64) (intR .i64)))))))
theorem T_api_Config.flat:T_api_Config.rep.Flat:=map_flat _ (two_flat (int_flat _) (two_flat (int_flat _) (two_flat (int_flat _) (two_flat (int_flat _) (two_flat (int_flat _) (two_flat (int_flat _) (int_flat _)))))))
structure T_api_Pair where
 Key:(List UInt8)
 Val:(List UInt8)
 deriving DecidableEq
def T_api_Pair.rep:Rep T_api_Pair:=Rep.map (λx=>(x.Key,x.Val)) (Rep.two textR textR)
theorem T_api_Pair.flat:T_api_Pair.rep.Flat:=map_flat _ (two_flat text_flat text_flat)
structure T_api_Side where
 Offset:Int
 Counts:(List UInt64)
 deriving DecidableEq
def T_api_Side.rep:Rep T_api_Side:=Rep.map (λx=>(x.Offset,x.Counts)) (Rep.two (intR .i64) (Rep.sl w64R))
structure T_api_Hist where
 Scale:Int
 Zero:UInt64
 Pos:T_api_Side
 Neg:T_api_Side
 deriving DecidableEq
def T_api_Hist.rep:Rep T_api_Hist:=Rep.map (λx=>(x.Scale,(x.Zero,(x.Pos,x.Neg)))) (Rep.two (intR .i64) (Rep.two w64R (Rep.two T_api_Side.rep T_api_Side.rep)))
structure T_api_Point where
 Name:(List UInt8)
 Attrs:(List T_api_Pair)
 Kind:Int
 Temp:Int
 Mono:Bool
 Start:Int
 Time:Int
 Int_:Int
 Re:UInt64
 Im:UInt64
 Hist:T_api_Hist
 Flags:Int
 deriving DecidableEq
def T_api_Point.rep:Rep T_api_Point:=Rep.map (λx=>(x.Name,(x.Attrs,(x.Kind,(x.Temp,(x.Mono,(x.Start,(x.Time,(x.Int_,(x.Re,(x.Im,(x.Hist,x.Flags)))))))))))) (Rep.two textR (Rep.two (Rep.sl T_api_Pair.rep) (Rep.two (intR .i64) (Rep.two (intR .i64) (Rep.two boolR (Rep.two (intR .i64) (Rep.two (intR .i64) (Rep.two (intR .i64) (Rep.two w64R (Rep.two w64R (Rep.two T_api_Hist.rep (intR .i64))))))))))))
structure T_api_State where
 Some:Bool
 Start:Int
 Time:Int
 Int_:Int
 Re:UInt64
 Im:UInt64
 Hist:T_api_Hist
 deriving DecidableEq
def T_api_State.rep:Rep T_api_State:=Rep.map (λx=>(x.Some,(x.Start,(x.Time,(x.Int_,(x.Re,(x.Im,x.Hist))))))) (Rep.two boolR (Rep.two (intR .i64) (Rep.two (intR .i64) (Rep.two (intR .i64) (Rep.two w64R (Rep.two w64R T_api_Hist.rep))))))
structure T_convert_kept where
 State:T_api_State
 series:T_api_Point
 deriving DecidableEq
def T_convert_kept.rep:Rep T_convert_kept:=Rep.map (λx=>(x.State,x.series)) (Rep.two T_api_State.rep T_api_Point.rep)
structure T_table_slot_convert_kept_ where
 v:T_convert_kept
 when:Int
 deriving DecidableEq
def T_table_slot_convert_kept_.rep:Rep T_table_slot_convert_kept_:=Rep.map (λx=>(x.v,x.when)) (Rep.two T_convert_kept.rep (intR .i64))
structure T_table_Table_convert_kept_ where
 most:Int
 clock:Int
 m:(Kv T_table_slot_convert_kept_)
 deriving DecidableEq
structure T_convert_Converter where
 cfg:T_api_Config
 states:T_table_Table_convert_kept_
 deriving DecidableEq
structure T_arr2_api_Side where
 a0:T_api_Side
 a1:T_api_Side
 deriving DecidableEq
structure T_todelta_value where
 i:Int
 re:UInt64
 im:UInt64
 h:T_api_Hist
 deriving DecidableEq
def T_todelta_value.rep:Rep T_todelta_value:=Rep.map (λx=>(x.i,(x.re,(x.im,x.h)))) (Rep.two (intR .i64) (Rep.two w64R (Rep.two w64R T_api_Hist.rep)))
structure T_pack_Writer where
 b:(List UInt8)
 deriving DecidableEq
structure T_pack_Reader where
 b:(List UInt8)
 at_:Int
 e:Int
 deriving DecidableEq
structure T_point_reader where
 Reader:T_pack_Reader
 e:Int
 deriving DecidableEq
def T_table_Table_convert_kept_.sh (b:Nat) (x:T_table_Table_convert_kept_):List Rs→Prop:=λL=>∃ (m1_0:Nat),L=[boxR b 132 [iv x.most,iv x.clock,.map (some m1_0)],mapR m1_0 vA T_table_slot_convert_kept_.rep x.m]
def T_table_Table_convert_kept_.obj (F:Nat→Prop) (b:Nat) (x:T_table_Table_convert_kept_):Rs:=objR F (T_table_Table_convert_kept_.sh b x)
def T_convert_Converter.sh (b:Nat) (x:T_convert_Converter):List Rs→Prop:=λL=>∃ (F1_0:(Nat→Prop)) (b1_0:Nat),L=[boxR b 74 [iv x.cfg.Out,iv x.cfg.Series,iv x.cfg.Buckets,iv x.cfg.Points,iv x.cfg.Bytes,iv x.cfg.Disk,iv x.cfg.Window,pt b1_0 0],T_table_Table_convert_kept_.obj F1_0 b1_0 x.states]
def T_convert_Converter.obj (F:Nat→Prop) (b:Nat) (x:T_convert_Converter):Rs:=objR F (T_convert_Converter.sh b x)
def T_api_Side.sh (b:Nat) (x:T_api_Side):List Rs→Prop:=λL=>∃ (A1_0:Option Addr) (c1_0:Nat),L=[boxR b 34 [iv x.Offset,.slice A1_0 (x.Counts).length c1_0],ownR 31 A1_0 c1_0 w64R x.Counts]
def T_api_Side.obj (F:Nat→Prop) (b:Nat) (x:T_api_Side):Rs:=objR F (T_api_Side.sh b x)
def T_api_State.sh (b:Nat) (x:T_api_State):List Rs→Prop:=λL=>∃ (A1_0:Option Addr) (c1_0:Nat) (A1_1:Option Addr) (c1_1:Nat),L=[boxR b 70 [.bool (x.Some),iv x.Start,iv x.Time,iv x.Int_,u64v x.Re,u64v x.Im,iv x.Hist.Scale,u64v x.Hist.Zero,iv x.Hist.Pos.Offset,.slice A1_0 (x.Hist.Pos.Counts).length c1_0,iv x.Hist.Neg.Offset,.slice A1_1 (x.Hist.Neg.Counts).length c1_1],slR A1_0 c1_0 w64R x.Hist.Pos.Counts,slR A1_1 c1_1 w64R x.Hist.Neg.Counts]
def T_api_State.obj (F:Nat→Prop) (b:Nat) (x:T_api_State):Rs:=objR F (T_api_State.sh b x)
def T_api_Point.sh (b:Nat) (x:T_api_Point):List Rs→Prop:=λL=>∃ (A1_0:Option Addr) (c1_0:Nat) (A1_1:Option Addr) (c1_1:Nat) (A1_2:Option Addr) (c1_2:Nat),L=[boxR b 38 [Str (x.Name),.slice A1_0 (x.Attrs).length c1_0,iv x.Kind,iv x.Temp,.bool (x.Mono),iv x.Start,iv x.Time,iv x.Int_,u64v x.Re,u64v x.Im,iv x.Hist.Scale,u64v x.Hist.Zero,iv x.Hist.Pos.Offset,.slice A1_1 (x.Hist.Pos.Counts).length c1_1,iv x.Hist.Neg.Offset,.slice A1_2 (x.Hist.Neg.Counts).length c1_2,iv x.Flags],slR A1_0 c1_0 T_api_Pair.rep x.Attrs,slR A1_1 c1_1 w64R x.Hist.Pos.Counts,slR A1_2 c1_2 w64R x.Hist.Neg.Counts]
def T_api_Point.obj (F:Nat→Prop) (b:Nat) (x:T_api_Point):Rs:=objR F (T_api_Point.sh b x)
def T_api_Hist.sh (b:Nat) (x:T_api_Hist):List Rs→Prop:=λL=>∃ (A1_0:Option Addr) (c1_0:Nat) (A1_1:Option Addr) (c1_1:Nat),L=[boxR b 36 [iv x.Scale,u64v x.Zero,iv x.Pos.Offset,.slice A1_0 (x.Pos.Counts).length c1_0,iv x.Neg.Offset,.slice A1_1 (x.Neg.Counts).length c1_1],slR A1_0 c1_0 w64R x.Pos.Counts,slR A1_1 c1_1 w64R x.Neg.Counts]
def T_api_Hist.obj (F:Nat→Prop) (b:Nat) (x:T_api_Hist):Rs:=objR F (T_api_Hist.sh b x)
def T_pack_Writer.sh (b:Nat) (x:T_pack_Writer):List Rs→Prop:=λL=>∃ (A1_0:Option Addr) (c1_0:Nat),L=[boxR b 157 [.slice A1_0 (x.b).length c1_0],ownR 5 A1_0 c1_0 byteR x.b]
def T_pack_Writer.obj (F:Nat→Prop) (b:Nat) (x:T_pack_Writer):Rs:=objR F (T_pack_Writer.sh b x)
theorem T_pack_Writer.oflat (F:Nat→Prop) (b:Nat) (x:T_pack_Writer):(T_pack_Writer.obj F b x).Flat:=objR_flat λL hL=>by
 obtain ⟨_,_,rfl⟩:=hL;exact (flC (boxR_flat _ _ _) (flC (ownR_flat byte_flat _ _ _ _) fl0))
def T_pack_Reader.sh (b:Nat) (x:T_pack_Reader):List Rs→Prop:=λL=>∃ (A1_0:Option Addr) (c1_0:Nat),L=[boxR b 181 [.slice A1_0 (x.b).length c1_0,iv x.at_,iv x.e],slR A1_0 c1_0 byteR x.b]
def T_pack_Reader.obj (F:Nat→Prop) (b:Nat) (x:T_pack_Reader):Rs:=objR F (T_pack_Reader.sh b x)
def T_point_reader.sh (b:Nat) (x:T_point_reader):List Rs→Prop:=λL=>∃ (F1_0:(Nat→Prop)) (b1_0:Nat),L=[boxR b 187 [pt b1_0 0,iv x.e],T_pack_Reader.obj F1_0 b1_0 x.Reader]
def T_point_reader.obj (F:Nat→Prop) (b:Nat) (x:T_point_reader):Rs:=objR F (T_point_reader.sh b x)
def zl136:T_table_slot_convert_kept_:=(⟨(⟨(⟨false,0,0,0,(0:UInt64),(0:UInt64),(⟨0,(0:UInt64),(⟨0,[]⟩:T_api_Side),(⟨0,[]⟩:T_api_Side)⟩:T_api_Hist)⟩:T_api_State),(⟨([]:List UInt8),[],0,0,false,0,0,0,(0:UInt64),(0:UInt64),(⟨0,(0:UInt64),(⟨0,[]⟩:T_api_Side),(⟨0,[]⟩:T_api_Side)⟩:T_api_Hist),0⟩:T_api_Point)⟩:T_convert_kept),0⟩:T_table_slot_convert_kept_)
def m_convert_Good (x0:T_api_Config):Option Bool:=
 some (decide ((((((x0.Out≥0)∧(x0.Out≤2))∧(x0.Series≥1))∧(x0.Series≤16))∧(x0.Buckets≥1))∧(x0.Buckets≤160)))
def m_table_New_convert_kept (x0:Int):Option T_table_Table_convert_kept_:=
 some (⟨max x0 0,0,([]:Kv T_table_slot_convert_kept_)⟩:T_table_Table_convert_kept_)
def m_convert_New (x0:T_api_Config):Option (Option T_convert_Converter):=
 (m_convert_Good x0).bind λp4=>
 if (!p4)=true then
 (some (none:Option T_convert_Converter))
 else
 ((m_table_New_convert_kept x0.Series).bind λp10=>
  some (some (⟨x0,p10⟩:T_convert_Converter)))
def m_label_small (x0:UInt8):Option Bool:=
 some (decide ((((x0).toNat:Int)≥97)∧(((x0).toNat:Int)≤122)))
def m_label_isName_L1 (z6:(List UInt8)) (j2:Unit→Option Bool):Nat→Int→Option Bool
 | 0,_=>none
 | n+1,y9=>
  if y9<(z6.length:Int) then
  ((idx z6 y9).bind λz12=>
   (m_label_small z12).bind λp14=>
   if ((((!p14)=true)∧((((z12).toNat:Int)<48)∨(((z12).toNat:Int)>57)))∧(((z12).toNat:Int)≠95))∧(((z12).toNat:Int)≠46) then
   (some false)
   else
   (m_label_isName_L1 z6 j2 n (W64 (y9+1))))
  else
  (j2 ())
def m_label_isName (x0:(List UInt8)):Option Bool:=
 jn (λ(y3:Bool)=>
  (if y3=true then
   (some false)
   else
   ((lenS x0).bind λz6=>
    jn (λ(_:Unit)=>
     (some true)) λj2=>
    m_label_isName_L1 z6 j2 fuel 0))) λj1=>
 if (x0=([]:List UInt8))∨((x0.length:Int)>32) then
 (j1 true)
 else
 ((idx x0 0).bind λz26=>
  (m_label_small z26).bind λp27=>
  j1 (!p27))
def m_label_isValue_L1 (z4:(List UInt8)) (j1:Unit→Option Bool):Nat→Int→Option Bool
 | 0,_=>none
 | n+1,y7=>
  if y7<(z4.length:Int) then
  ((idx z4 y7).bind λz10=>
   jn (λ(y12:Bool)=>
    (if y12=true then
     (some false)
     else
     (m_label_isValue_L1 z4 j1 n (W64 (y7+1))))) λj2=>
   if ((z10).toNat:Int)<33 then
   (j2 (decide (((z10).toNat:Int)<33)))
   else
   (if ((z10).toNat:Int)>126 then
    (j2 (decide (((z10).toNat:Int)>126)))
    else
    (if ((z10).toNat:Int)=61 then
     (j2 (decide (((z10).toNat:Int)=61)))
     else
     (if ((z10).toNat:Int)=59 then
      (j2 (decide (((z10).toNat:Int)=59)))
      else
      (j2 (decide (((z10).toNat:Int)=44)))))))
  else
  (j1 ())
def m_label_isValue (x0:(List UInt8)):Option Bool:=
 if (x0=([]:List UInt8))∨((x0.length:Int)>32) then
 (some false)
 else
 ((lenS x0).bind λz4=>
  jn (λ(_:Unit)=>
   (some true)) λj1=>
  m_label_isValue_L1 z4 j1 fuel 0)
def m_label_Check_1 (x0:T_api_Pair) (x1:T_api_Pair):Option Bool:=
 some (decide (x0.Key=x1.Key))
def m_slices_IndexFunc_api_Pair_api_Pair_s1_L1 (x0:(List T_api_Pair)) (x1_0:T_api_Pair) (j1:Unit→Option Int):Nat→Int→Option Int
 | 0,_=>none
 | n+1,y6=>
  if y6<(x0.length:Int) then
  ((idx x0 y6).bind λz9=>
   (m_label_Check_1 z9 x1_0).bind λp11=>
   if p11=true then
   (some y6)
   else
   (m_slices_IndexFunc_api_Pair_api_Pair_s1_L1 x0 x1_0 j1 n (W64 (y6+1))))
  else
  (j1 ())
def m_slices_IndexFunc_api_Pair_api_Pair_s1 (x0:(List T_api_Pair)) (x1_0:T_api_Pair):Option Int:=
 jn (λ(_:Unit)=>
  (some (-1))) λj1=>
 m_slices_IndexFunc_api_Pair_api_Pair_s1_L1 x0 x1_0 j1 fuel 0
def m_slices_ContainsFunc_api_Pair_api_Pair_s2 (x0:(List T_api_Pair)) (x1_0:T_api_Pair):Option Bool:=
 (m_slices_IndexFunc_api_Pair_api_Pair_s1 x0 x1_0).bind λp5=>
 some (decide (p5≥0))
def m_label_Check_L1 (x1:(List T_api_Pair)) (j1:Unit→Option Int):Nat→Int→Option Int
 | 0,_=>none
 | n+1,y8=>
  if y8<(x1.length:Int) then
  ((idx x1 y8).bind λz11=>
   (m_label_isName z11.Key).bind λp18=>
   jn (λ(y20:Bool)=>
    (if y20=true then
     (some 3)
     else
     ((cutL x1 0 y8).bind λz23=>
      (m_slices_ContainsFunc_api_Pair_api_Pair_s2 z23 z11).bind λp25=>
      if p25=true then
      (some 8)
      else
      (m_label_Check_L1 x1 j1 n (W64 (y8+1)))))) λj2=>
   if (!p18)=true then
   (j2 true)
   else
   ((m_label_isValue z11.Val).bind λp29=>
    j2 (!p29)))
  else
  (j1 ())
def m_label_Check (x0:(List UInt8)) (x1:(List T_api_Pair)):Option Int:=
 (m_label_isName x0).bind λp3=>
 if (!p3)=true then
 (some 3)
 else
 (if (x1.length:Int)>4 then
  (some 4)
  else
  (jn (λ(_:Unit)=>
   (some 0)) λj1=>
   m_label_Check_L1 x1 j1 fuel 0))
def m_point_kinds (x0:T_api_Point):Option Bool:=
 if x0.Kind=3 then
 (some (decide (x0.Temp=0)))
 else
 (jn (λ(y14:Bool)=>
  (if y14=true then
   (some (decide ((x0.Temp=1)∨(x0.Temp=2))))
   else
   (some false))) λj1=>
  if x0.Kind=1 then
  (j1 (decide (x0.Kind=1)))
  else
  (if x0.Kind=2 then
   (j1 (decide (x0.Kind=2)))
   else
   (if x0.Kind=4 then
    (j1 (decide (x0.Kind=4)))
    else
    (j1 (decide (x0.Kind=5))))))
def m_point_sum (x0:T_api_Point):Option Bool:=
 some (decide ((x0.Kind=1)∨(x0.Kind=2)))
def m_point_times (x0:T_api_Point):Option Bool:=
 if (x0.Start<0)∨(x0.Time>4503599627370496) then
 (some false)
 else
 (if x0.Kind=3 then
  (some (decide (x0.Start=x0.Time)))
  else
  (some (decide (x0.Start<x0.Time))))
def m_point_bare (x0:T_api_Hist):Option Bool:=
 jn (λ(y16:Bool)=>
  (some y16)) λj1=>
 if (((x0.Scale=0)∧(((x0.Zero).toNat:Int)=0))∧(x0.Pos.Offset=0))∧(x0.Neg.Offset=0) then
 (j1 (decide (W64 ((x0.Pos.Counts.length:Int)+(x0.Neg.Counts.length:Int))=0)))
 else
 (j1 false)
def m_point_own (x0:T_api_Point):Option Bool:=
 jn (λ(y19:Bool)=>
  (if y19=true then
   (some false)
   else
   (some true))) λj1=>
 if (x0.Kind≠1)∧(x0.Int_≠0) then
 (j1 (decide ((x0.Kind≠1)∧(x0.Int_≠0))))
 else
 (if (¬(((x0.Kind=2)∨(x0.Kind=3))∨(x0.Kind=5)))∧(((x0.Re).toNat:Int)≠0) then
  (j1 (decide ((¬(((x0.Kind=2)∨(x0.Kind=3))∨(x0.Kind=5)))∧(((x0.Re).toNat:Int)≠0))))
  else
  (if (x0.Kind≠5)∧(((x0.Im).toNat:Int)≠0) then
   (j1 (decide ((x0.Kind≠5)∧(((x0.Im).toNat:Int)≠0))))
   else
   (jn (λ(y29:Bool)=>
    (if y29=true then
     (j1 y29)
     else
     (j1 (decide ((x0.Flags<0)∨(x0.Flags>31)))))) λj2=>
    if x0.Kind≠4 then
    ((m_point_bare x0.Hist).bind λp35=>
     j2 (!p35))
    else
    (j2 false))))
def m_num_Finite (x0:UInt64):Option Bool:=
 some (decide (((x0&&&(9218868437227405312:UInt64)).toNat:Int)≠9218868437227405312))
def m_num_of (x0:UInt64):Option UInt64:=
 some x0
def m_num_Less (x0:UInt64) (x1:UInt64):Option Bool:=
 (m_num_of x0).bind λp1=>
 (m_num_of x1).bind λp3=>
 some (fltLt p1 p3)
def m_hist_sides (x0:T_api_Hist):Option T_arr2_api_Side:=
 some (⟨x0.Pos,x0.Neg⟩:T_arr2_api_Side)
def m_hist_check (x0:T_api_Side):Option Int:=
 if (x0.Counts.length:Int)>160 then
 (some 4)
 else
 (if ((x0.Counts.length:Int)=0)∧(x0.Offset≠0) then
  (some 3)
  else
  (if (x0.Counts.length:Int)=0 then
   (some 0)
   else
   ((idx x0.Counts 0).bind λz12=>
    jn (λ(y14:Bool)=>
     (if y14=true then
      (some 3)
      else
      (jn (λ(y17:Bool)=>
       (if y17=true then
        (some 1)
        else
        (some 0))) λj2=>
       if x0.Offset<(-1073741824) then
       (j2 true)
       else
       (j2 (decide (x0.Offset>W64 (1073741824-(W64 ((x0.Counts.length:Int)-1))))))))) λj1=>
    if ((z12).toNat:Int)=0 then
    (j1 true)
    else
    ((idx x0.Counts (W64 ((x0.Counts.length:Int)-1))).bind λz22=>
     j1 (decide (((z22).toNat:Int)=0))))))
def m_hist_Total_L2 (z23:T_api_Side) (j2:UInt64→UInt64→Option (UInt64×Bool)):Nat→UInt64→UInt64→Int→Option (UInt64×Bool)
 | 0,_,_,_=>none
 | n+1,y32,y33,y34=>
  if y34<(z23.Counts.length:Int) then
  ((idx z23.Counts y34).bind λz37=>
   m_hist_Total_L2 z23 j2 n (y32+z37) (y33|||(cry y32 z37)) (W64 (y34+1)))
  else
  (j2 y32 y33)
def m_hist_Total_L1 (p10:T_arr2_api_Side) (j1:UInt64→UInt64→Option (UInt64×Bool)):Nat→UInt64→UInt64→Int→Option (UInt64×Bool)
 | 0,_,_,_=>none
 | n+1,y18,y19,y20=>
  if y20<2 then
  ((idx ([p10.a0,p10.a1]:List T_api_Side) y20).bind λz23=>
   jn (λ(y29:UInt64) (y30:UInt64)=>
    (m_hist_Total_L1 p10 j1 n y29 y30 (W64 (y20+1)))) λj2=>
   m_hist_Total_L2 z23 j2 fuel y18 y19 0)
  else
  (j1 y18 y19)
def m_hist_Total (x0:T_api_Hist):Option (UInt64×Bool):=
 (m_hist_sides x0).bind λp10=>
 jn (λ(y14:UInt64) (y15:UInt64)=>
  (if ((y15).toNat:Int)≠0 then
   (some ((0:UInt64),false))
   else
   (some (y14,true)))) λj1=>
 m_hist_Total_L1 p10 j1 fuel x0.Zero (0:UInt64) 0
def m_hist_Check_L1 (p13:T_arr2_api_Side) (j1:Unit→Option Int):Nat→Int→Option Int
 | 0,_=>none
 | n+1,y21=>
  if y21<2 then
  ((idx ([p13.a0,p13.a1]:List T_api_Side) y21).bind λz24=>
   (m_hist_check z24).bind λp30=>
   if p30≠0 then
   (some p30)
   else
   (m_hist_Check_L1 p13 j1 n (W64 (y21+1))))
  else
  (j1 ())
def m_hist_Check (x0:T_api_Hist):Option Int:=
 if (x0.Scale<(-10))∨(x0.Scale>20) then
 (some 1)
 else
 ((m_hist_sides x0).bind λp13=>
  jn (λ(_:Unit)=>
   ((m_hist_Total x0).bind λp18=>
    if (!p18.2)=true then
    (some 4)
    else
    (some 0))) λj1=>
  m_hist_Check_L1 p13 j1 fuel 0)
def m_point_Check (x0:T_api_Point):Option Int:=
 (m_label_Check x0.Name x0.Attrs).bind λp13=>
 if p13≠0 then
 (some p13)
 else
 ((m_point_kinds x0).bind λp16=>
  if (!p16)=true then
  (some 14)
  else
  (jn (λ(y19:Bool)=>
   (jn (λ(y21:Bool)=>
    (if y21=true then
     (some 1)
     else
     ((m_point_own x0).bind λp24=>
      if (!p24)=true then
      (some 3)
      else
      (jn (λ(y29:Bool)=>
       (if y29=true then
        (some 11)
        else
        (jn (λ(y32:Bool)=>
         (if y32=true then
          (some 1)
          else
          (if x0.Kind=4 then
           ((m_hist_Check x0.Hist).bind λp36=>
            some p36)
           else
           (some 0)))) λj4=>
         if x0.Mono=true then
         (jn (λ(y39:Bool)=>
          (j4 y39)) λj5=>
          if x0.Int_<0 then
          (j5 true)
          else
          ((m_num_Less x0.Re (0:UInt64)).bind λp42=>
           j5 p42))
         else
         (j4 false)))) λj3=>
       if (x0.Mono=true)∧(x0.Kind=2) then
       ((m_num_Finite x0.Re).bind λp45=>
        j3 (!p45))
       else
       (j3 false))))) λj2=>
    if y19=true then
    (j2 y19)
    else
    ((m_point_times x0).bind λp48=>
     j2 (!p48)))) λj1=>
   if x0.Mono=true then
   ((m_point_sum x0).bind λp51=>
    j1 (!p51))
   else
   (j1 false)))
def m_slices_Clone_api_Pair_api_Pair (x0:(List T_api_Pair)):Option (List T_api_Pair):=
 appL [] x0
def m_cmp_isNaN_string (x0:(List UInt8)):Option Bool:=
 some (decide (x0≠x0))
def m_cmp_Compare_string (x0:(List UInt8)) (x1:(List UInt8)):Option Int:=
 (m_cmp_isNaN_string x0).bind λp1=>
 (m_cmp_isNaN_string x1).bind λp3=>
 if p1=true then
 (if p3=true then
  (some 0)
  else
  (some (-1)))
 else
 (if p3=true then
  (some 1)
  else
  (if (Op.bytesLess x0 x1)=true then
   (some (-1))
   else
   (if (Op.bytesLess x1 x0)=true then
    (some 1)
    else
    (some 0))))
def m_label_Sorted_1 (x0:T_api_Pair) (x1:T_api_Pair):Option Int:=
 (m_cmp_Compare_string x0.Key x1.Key).bind λp7=>
 some p7
def m_slices_insertionSortCmpFunc_api_Pair_s2_L2 (x1:Int) (j2:(List T_api_Pair)→Option (List T_api_Pair)):Nat→(List T_api_Pair)→Int→Option (List T_api_Pair)
 | 0,_,_=>none
 | n+1,y10,y11=>
  jn (λ(y13:Bool)=>
   (if y13=true then
    ((idx y10 (W64 (y11-1))).bind λz17=>
     (idx y10 y11).bind λz18=>
     (idx y10 y11).bind λz20=>
     (idx (setI y10 y11 z17) (W64 (y11-1))).bind λz22=>
     m_slices_insertionSortCmpFunc_api_Pair_s2_L2 x1 j2 n (setI (setI y10 y11 z17) (W64 (y11-1)) z18) (W64 (y11-1)))
    else
    (j2 y10))) λj3=>
  if y11>x1 then
  ((idx y10 y11).bind λz30=>
   (idx y10 (W64 (y11-1))).bind λz31=>
   (m_label_Sorted_1 z30 z31).bind λp32=>
   j3 (decide (p32<0)))
  else
  (j3 false)
def m_slices_insertionSortCmpFunc_api_Pair_s2_L1 (x1:Int) (x2:Int) (j1:(List T_api_Pair)→Option (List T_api_Pair)):Nat→(List T_api_Pair)→Int→Option (List T_api_Pair)
 | 0,_,_=>none
 | n+1,y4,y5=>
  if y5<x2 then
  (jn (λ(y8:(List T_api_Pair))=>
   (m_slices_insertionSortCmpFunc_api_Pair_s2_L1 x1 x2 j1 n y8 (W64 (y5+1)))) λj2=>
   m_slices_insertionSortCmpFunc_api_Pair_s2_L2 x1 j2 fuel y4 y5)
  else
  (j1 y4)
def m_slices_insertionSortCmpFunc_api_Pair_s2 (x0:(List T_api_Pair)) (x1:Int) (x2:Int):Option (List T_api_Pair):=
 jn (λ(y2:(List T_api_Pair))=>
  (some y2)) λj1=>
 m_slices_insertionSortCmpFunc_api_Pair_s2_L1 x1 x2 j1 fuel x0 (W64 (x1+1))
def m_slices_swapRangeCmpFunc_api_Pair_s2_L1 (x1:Int) (x2:Int) (x3:Int) (j1:(List T_api_Pair)→Option (List T_api_Pair)):Nat→(List T_api_Pair)→Int→Option (List T_api_Pair)
 | 0,_,_=>none
 | n+1,y4,y5=>
  if y5<x3 then
  ((idx y4 (W64 (x2+y5))).bind λz9=>
   (idx y4 (W64 (x1+y5))).bind λz10=>
   (idx y4 (W64 (x1+y5))).bind λz12=>
   (idx (setI y4 (W64 (x1+y5)) z9) (W64 (x2+y5))).bind λz14=>
   m_slices_swapRangeCmpFunc_api_Pair_s2_L1 x1 x2 x3 j1 n (setI (setI y4 (W64 (x1+y5)) z9) (W64 (x2+y5)) z10) (W64 (y5+1)))
  else
  (j1 y4)
def m_slices_swapRangeCmpFunc_api_Pair_s2 (x0:(List T_api_Pair)) (x1:Int) (x2:Int) (x3:Int):Option (List T_api_Pair):=
 jn (λ(y2:(List T_api_Pair))=>
  (some y2)) λj1=>
 m_slices_swapRangeCmpFunc_api_Pair_s2_L1 x1 x2 x3 j1 fuel x0 0
def m_slices_rotateCmpFunc_api_Pair_s2_L1 (x2:Int) (j1:(List T_api_Pair)→Int→Option (List T_api_Pair)):Nat→(List T_api_Pair)→Int→Int→Option (List T_api_Pair)
 | 0,_,_,_=>none
 | n+1,y9,y10,y11=>
  if y10≠y11 then
  (if y10>y11 then
   ((m_slices_swapRangeCmpFunc_api_Pair_s2 y9 (W64 (x2-y10)) x2 y11).bind λp15=>
    m_slices_rotateCmpFunc_api_Pair_s2_L1 x2 j1 n p15 (W64 (y10-y11)) y11)
   else
   ((m_slices_swapRangeCmpFunc_api_Pair_s2 y9 (W64 (x2-y10)) (W64 ((W64 (x2+y11))-y10)) y10).bind λp19=>
    m_slices_rotateCmpFunc_api_Pair_s2_L1 x2 j1 n p19 y10 (W64 (y11-y10))))
  else
  (j1 y9 y10)
def m_slices_rotateCmpFunc_api_Pair_s2 (x0:(List T_api_Pair)) (x1:Int) (x2:Int) (x3:Int):Option (List T_api_Pair):=
 jn (λ(y2:(List T_api_Pair)) (y3:Int)=>
  ((m_slices_swapRangeCmpFunc_api_Pair_s2 y2 (W64 (x2-y3)) x2 y3).bind λp5=>
   some p5)) λj1=>
 m_slices_rotateCmpFunc_api_Pair_s2_L1 x2 j1 fuel x0 (W64 (x2-x1)) (W64 (x3-x2))
def m_slices_symMergeCmpFunc_api_Pair_s2_L1 (y3:Int) (j2:(List T_api_Pair)→Option (List T_api_Pair)):Nat→(List T_api_Pair)→Int→Option (List T_api_Pair)
 | 0,_,_=>none
 | n+1,y7,y8=>
  if y8<W64 (y3-1) then
  ((idx y7 (W64 (y8+1))).bind λz12=>
   (idx y7 y8).bind λz13=>
   (idx y7 y8).bind λz15=>
   (idx (setI y7 y8 z12) (W64 (y8+1))).bind λz17=>
   m_slices_symMergeCmpFunc_api_Pair_s2_L1 y3 j2 n (setI (setI y7 y8 z12) (W64 (y8+1)) z13) (W64 (y8+1)))
  else
  (j2 y7)
def m_slices_symMergeCmpFunc_api_Pair_s2_L2 (x0:(List T_api_Pair)) (x1:Int) (j1:Int→Option (List T_api_Pair)):Nat→Int→Int→Option (List T_api_Pair)
 | 0,_,_=>none
 | n+1,y23,y24=>
  if y23<y24 then
  ((idx x0 (W64 (((toU64 (W64 (y23+y24)))>>>UInt64.ofNat 1).toNat:Int))).bind λz28=>
   (idx x0 x1).bind λz29=>
   (m_label_Sorted_1 z28 z29).bind λp30=>
   if p30<0 then
   (m_slices_symMergeCmpFunc_api_Pair_s2_L2 x0 x1 j1 n (W64 ((W64 (((toU64 (W64 (y23+y24)))>>>UInt64.ofNat 1).toNat:Int))+1)) y24)
   else
   (m_slices_symMergeCmpFunc_api_Pair_s2_L2 x0 x1 j1 n y23 (W64 (((toU64 (W64 (y23+y24)))>>>UInt64.ofNat 1).toNat:Int))))
  else
  (j1 y23)
def m_slices_symMergeCmpFunc_api_Pair_s2_L3 (y34:Int) (j4:(List T_api_Pair)→Option (List T_api_Pair)):Nat→(List T_api_Pair)→Int→Option (List T_api_Pair)
 | 0,_,_=>none
 | n+1,y38,y39=>
  if y39>y34 then
  ((idx y38 (W64 (y39-1))).bind λz43=>
   (idx y38 y39).bind λz44=>
   (idx y38 y39).bind λz46=>
   (idx (setI y38 y39 z43) (W64 (y39-1))).bind λz48=>
   m_slices_symMergeCmpFunc_api_Pair_s2_L3 y34 j4 n (setI (setI y38 y39 z43) (W64 (y39-1)) z44) (W64 (y39-1)))
  else
  (j4 y38)
def m_slices_symMergeCmpFunc_api_Pair_s2_L4 (x0:(List T_api_Pair)) (x2:Int) (j3:Int→Option (List T_api_Pair)):Nat→Int→Int→Option (List T_api_Pair)
 | 0,_,_=>none
 | n+1,y54,y55=>
  if y54<y55 then
  ((idx x0 x2).bind λz59=>
   (idx x0 (W64 (((toU64 (W64 (y54+y55)))>>>UInt64.ofNat 1).toNat:Int))).bind λz60=>
   (m_label_Sorted_1 z59 z60).bind λp61=>
   if ¬(p61<0) then
   (m_slices_symMergeCmpFunc_api_Pair_s2_L4 x0 x2 j3 n (W64 ((W64 (((toU64 (W64 (y54+y55)))>>>UInt64.ofNat 1).toNat:Int))+1)) y55)
   else
   (m_slices_symMergeCmpFunc_api_Pair_s2_L4 x0 x2 j3 n y54 (W64 (((toU64 (W64 (y54+y55)))>>>UInt64.ofNat 1).toNat:Int))))
  else
  (j3 y54)
def m_slices_symMergeCmpFunc_api_Pair_s2_L5 (x0:(List T_api_Pair)) (x1:Int) (x2:Int) (x3:Int) (j6:Int→Option (List T_api_Pair)):Nat→Int→Int→Option (List T_api_Pair)
 | 0,_,_=>none
 | n+1,y87,y88=>
  if y87<y88 then
  ((idx x0 (W64 ((W64 ((W64 ((W64 (((toU64 (W64 (x1+x3)))>>>UInt64.ofNat 1).toNat:Int))+x2))-1))-(W64 (((toU64 (W64 (y87+y88)))>>>UInt64.ofNat 1).toNat:Int))))).bind λz92=>
   (idx x0 (W64 (((toU64 (W64 (y87+y88)))>>>UInt64.ofNat 1).toNat:Int))).bind λz93=>
   (m_label_Sorted_1 z92 z93).bind λp94=>
   if ¬(p94<0) then
   (m_slices_symMergeCmpFunc_api_Pair_s2_L5 x0 x1 x2 x3 j6 n (W64 ((W64 (((toU64 (W64 (y87+y88)))>>>UInt64.ofNat 1).toNat:Int))+1)) y88)
   else
   (m_slices_symMergeCmpFunc_api_Pair_s2_L5 x0 x1 x2 x3 j6 n y87 (W64 (((toU64 (W64 (y87+y88)))>>>UInt64.ofNat 1).toNat:Int))))
  else
  (j6 y87)
def m_slices_symMergeCmpFunc_api_Pair_s2 (x0:(List T_api_Pair)) (x1:Int) (x2:Int) (x3:Int):Option (List T_api_Pair):=
 if W64 (x2-x1)=1 then
 (jn (λ(y3:Int)=>
  (jn (λ(y5:(List T_api_Pair))=>
   (some y5)) λj2=>
   m_slices_symMergeCmpFunc_api_Pair_s2_L1 y3 j2 fuel x0 x1)) λj1=>
  m_slices_symMergeCmpFunc_api_Pair_s2_L2 x0 x1 j1 fuel x2 x3)
 else
 (if W64 (x3-x2)=1 then
  (jn (λ(y34:Int)=>
   (jn (λ(y36:(List T_api_Pair))=>
    (some y36)) λj4=>
    m_slices_symMergeCmpFunc_api_Pair_s2_L3 y34 j4 fuel x0 x2)) λj3=>
   m_slices_symMergeCmpFunc_api_Pair_s2_L4 x0 x2 j3 fuel x1 x2)
  else
  (jn (λ(y64:Int) (y65:Int)=>
   (jn (λ(y67:Int)=>
    (jn (λ(y71:(List T_api_Pair))=>
     (jn (λ(_:Unit)=>
      (if (W64 (((toU64 (W64 (x1+x3)))>>>UInt64.ofNat 1).toNat:Int)<W64 ((W64 ((W64 (((toU64 (W64 (x1+x3)))>>>UInt64.ofNat 1).toNat:Int))+x2))-y67))∧(W64 ((W64 ((W64 (((toU64 (W64 (x1+x3)))>>>UInt64.ofNat 1).toNat:Int))+x2))-y67)<x3) then
       (none)
       else
       (some y71))) λj8=>
      if (x1<y67)∧(y67<W64 (((toU64 (W64 (x1+x3)))>>>UInt64.ofNat 1).toNat:Int)) then
      (none)
      else
      (j8 ()))) λj7=>
     if (y67<x2)∧(x2<W64 ((W64 ((W64 (((toU64 (W64 (x1+x3)))>>>UInt64.ofNat 1).toNat:Int))+x2))-y67)) then
     ((m_slices_rotateCmpFunc_api_Pair_s2 x0 y67 x2 (W64 ((W64 ((W64 (((toU64 (W64 (x1+x3)))>>>UInt64.ofNat 1).toNat:Int))+x2))-y67))).bind λp83=>
      j7 p83)
     else
     (j7 x0))) λj6=>
    m_slices_symMergeCmpFunc_api_Pair_s2_L5 x0 x1 x2 x3 j6 fuel y64 y65)) λj5=>
   if x2>W64 (((toU64 (W64 (x1+x3)))>>>UInt64.ofNat 1).toNat:Int) then
   (j5 (W64 ((W64 ((W64 (((toU64 (W64 (x1+x3)))>>>UInt64.ofNat 1).toNat:Int))+x2))-x3)) (W64 (((toU64 (W64 (x1+x3)))>>>UInt64.ofNat 1).toNat:Int)))
   else
   (j5 x1 x2)))
def m_slices_stableCmpFunc_api_Pair_s1_L2 (x1:Int) (y12:Int) (j3:(List T_api_Pair)→Int→Option (List T_api_Pair)):Nat→(List T_api_Pair)→Int→Int→Option (List T_api_Pair)
 | 0,_,_,_=>none
 | n+1,y25,y26,y27=>
  if y27≤x1 then
  ((m_slices_symMergeCmpFunc_api_Pair_s2 y25 y26 (W64 (y26+y12)) y27).bind λp30=>
   m_slices_stableCmpFunc_api_Pair_s1_L2 x1 y12 j3 n p30 y27 (W64 (y27+(W64 (2*y12)))))
  else
  (j3 y25 y26)
def m_slices_stableCmpFunc_api_Pair_s1_L1 (x1:Int) (j2:(List T_api_Pair)→Option (List T_api_Pair)):Nat→(List T_api_Pair)→Int→Option (List T_api_Pair)
 | 0,_,_=>none
 | n+1,y11,y12=>
  if y12<x1 then
  (jn (λ(y15:(List T_api_Pair)) (y16:Int)=>
   (jn (λ(y18:(List T_api_Pair))=>
    (m_slices_stableCmpFunc_api_Pair_s1_L1 x1 j2 n y18 (W64 (y12*2)))) λj4=>
    if W64 (y16+y12)<x1 then
    ((m_slices_symMergeCmpFunc_api_Pair_s2 y15 y16 (W64 (y16+y12)) x1).bind λp21=>
     j4 p21)
    else
    (j4 y15))) λj3=>
   m_slices_stableCmpFunc_api_Pair_s1_L2 x1 y12 j3 fuel y11 0 (W64 (2*y12)))
  else
  (j2 y11)
def m_slices_stableCmpFunc_api_Pair_s1_L3 (x1:Int) (j1:(List T_api_Pair)→Int→Option (List T_api_Pair)):Nat→(List T_api_Pair)→Int→Int→Option (List T_api_Pair)
 | 0,_,_,_=>none
 | n+1,y34,y35,y36=>
  if y36≤x1 then
  ((m_slices_insertionSortCmpFunc_api_Pair_s2 y34 y35 y36).bind λp39=>
   m_slices_stableCmpFunc_api_Pair_s1_L3 x1 j1 n p39 y36 (W64 (y36+20)))
  else
  (j1 y34 y35)
def m_slices_stableCmpFunc_api_Pair_s1 (x0:(List T_api_Pair)) (x1:Int):Option (List T_api_Pair):=
 jn (λ(y2:(List T_api_Pair)) (y3:Int)=>
  ((m_slices_insertionSortCmpFunc_api_Pair_s2 y2 y3 x1).bind λp5=>
   jn (λ(y9:(List T_api_Pair))=>
    (some y9)) λj2=>
   m_slices_stableCmpFunc_api_Pair_s1_L1 x1 j2 fuel p5 20)) λj1=>
 m_slices_stableCmpFunc_api_Pair_s1_L3 x1 j1 fuel x0 0 20
def m_slices_SortStableFunc_api_Pair_api_Pair_s1 (x0:(List T_api_Pair)):Option (List T_api_Pair):=
 (m_slices_stableCmpFunc_api_Pair_s1 x0 (x0.length:Int)).bind λp2=>
 some p2
def m_label_Sorted (x0:(List T_api_Pair)):Option (List T_api_Pair):=
 (m_slices_Clone_api_Pair_api_Pair x0).bind λp3=>
 (m_slices_SortStableFunc_api_Pair_api_Pair_s1 p3).bind λp6=>
 some p6
def m_label_Text_L1 (p13:(List T_api_Pair)) (j1:(List UInt8)→Option ((List UInt8)×Int)):Nat→Int→(List UInt8)→Option ((List UInt8)×Int)
 | 0,_,_=>none
 | n+1,y22,y23=>
  if y22<(p13.length:Int) then
  ((idx p13 y22).bind λz27=>
   (catS ([59]:List UInt8) z27.Key).bind λz31=>
   (catS z31 ([61]:List UInt8)).bind λz32=>
   (catS z32 z27.Val).bind λz33=>
   (appL y23 z33).bind λz34=>
   m_label_Text_L1 p13 j1 n (W64 (y22+1)) z34)
  else
  (j1 y23)
def m_label_Text (x0:(List UInt8)) (x1:(List T_api_Pair)):Option ((List UInt8)×Int):=
 (m_label_Check x0 x1).bind λp3=>
 if p3≠0 then
 (some (([]:List UInt8),p3))
 else
 ((appL ([]:List UInt8) x0).bind λz10=>
  (m_label_Sorted x1).bind λp13=>
  jn (λ(y16:(List UInt8))=>
   (some (y16,0))) λj1=>
  m_label_Text_L1 p13 j1 fuel 0 z10)
def m_point_bit (x0:Bool):Option Int:=
 if x0=true then
 (some 1)
 else
 (some 0)
def m_point_Key (x0:T_api_Point):Option ((List UInt8)×Int):=
 (m_point_Check x0).bind λp13=>
 if p13≠0 then
 (some (([]:List UInt8),p13))
 else
 ((m_label_Text x0.Name x0.Attrs).bind λp16=>
  (catS p16.1 ([32]:List UInt8)).bind λz19=>
  (m_point_bit x0.Mono).bind λp20=>
  (catS z19 ([toU8 (W64 (48+x0.Kind)),toU8 (W64 (48+x0.Temp)),toU8 (W64 (48+p20))]:List UInt8)).bind λz25=>
  some (z25,0))
def m_hist_span (x0:T_api_Side) (x1:UInt64):Option Int:=
 if (x0.Counts.length:Int)=0 then
 (some 0)
 else
 (some (W64 ((W64 ((shrZ (W64 ((W64 (x0.Offset+(x0.Counts.length:Int)))-1)) ((x1).toNat))-(shrZ x0.Offset ((x1).toNat))))+1)))
def m_hist_down_L1 (x0:T_api_Side) (x1:UInt64) (j2:T_api_Side→Option T_api_Side):Nat→Int→T_api_Side→Option T_api_Side
 | 0,_,_=>none
 | n+1,y24,y25=>
  if y24<(x0.Counts.length:Int) then
  ((idx x0.Counts y24).bind λz28=>
   (idx y25.Counts (W64 ((shrZ (W64 (x0.Offset+y24)) ((x1).toNat))-y25.Offset))).bind λz32=>
   (idx y25.Counts (W64 ((shrZ (W64 (x0.Offset+y24)) ((x1).toNat))-y25.Offset))).bind λz33=>
   m_hist_down_L1 x0 x1 j2 n (W64 (y24+1)) (⟨y25.Offset,(setI y25.Counts (W64 ((shrZ (W64 (x0.Offset+y24)) ((x1).toNat))-y25.Offset)) (z32+z28))⟩:T_api_Side))
  else
  (j2 y25)
def m_hist_down (x0:T_api_Side) (x1:UInt64):Option T_api_Side:=
 if (x0.Counts.length:Int)=0 then
 (some (⟨0,([]:List UInt64)⟩:T_api_Side))
 else
 (jn (λ(y15:T_api_Side)=>
  (jn (λ(y18:T_api_Side)=>
   (some y18)) λj2=>
   m_hist_down_L1 x0 x1 j2 fuel 0 y15)) λj1=>
  (m_hist_span x0 x1).bind λp42=>
  (mkL p42 ((0:UInt64):UInt64)).bind λz44=>
  j1 (⟨shrZ x0.Offset ((x1).toNat),z44⟩:T_api_Side))
def m_hist_Down (x0:T_api_Hist) (x1:Int):Option (T_api_Hist×Int):=
 (m_hist_Check x0).bind λp13=>
 if p13≠0 then
 (some ((⟨0,(0:UInt64),(⟨0,([]:List UInt64)⟩:T_api_Side),(⟨0,([]:List UInt64)⟩:T_api_Side)⟩:T_api_Hist),p13))
 else
 (jn (λ(y22:Bool)=>
  (if y22=true then
   (some ((⟨0,(0:UInt64),(⟨0,([]:List UInt64)⟩:T_api_Side),(⟨0,([]:List UInt64)⟩:T_api_Side)⟩:T_api_Hist),1))
   else
   ((m_hist_down x0.Pos (toU64 x1)).bind λp32=>
    (m_hist_down x0.Neg (toU64 x1)).bind λp35=>
    some ((⟨W64 (x0.Scale-x1),x0.Zero,p32,p35⟩:T_api_Hist),0)))) λj1=>
  if x1<0 then
  (j1 true)
  else
  (j1 (decide (x1>W64 (x0.Scale-(-10))))))
def m_hist_Fit_L1 (x0:T_api_Hist) (x1:Int) (j1:Unit→Option (T_api_Hist×Int)):Nat→Int→Option (T_api_Hist×Int)
 | 0,_=>none
 | n+1,y29=>
  if y29≤W64 (x0.Scale-(-10)) then
  ((m_hist_span x0.Pos (toU64 y29)).bind λp33=>
   (m_hist_span x0.Neg (toU64 y29)).bind λp35=>
   if max p33 p35≤x1 then
   ((m_hist_Down x0 y29).bind λp38=>
    some (p38.1,p38.2))
   else
   (m_hist_Fit_L1 x0 x1 j1 n (W64 (y29+1))))
  else
  (j1 ())
def m_hist_Fit (x0:T_api_Hist) (x1:Int):Option (T_api_Hist×Int):=
 (m_hist_Check x0).bind λp13=>
 if p13≠0 then
 (some ((⟨0,(0:UInt64),(⟨0,([]:List UInt64)⟩:T_api_Side),(⟨0,([]:List UInt64)⟩:T_api_Side)⟩:T_api_Hist),p13))
 else
 (jn (λ(_:Unit)=>
  (some ((⟨0,(0:UInt64),(⟨0,([]:List UInt64)⟩:T_api_Side),(⟨0,([]:List UInt64)⟩:T_api_Side)⟩:T_api_Hist),4))) λj1=>
  m_hist_Fit_L1 x0 x1 j1 fuel 0)
def m_table_Table_convert_kept_Get (x0:T_table_Table_convert_kept_) (x1:(List UInt8)):Option (T_convert_kept×Bool):=
 some ((((lookP x1 x0.m).getD zl136).v),(lookP x1 x0.m).isSome)
def m_table_Table_convert_kept_Room (x0:T_table_Table_convert_kept_):Option Int:=
 some (W64 (x0.most-(x0.m.length:Int)))
def m_slices_Clone_uint64_uint64 (x0:(List UInt64)):Option (List UInt64):=
 appL [] x0
def m_hist_Clone (x0:T_api_Hist):Option T_api_Hist:=
 (m_slices_Clone_uint64_uint64 x0.Pos.Counts).bind λp14=>
 (m_slices_Clone_uint64_uint64 x0.Neg.Counts).bind λp17=>
 some (⟨x0.Scale,x0.Zero,(⟨x0.Pos.Offset,p14⟩:T_api_Side),(⟨x0.Neg.Offset,p17⟩:T_api_Side)⟩:T_api_Hist)
def m_point_Clone (x0:T_api_Point):Option T_api_Point:=
 (m_slices_Clone_api_Pair_api_Pair x0.Attrs).bind λp16=>
 (m_hist_Clone x0.Hist).bind λp21=>
 some (⟨x0.Name,p16,x0.Kind,x0.Temp,x0.Mono,x0.Start,x0.Time,x0.Int_,x0.Re,x0.Im,p21,x0.Flags⟩:T_api_Point)
def m_convert_bare (x0:T_api_Point):Option T_api_Point:=
 (m_point_Clone x0).bind λp16=>
 some (⟨p16.Name,p16.Attrs,p16.Kind,p16.Temp,p16.Mono,0,0,0,(0:UInt64),(0:UInt64),(⟨0,(0:UInt64),(⟨0,([]:List UInt64)⟩:T_api_Side),(⟨0,([]:List UInt64)⟩:T_api_Side)⟩:T_api_Hist),0⟩:T_api_Point)
def m_table_Table_convert_kept_Put (x0:T_table_Table_convert_kept_) (x1:(List UInt8)) (x2:T_convert_kept):Option (Bool×T_table_Table_convert_kept_):=
 jn (λ(y37:Bool)=>
  (if y37=true then
   (some (false,x0))
   else
   (some (true,(⟨x0.most,W64 (x0.clock+1),(putP x1 (⟨x2,W64 (x0.clock+1)⟩:T_table_slot_convert_kept_) x0.m)⟩:T_table_Table_convert_kept_))))) λj1=>
 if (!((lookP x1 x0.m).isSome))=true then
 ((m_table_Table_convert_kept_Room x0).bind λp49=>
  j1 (decide (p49=0)))
 else
 (j1 false)
def m_convert_Converter_road_s2 (x0_cfg_Out:Int) (x0_cfg_Series:Int) (x0_cfg_Buckets:Int) (x0_cfg_Points:Int) (x0_cfg_Bytes:Int) (x0_cfg_Disk:Int) (x0_cfg_Window:Int) (x1:T_api_Point):Option Nat:=
 if (x1.Temp=1)∧(x0_cfg_Out=2) then
 (some 79)
 else
 (if (x1.Temp=2)∧(x0_cfg_Out=1) then
  (some 80)
  else
  (some 81))
def m_todelta_check (x0:T_api_State) (x1:T_api_Point):Option Int:=
 if (!x0.Some)=true then
 (some 0)
 else
 (if x1.Time≤x0.Time then
  (some 9)
  else
  (jn (λ(y24:Bool)=>
   (if y24=true then
    (some 10)
    else
    (some 0))) λj1=>
   if x1.Start<x0.Start then
   (j1 (decide (x1.Start<x0.Start)))
   else
   (j1 (decide ((x1.Start>x0.Start)∧(x1.Start<x0.Time))))))
def m_todelta_begins (x0:T_api_State) (x1:T_api_Point):Option Int:=
 if (!x0.Some)=true then
 (some 1)
 else
 (if x1.Start≤x0.Start then
  (some 0)
  else
  (if x1.Start>x0.Time then
   (some 10)
   else
   (some 2)))
def m_num_Odd (x0:UInt64):Option Bool:=
 some (decide (((x0 &&& ~~~(9223372036854775808:UInt64)).toNat:Int)>9218868437227405312))
def m_num_Canon (x0:UInt64):Option UInt64:=
 (m_num_Odd x0).bind λp1=>
 if p1=true then
 (some (9221120237041090561:UInt64))
 else
 (some x0)
def m_num_bits (x0:UInt64):Option UInt64:=
 (m_num_Canon x0).bind λp2=>
 some p2
def m_num_Sub (x0:UInt64) (x1:UInt64):Option UInt64:=
 (m_num_of x0).bind λp1=>
 (m_num_of x1).bind λp3=>
 (m_num_bits (fsub p1 p3)).bind λp7=>
 some p7
def m_todelta_finite_L1 (x0:(List UInt64)) (j1:Unit→Option Bool):Nat→Int→Option Bool
 | 0,_=>none
 | n+1,y4=>
  if y4<(x0.length:Int) then
  ((idx x0 y4).bind λz7=>
   (m_num_Finite z7).bind λp9=>
   if (!p9)=true then
   (some false)
   else
   (m_todelta_finite_L1 x0 j1 n (W64 (y4+1))))
  else
  (j1 ())
def m_todelta_finite (x0:(List UInt64)):Option Bool:=
 jn (λ(_:Unit)=>
  (some true)) λj1=>
 m_todelta_finite_L1 x0 j1 fuel 0
def m_num_phasor (x0:UInt64) (x1:UInt64):Option (UInt64×UInt64):=
 (m_num_of x0).bind λp1=>
 (m_num_of x1).bind λp3=>
 some (p1,p3)
def m_num_parts (x0:(UInt64×UInt64)):Option (UInt64×UInt64):=
 (m_num_bits x0.1).bind λp1=>
 (m_num_bits x0.2).bind λp3=>
 some (p1,p3)
def m_num_SubPhasor (x0:UInt64) (x1:UInt64) (x2:UInt64) (x3:UInt64):Option (UInt64×UInt64):=
 (m_num_phasor x0 x1).bind λp1=>
 (m_num_phasor x2 x3).bind λp3=>
 (m_num_parts ((fsub p1.1 p3.1),(fsub p1.2 p3.2))).bind λp7=>
 some (p7.1,p7.2)
def m_fold_Level_L1 (x0:T_api_Hist) (x1:T_api_Hist) (j1:Unit→Option (T_api_Hist×T_api_Hist×Int)):Nat→Int→Option (T_api_Hist×T_api_Hist×Int)
 | 0,_=>none
 | n+1,y69=>
  if y69<2 then
  ((idx ([x0,x1]:List T_api_Hist) y69).bind λz72=>
   (m_hist_Check z72).bind λp80=>
   if p80≠0 then
   (some ((⟨0,(0:UInt64),(⟨0,([]:List UInt64)⟩:T_api_Side),(⟨0,([]:List UInt64)⟩:T_api_Side)⟩:T_api_Hist),(⟨0,(0:UInt64),(⟨0,([]:List UInt64)⟩:T_api_Side),(⟨0,([]:List UInt64)⟩:T_api_Side)⟩:T_api_Hist),p80))
   else
   (m_fold_Level_L1 x0 x1 j1 n (W64 (y69+1))))
  else
  (j1 ())
def m_fold_Level (x0:T_api_Hist) (x1:T_api_Hist):Option (T_api_Hist×T_api_Hist×Int):=
 jn (λ(_:Unit)=>
  ((m_hist_Down x0 (W64 (x0.Scale-(min x0.Scale x1.Scale)))).bind λp26=>
   (m_hist_Down x1 (W64 (x1.Scale-(min x0.Scale x1.Scale)))).bind λp32=>
   some (p26.1,p32.1,0))) λj1=>
 m_fold_Level_L1 x0 x1 j1 fuel 0
def m_hist_At (x0:T_api_Side) (x1:Int):Option UInt64:=
 jn (λ(y7:Bool)=>
  (if y7=true then
   (some (0:UInt64))
   else
   ((idx x0.Counts (W64 (x1-x0.Offset))).bind λz10=>
    some z10))) λj1=>
 if x1<x0.Offset then
 (j1 true)
 else
 (j1 (decide ((((toU64 x1)-(toU64 x0.Offset)).toNat:Int)≥((toU64 (x0.Counts.length:Int)).toNat:Int))))
def m_hist_Trim_L1 (x0:T_api_Side) (y11:Int) (j2:Int→Option T_api_Side):Nat→Int→Option T_api_Side
 | 0,_=>none
 | n+1,y28=>
  jn (λ(y30:Bool)=>
   (if y30=true then
    (m_hist_Trim_L1 x0 y11 j2 n (W64 (y28-1)))
    else
    (j2 y28))) λj3=>
  if y28>y11 then
  ((idx x0.Counts (W64 (y28-1))).bind λz34=>
   j3 (decide (((z34).toNat:Int)=0)))
  else
  (j3 false)
def m_hist_Trim_L2 (x0:T_api_Side) (j1:Int→Option T_api_Side):Nat→Int→Option T_api_Side
 | 0,_=>none
 | n+1,y36=>
  jn (λ(y38:Bool)=>
   (if y38=true then
    (m_hist_Trim_L2 x0 j1 n (W64 (y36+1)))
    else
    (j1 y36))) λj4=>
  if y36<(x0.Counts.length:Int) then
  ((idx x0.Counts y36).bind λz42=>
   j4 (decide (((z42).toNat:Int)=0)))
  else
  (j4 false)
def m_hist_Trim (x0:T_api_Side):Option T_api_Side:=
 jn (λ(y11:Int)=>
  (jn (λ(y13:Int)=>
   (if y11=y13 then
    (some (⟨0,([]:List UInt64)⟩:T_api_Side))
    else
    ((cutL x0.Counts y11 y13).bind λz21=>
     (m_slices_Clone_uint64_uint64 z21).bind λp23=>
     some (⟨W64 (x0.Offset+y11),p23⟩:T_api_Side)))) λj2=>
   m_hist_Trim_L1 x0 y11 j2 fuel (x0.Counts.length:Int))) λj1=>
 m_hist_Trim_L2 x0 j1 fuel 0
def m_fold_left_L1 (x0:T_api_Side) (x1:T_api_Side) (j2:T_api_Side→Option (T_api_Side×Bool)):Nat→Int→T_api_Side→Option (T_api_Side×Bool)
 | 0,_,_=>none
 | n+1,y29,y30=>
  if y29<(x0.Counts.length:Int) then
  ((idx x0.Counts y29).bind λz37=>
   (m_hist_At x1 (W64 (x0.Offset+y29))).bind λp40=>
   (appL y30.Counts ([z37-p40]:List UInt64)).bind λz45=>
   m_fold_left_L1 x0 x1 j2 n (W64 (y29+1)) (⟨y30.Offset,z45⟩:T_api_Side))
  else
  (j2 y30)
def m_fold_left_L2 (x0:T_api_Side) (x1:T_api_Side) (j1:Unit→Option (T_api_Side×Bool)):Nat→Int→Option (T_api_Side×Bool)
 | 0,_=>none
 | n+1,y49=>
  if y49<(x1.Counts.length:Int) then
  ((idx x1.Counts y49).bind λz52=>
   (m_hist_At x0 (W64 (x1.Offset+y49))).bind λp54=>
   if ((z52).toNat:Int)>((p54).toNat:Int) then
   (some ((⟨0,([]:List UInt64)⟩:T_api_Side),false))
   else
   (m_fold_left_L2 x0 x1 j1 n (W64 (y49+1))))
  else
  (j1 ())
def m_fold_left (x0:T_api_Side) (x1:T_api_Side):Option (T_api_Side×Bool):=
 jn (λ(_:Unit)=>
  (jn (λ(y20:T_api_Side)=>
   ((m_hist_Trim y20).bind λp24=>
    some (p24,true))) λj2=>
   m_fold_left_L1 x0 x1 j2 fuel 0 (⟨x0.Offset,([]:List UInt64)⟩:T_api_Side))) λj1=>
 m_fold_left_L2 x0 x1 j1 fuel 0
def m_fold_Sub (x0:T_api_Hist) (x1:T_api_Hist):Option (T_api_Hist×Int):=
 (m_fold_Level x0 x1).bind λp22=>
 if p22.2.2≠0 then
 (some ((⟨0,(0:UInt64),(⟨0,([]:List UInt64)⟩:T_api_Side),(⟨0,([]:List UInt64)⟩:T_api_Side)⟩:T_api_Hist),p22.2.2))
 else
 ((m_fold_left p22.1.Pos p22.2.1.Pos).bind λp45=>
  (m_fold_left p22.1.Neg p22.2.1.Neg).bind λp51=>
  if ((((p22.2.1.Zero).toNat:Int)>((p22.1.Zero).toNat:Int))∨((!p45.2)=true))∨((!p51.2)=true) then
  (some ((⟨0,(0:UInt64),(⟨0,([]:List UInt64)⟩:T_api_Side),(⟨0,([]:List UInt64)⟩:T_api_Side)⟩:T_api_Hist),7))
  else
  (some ((⟨p22.1.Scale,p22.1.Zero-p22.2.1.Zero,p45.1,p51.1⟩:T_api_Hist),0)))
def m_todelta_less (x0:T_api_Point) (x1:T_todelta_value):Option (T_todelta_value×Int):=
 if x0.Kind=1 then
 (if (x0.Mono=true)∧(x0.Int_<x1.i) then
  (some ((⟨0,(0:UInt64),(0:UInt64),(⟨0,(0:UInt64),(⟨0,([]:List UInt64)⟩:T_api_Side),(⟨0,([]:List UInt64)⟩:T_api_Side)⟩:T_api_Hist)⟩:T_todelta_value),4))
  else
  (if decide (W64 (x0.Int_-x1.i)<x0.Int_)≠decide (x1.i>0) then
   (some ((⟨0,(0:UInt64),(0:UInt64),(⟨0,(0:UInt64),(⟨0,([]:List UInt64)⟩:T_api_Side),(⟨0,([]:List UInt64)⟩:T_api_Side)⟩:T_api_Hist)⟩:T_todelta_value),16))
   else
   (some ((⟨W64 (x0.Int_-x1.i),(0:UInt64),(0:UInt64),(⟨0,(0:UInt64),(⟨0,([]:List UInt64)⟩:T_api_Side),(⟨0,([]:List UInt64)⟩:T_api_Side)⟩:T_api_Hist)⟩:T_todelta_value),0))))
 else
 (if x0.Kind=2 then
  ((m_num_Sub x0.Re x1.re).bind λp49=>
   jn (λ(y51:Bool)=>
    (if y51=true then
     (some ((⟨0,(0:UInt64),(0:UInt64),(⟨0,(0:UInt64),(⟨0,([]:List UInt64)⟩:T_api_Side),(⟨0,([]:List UInt64)⟩:T_api_Side)⟩:T_api_Hist)⟩:T_todelta_value),4))
     else
     ((m_todelta_finite ([p49]:List UInt64)).bind λp63=>
      jn (λ(y65:Bool)=>
       (if y65=true then
        (some ((⟨0,(0:UInt64),(0:UInt64),(⟨0,(0:UInt64),(⟨0,([]:List UInt64)⟩:T_api_Side),(⟨0,([]:List UInt64)⟩:T_api_Side)⟩:T_api_Hist)⟩:T_todelta_value),16))
        else
        (some ((⟨0,p49,(0:UInt64),(⟨0,(0:UInt64),(⟨0,([]:List UInt64)⟩:T_api_Side),(⟨0,([]:List UInt64)⟩:T_api_Side)⟩:T_api_Hist)⟩:T_todelta_value),0)))) λj2=>
      if (!p63)=true then
      ((m_todelta_finite ([x0.Re,x1.re]:List UInt64)).bind λp84=>
       j2 p84)
      else
      (j2 false)))) λj1=>
   if x0.Mono=true then
   ((m_num_Less x0.Re x1.re).bind λp87=>
    j1 p87)
   else
   (j1 false))
  else
  (if x0.Kind=5 then
   ((m_num_SubPhasor x0.Re x0.Im x1.re x1.im).bind λp90=>
    (m_todelta_finite ([p90.1,p90.2]:List UInt64)).bind λp95=>
    jn (λ(y97:Bool)=>
     (if y97=true then
      (some ((⟨0,(0:UInt64),(0:UInt64),(⟨0,(0:UInt64),(⟨0,([]:List UInt64)⟩:T_api_Side),(⟨0,([]:List UInt64)⟩:T_api_Side)⟩:T_api_Hist)⟩:T_todelta_value),16))
      else
      (some ((⟨0,p90.1,p90.2,(⟨0,(0:UInt64),(⟨0,([]:List UInt64)⟩:T_api_Side),(⟨0,([]:List UInt64)⟩:T_api_Side)⟩:T_api_Hist)⟩:T_todelta_value),0)))) λj3=>
    if (!p95)=true then
    ((m_todelta_finite ([x0.Re,x0.Im,x1.re,x1.im]:List UInt64)).bind λp116=>
     j3 p116)
    else
    (j3 false))
   else
   ((m_fold_Sub x0.Hist x1.h).bind λp118=>
    if p118.2≠0 then
    (some ((⟨0,(0:UInt64),(0:UInt64),(⟨0,(0:UInt64),(⟨0,([]:List UInt64)⟩:T_api_Side),(⟨0,([]:List UInt64)⟩:T_api_Side)⟩:T_api_Hist)⟩:T_todelta_value),4))
    else
    (some ((⟨0,(0:UInt64),(0:UInt64),p118.1⟩:T_todelta_value),0)))))
def m_todelta_Next (x0:T_api_State) (x1:T_api_Point) (x2:Int):Option (T_api_State×T_api_Point×Int):=
 (m_point_Check x1).bind λp28=>
 jn (λ(y30:Int) (y31:T_api_Point)=>
  (jn (λ(y39:Int)=>
   (if y39≠0 then
    (some ((⟨false,0,0,0,(0:UInt64),(0:UInt64),(⟨0,(0:UInt64),(⟨0,([]:List UInt64)⟩:T_api_Side),(⟨0,([]:List UInt64)⟩:T_api_Side)⟩:T_api_Hist)⟩:T_api_State),(⟨([]:List UInt8),([]:List T_api_Pair),0,0,false,0,0,0,(0:UInt64),(0:UInt64),(⟨0,(0:UInt64),(⟨0,([]:List UInt64)⟩:T_api_Side),(⟨0,([]:List UInt64)⟩:T_api_Side)⟩:T_api_Hist),0⟩:T_api_Point),y39))
    else
    ((m_point_Clone y31).bind λp66=>
     jn (λ(y76:T_api_State)=>
      ((m_todelta_begins x0 y31).bind λp79=>
       if p79≠0 then
       (some (y76,(⟨p66.Name,p66.Attrs,p66.Kind,2,p66.Mono,p66.Start,p66.Time,p66.Int_,p66.Re,p66.Im,p66.Hist,p79⟩:T_api_Point),0))
       else
       ((m_todelta_less y31 (⟨x0.Int_,x0.Re,x0.Im,x0.Hist⟩:T_todelta_value)).bind λp112=>
        jn (λ(y127:T_api_State) (y128:T_api_Point)=>
         (some (y127,y128,0))) λj4=>
        if p112.2=0 then
        (if y31.Kind=4 then
         ((m_fold_Level y31.Hist x0.Hist).bind λp184=>
          j4 (⟨y76.Some,y76.Start,y76.Time,y76.Int_,y76.Re,y76.Im,p184.1⟩:T_api_State) (⟨p66.Name,p66.Attrs,p66.Kind,2,p66.Mono,x0.Time,p66.Time,p112.1.i,p112.1.re,p112.1.im,p112.1.h,p112.2⟩:T_api_Point))
         else
         (j4 y76 (⟨p66.Name,p66.Attrs,p66.Kind,2,p66.Mono,x0.Time,p66.Time,p112.1.i,p112.1.re,p112.1.im,p112.1.h,p112.2⟩:T_api_Point)))
        else
        (j4 y76 (⟨p66.Name,p66.Attrs,p66.Kind,2,p66.Mono,x0.Time,p66.Time,p66.Int_,p66.Re,p66.Im,p66.Hist,p112.2⟩:T_api_Point))))) λj3=>
     (m_hist_Clone y31.Hist).bind λp218=>
     j3 (⟨true,y31.Start,y31.Time,y31.Int_,y31.Re,y31.Im,p218⟩:T_api_State)))) λj2=>
   if y30=0 then
   ((m_todelta_check x0 y31).bind λp266=>
    j2 p266)
   else
   (j2 y30))) λj1=>
 if p28≠0 then
 (j1 p28 x1)
 else
 (if x1.Temp≠1 then
  (j1 14 x1)
  else
  (if x1.Flags≠0 then
   (j1 3 x1)
   else
   (if x1.Kind=4 then
    ((m_hist_Fit x1.Hist x2).bind λp290=>
     j1 p290.2 (⟨x1.Name,x1.Attrs,x1.Kind,x1.Temp,x1.Mono,x1.Start,x1.Time,x1.Int_,x1.Re,x1.Im,p290.1,x1.Flags⟩:T_api_Point))
    else
    (j1 p28 x1))))
def m_tocum_check (x0:T_api_State) (x1:T_api_Point):Option Int:=
 jn (λ(_:Unit)=>
  (some 0)) λj1=>
 if (!x0.Some)=true then
 (j1 ())
 else
 (if x1.Time≤x0.Time then
  (some 9)
  else
  (if x1.Start<x0.Time then
   (some 10)
   else
   (j1 ())))
def m_fold_ends (x0:T_api_Side):Option (Int×Int):=
 some (x0.Offset,W64 (x0.Offset+(x0.Counts.length:Int)))
def m_fold_cover (x0:T_api_Side) (x1:T_api_Side):Option (Int×Int):=
 if (x0.Counts.length:Int)=0 then
 (some (x1.Offset,(x1.Counts.length:Int)))
 else
 (if (x1.Counts.length:Int)=0 then
  (some (x0.Offset,(x0.Counts.length:Int)))
  else
  ((m_fold_ends x0).bind λp17=>
   (m_fold_ends x1).bind λp19=>
   some (min p17.1 p19.1,W64 ((max p17.2 p19.2)-(min p17.1 p19.1)))))
def m_fold_Merge_L1 (p22:(T_api_Hist×T_api_Hist×Int)) (p106:(Int×Int)) (y120:T_api_Hist) (j5:T_api_Hist→Option (T_api_Hist×Int)):Nat→Int→T_api_Hist→Option (T_api_Hist×Int)
 | 0,_,_=>none
 | n+1,y132,y133=>
  if y132<(y120.Neg.Counts.length:Int) then
  ((m_hist_At p22.1.Neg (W64 (p106.1+y132))).bind λp141=>
   (m_hist_At p22.2.1.Neg (W64 (p106.1+y132))).bind λp143=>
   (idx y133.Neg.Counts y132).bind λz145=>
   m_fold_Merge_L1 p22 p106 y120 j5 n (W64 (y132+1)) (⟨y133.Scale,y133.Zero,y133.Pos,(⟨y133.Neg.Offset,(setI y133.Neg.Counts y132 (p141+p143))⟩:T_api_Side)⟩:T_api_Hist))
  else
  (j5 y133)
def m_fold_Merge_L2 (p22:(T_api_Hist×T_api_Hist×Int)) (p186:(Int×Int)) (y204:T_api_Hist) (j7:T_api_Hist→Option (T_api_Hist×Int)):Nat→Int→T_api_Hist→Option (T_api_Hist×Int)
 | 0,_,_=>none
 | n+1,y216,y217=>
  if y216<(y204.Pos.Counts.length:Int) then
  ((m_hist_At p22.1.Pos (W64 (p186.1+y216))).bind λp225=>
   (m_hist_At p22.2.1.Pos (W64 (p186.1+y216))).bind λp227=>
   (idx y217.Pos.Counts y216).bind λz229=>
   m_fold_Merge_L2 p22 p186 y204 j7 n (W64 (y216+1)) (⟨y217.Scale,y217.Zero,(⟨y217.Pos.Offset,(setI y217.Pos.Counts y216 (p225+p227))⟩:T_api_Side),y217.Neg⟩:T_api_Hist))
  else
  (j7 y217)
def m_fold_Merge (x0:T_api_Hist) (x1:T_api_Hist):Option (T_api_Hist×Int):=
 (m_fold_Level x0 x1).bind λp22=>
 if p22.2.2≠0 then
 (some ((⟨0,(0:UInt64),(⟨0,([]:List UInt64)⟩:T_api_Side),(⟨0,([]:List UInt64)⟩:T_api_Side)⟩:T_api_Hist),p22.2.2))
 else
 ((m_hist_Total p22.1).bind λp49=>
  (m_hist_Total p22.2.1).bind λp51=>
  if ((cry p49.1 p51.1).toNat:Int)≠0 then
  (some ((⟨0,(0:UInt64),(⟨0,([]:List UInt64)⟩:T_api_Side),(⟨0,([]:List UInt64)⟩:T_api_Side)⟩:T_api_Hist),4))
  else
  (jn (λ(y79:T_api_Hist)=>
   (some (y79,0))) λj1=>
   jn (λ(y91:T_api_Hist)=>
    (jn (λ(y97:T_api_Hist)=>
     (j1 y97)) λj3=>
     (m_fold_cover p22.1.Neg p22.2.1.Neg).bind λp106=>
     if p106.2>160 then
     (some ((⟨0,(0:UInt64),(⟨0,([]:List UInt64)⟩:T_api_Side),(⟨0,([]:List UInt64)⟩:T_api_Side)⟩:T_api_Hist),1))
     else
     (if p106.2=0 then
      (j3 y91)
      else
      (jn (λ(y120:T_api_Hist)=>
       (jn (λ(y126:T_api_Hist)=>
        (j3 y126)) λj5=>
        m_fold_Merge_L1 p22 p106 y120 j5 fuel 0 y120)) λj4=>
       (mkL p106.2 ((0:UInt64):UInt64)).bind λz159=>
       j4 (⟨y91.Scale,y91.Zero,y91.Pos,(⟨p106.1,z159⟩:T_api_Side)⟩:T_api_Hist))))) λj2=>
   (m_fold_cover p22.1.Pos p22.2.1.Pos).bind λp186=>
   if p186.2>160 then
   (some ((⟨0,(0:UInt64),(⟨0,([]:List UInt64)⟩:T_api_Side),(⟨0,([]:List UInt64)⟩:T_api_Side)⟩:T_api_Hist),1))
   else
   (if p186.2=0 then
    (j2 (⟨p22.1.Scale,p22.1.Zero+p22.2.1.Zero,(⟨0,([]:List UInt64)⟩:T_api_Side),(⟨0,([]:List UInt64)⟩:T_api_Side)⟩:T_api_Hist))
    else
    (jn (λ(y204:T_api_Hist)=>
     (jn (λ(y210:T_api_Hist)=>
      (j2 y210)) λj7=>
      m_fold_Merge_L2 p22 p186 y204 j7 fuel 0 y204)) λj6=>
     (mkL p186.2 ((0:UInt64):UInt64)).bind λz243=>
     j6 (⟨p22.1.Scale,p22.1.Zero+p22.2.1.Zero,(⟨p186.1,z243⟩:T_api_Side),(⟨0,([]:List UInt64)⟩:T_api_Side)⟩:T_api_Hist)))))
def m_tocum_Together_L1 (x2:Int):Nat→T_api_Hist→T_api_Hist→Option (T_api_Hist×Bool)
 | 0,_,_=>none
 | n+1,y49,y54=>
  (m_fold_Merge y49 y54).bind λp60=>
  if p60.2=4 then
  (some ((⟨0,(0:UInt64),(⟨0,([]:List UInt64)⟩:T_api_Side),(⟨0,([]:List UInt64)⟩:T_api_Side)⟩:T_api_Hist),false))
  else
  (jn (λ(y86:Bool)=>
   (if y86=true then
    (some (p60.1,true))
    else
    (if y49.Scale=(-10) then
     (some ((⟨0,(0:UInt64),(⟨0,([]:List UInt64)⟩:T_api_Side),(⟨0,([]:List UInt64)⟩:T_api_Side)⟩:T_api_Hist),false))
     else
     ((m_hist_Down y49 1).bind λp102=>
      (m_hist_Down y54 1).bind λp108=>
      m_tocum_Together_L1 x2 n p102.1 p108.1)))) λj1=>
   if p60.2=0 then
   (j1 (decide (max (p60.1.Pos.Counts.length:Int) (p60.1.Neg.Counts.length:Int)≤x2)))
   else
   (j1 false))
def m_tocum_Together (x0:T_api_Hist) (x1:T_api_Hist) (x2:Int):Option (T_api_Hist×Bool):=
 (m_fold_Level x0 x1).bind λp22=>
 if p22.2.2≠0 then
 (some ((⟨0,(0:UInt64),(⟨0,([]:List UInt64)⟩:T_api_Side),(⟨0,([]:List UInt64)⟩:T_api_Side)⟩:T_api_Hist),false))
 else
 (m_tocum_Together_L1 x2 fuel p22.1 p22.2.1)
def m_num_AddPhasor (x0:UInt64) (x1:UInt64) (x2:UInt64) (x3:UInt64):Option (UInt64×UInt64):=
 (m_num_phasor x0 x1).bind λp1=>
 (m_num_phasor x2 x3).bind λp3=>
 (m_num_parts ((fadd p1.1 p3.1),(fadd p1.2 p3.2))).bind λp7=>
 some (p7.1,p7.2)
def m_tocum_finite_L1 (x0:(List UInt64)) (j1:Unit→Option Bool):Nat→Int→Option Bool
 | 0,_=>none
 | n+1,y4=>
  if y4<(x0.length:Int) then
  ((idx x0 y4).bind λz7=>
   (m_num_Finite z7).bind λp9=>
   if (!p9)=true then
   (some false)
   else
   (m_tocum_finite_L1 x0 j1 n (W64 (y4+1))))
  else
  (j1 ())
def m_tocum_finite (x0:(List UInt64)):Option Bool:=
 jn (λ(_:Unit)=>
  (some true)) λj1=>
 m_tocum_finite_L1 x0 j1 fuel 0
def m_tocum_answer (x0:T_api_State) (x1:T_api_Point) (x2:Int):Option T_api_Point:=
 (m_point_Clone x1).bind λp25=>
 jn (λ(y57:T_api_Point)=>
  (some y57)) λj1=>
 if x1.Kind=1 then
 (j1 (⟨p25.Name,p25.Attrs,p25.Kind,1,p25.Mono,x0.Start,p25.Time,x0.Int_,(0:UInt64),(0:UInt64),(⟨0,(0:UInt64),(⟨0,([]:List UInt64)⟩:T_api_Side),(⟨0,([]:List UInt64)⟩:T_api_Side)⟩:T_api_Hist),x2⟩:T_api_Point))
 else
 (if x1.Kind=2 then
  (j1 (⟨p25.Name,p25.Attrs,p25.Kind,1,p25.Mono,x0.Start,p25.Time,0,x0.Re,(0:UInt64),(⟨0,(0:UInt64),(⟨0,([]:List UInt64)⟩:T_api_Side),(⟨0,([]:List UInt64)⟩:T_api_Side)⟩:T_api_Hist),x2⟩:T_api_Point))
  else
  (if x1.Kind=5 then
   (j1 (⟨p25.Name,p25.Attrs,p25.Kind,1,p25.Mono,x0.Start,p25.Time,0,x0.Re,x0.Im,(⟨0,(0:UInt64),(⟨0,([]:List UInt64)⟩:T_api_Side),(⟨0,([]:List UInt64)⟩:T_api_Side)⟩:T_api_Hist),x2⟩:T_api_Point))
   else
   ((m_hist_Clone x0.Hist).bind λp100=>
    j1 (⟨p25.Name,p25.Attrs,p25.Kind,1,p25.Mono,x0.Start,p25.Time,0,(0:UInt64),(0:UInt64),p100,x2⟩:T_api_Point))))
def m_tocum_Next (x0:T_api_State) (x1:T_api_Point) (x2:Int):Option (T_api_State×T_api_Point×Int):=
 (m_point_Check x1).bind λp28=>
 jn (λ(y30:Int) (y31:T_api_Point)=>
  (jn (λ(y39:Int)=>
   (if y39≠0 then
    (some ((⟨false,0,0,0,(0:UInt64),(0:UInt64),(⟨0,(0:UInt64),(⟨0,([]:List UInt64)⟩:T_api_Side),(⟨0,([]:List UInt64)⟩:T_api_Side)⟩:T_api_Hist)⟩:T_api_State),(⟨([]:List UInt8),([]:List T_api_Pair),0,0,false,0,0,0,(0:UInt64),(0:UInt64),(⟨0,(0:UInt64),(⟨0,([]:List UInt64)⟩:T_api_Side),(⟨0,([]:List UInt64)⟩:T_api_Side)⟩:T_api_Hist),0⟩:T_api_Point),y39))
    else
    (jn (λ(y87:Int) (y88:T_api_State)=>
     (jn (λ(y94:T_api_State)=>
      ((m_hist_Clone y94.Hist).bind λp100=>
       (m_tocum_answer (⟨y94.Some,y94.Start,y94.Time,y94.Int_,y94.Re,y94.Im,p100⟩:T_api_State) y31 y87).bind λp111=>
       some ((⟨y94.Some,y94.Start,y94.Time,y94.Int_,y94.Re,y94.Im,p100⟩:T_api_State),p111,0))) λj4=>
      if y87≠0 then
      (j4 (⟨true,y31.Start,y31.Time,y31.Int_,y31.Re,y31.Im,y31.Hist⟩:T_api_State))
      else
      (j4 y88))) λj3=>
     if (!x0.Some)=true then
     (j3 1 (⟨true,x0.Start,y31.Time,x0.Int_,x0.Re,x0.Im,x0.Hist⟩:T_api_State))
     else
     (if y31.Start>x0.Time then
      (j3 8 (⟨true,x0.Start,y31.Time,x0.Int_,x0.Re,x0.Im,x0.Hist⟩:T_api_State))
      else
      (jn (λ(y147:Bool) (y148:T_api_State)=>
       (if (!y147)=true then
        (j3 16 y148)
        else
        (j3 0 y148))) λj5=>
       jn (λ(y157:T_api_State)=>
        (j5 true y157)) λj6=>
       if y31.Kind=1 then
       (jn (λ(y165:Bool)=>
        (if y165=true then
         (j5 false (⟨true,x0.Start,y31.Time,x0.Int_,x0.Re,x0.Im,x0.Hist⟩:T_api_State))
         else
         (j6 (⟨true,x0.Start,y31.Time,W64 (x0.Int_+y31.Int_),x0.Re,x0.Im,x0.Hist⟩:T_api_State)))) λj7=>
        if decide (W64 (x0.Int_+y31.Int_)>x0.Int_)≠decide (y31.Int_>0) then
        (j7 (decide (y31.Int_≠0)))
        else
        (j7 false))
       else
       (if y31.Kind=4 then
        (jn (λ(y181:T_api_Hist) (y183:Bool)=>
         (if (!y183)=true then
          (j5 false (⟨true,x0.Start,y31.Time,x0.Int_,x0.Re,x0.Im,x0.Hist⟩:T_api_State))
          else
          (j6 (⟨true,x0.Start,y31.Time,x0.Int_,x0.Re,x0.Im,y181⟩:T_api_State)))) λj8=>
         (m_tocum_Together x0.Hist y31.Hist x2).bind λp196=>
         j8 p196.1 p196.2)
        else
        ((m_num_AddPhasor x0.Re x0.Im y31.Re y31.Im).bind λp236=>
         jn (λ(y238:Bool)=>
          (if y238=true then
           (j5 false (⟨true,x0.Start,y31.Time,x0.Int_,x0.Re,x0.Im,x0.Hist⟩:T_api_State))
           else
           (j6 (⟨true,x0.Start,y31.Time,x0.Int_,p236.1,p236.2,x0.Hist⟩:T_api_State)))) λj9=>
         (m_tocum_finite ([p236.1,p236.2]:List UInt64)).bind λp257=>
         if (!p257)=true then
         ((m_tocum_finite ([x0.Re,x0.Im,y31.Re,y31.Im]:List UInt64)).bind λp263=>
          j9 p263)
         else
         (j9 false)))))))) λj2=>
   if y30=0 then
   ((m_tocum_check x0 y31).bind λp267=>
    j2 p267)
   else
   (j2 y30))) λj1=>
 if p28≠0 then
 (j1 p28 x1)
 else
 (if x1.Temp≠2 then
  (j1 14 x1)
  else
  (if x1.Flags≠0 then
   (j1 3 x1)
   else
   (if x1.Kind=4 then
    ((m_hist_Fit x1.Hist x2).bind λp291=>
     j1 p291.2 (⟨x1.Name,x1.Attrs,x1.Kind,x1.Temp,x1.Mono,x1.Start,x1.Time,x1.Int_,x1.Re,x1.Im,p291.1,x1.Flags⟩:T_api_Point))
    else
    (j1 p28 x1))))
def m_convert_pass (x0:T_api_State) (x1:T_api_Point) (x2:Int):Option (T_api_State×T_api_Point×Int):=
 (m_point_Clone x1).bind λp28=>
 jn (λ(y36:T_api_Point)=>
  (some ((⟨true,x1.Start,x1.Time,0,(0:UInt64),(0:UInt64),(⟨0,(0:UInt64),(⟨0,([]:List UInt64)⟩:T_api_Side),(⟨0,([]:List UInt64)⟩:T_api_Side)⟩:T_api_Hist)⟩:T_api_State),y36,0))) λj1=>
 if (!x0.Some)=true then
 (j1 (⟨p28.Name,p28.Attrs,p28.Kind,p28.Temp,p28.Mono,p28.Start,p28.Time,p28.Int_,p28.Re,p28.Im,p28.Hist,1⟩:T_api_Point))
 else
 (if x1.Time≤x0.Time then
  (some ((⟨false,0,0,0,(0:UInt64),(0:UInt64),(⟨0,(0:UInt64),(⟨0,([]:List UInt64)⟩:T_api_Side),(⟨0,([]:List UInt64)⟩:T_api_Side)⟩:T_api_Hist)⟩:T_api_State),(⟨([]:List UInt8),([]:List T_api_Pair),0,0,false,0,0,0,(0:UInt64),(0:UInt64),(⟨0,(0:UInt64),(⟨0,([]:List UInt64)⟩:T_api_Side),(⟨0,([]:List UInt64)⟩:T_api_Side)⟩:T_api_Hist),0⟩:T_api_Point),9))
  else
  (if (x1.Temp=2)∧(x1.Start<x0.Time) then
   (some ((⟨false,0,0,0,(0:UInt64),(0:UInt64),(⟨0,(0:UInt64),(⟨0,([]:List UInt64)⟩:T_api_Side),(⟨0,([]:List UInt64)⟩:T_api_Side)⟩:T_api_Hist)⟩:T_api_State),(⟨([]:List UInt8),([]:List T_api_Pair),0,0,false,0,0,0,(0:UInt64),(0:UInt64),(⟨0,(0:UInt64),(⟨0,([]:List UInt64)⟩:T_api_Side),(⟨0,([]:List UInt64)⟩:T_api_Side)⟩:T_api_Hist),0⟩:T_api_Point),10))
   else
   (if (x1.Temp=2)∧(x1.Start>x0.Time) then
    (j1 (⟨p28.Name,p28.Attrs,p28.Kind,p28.Temp,p28.Mono,p28.Start,p28.Time,p28.Int_,p28.Re,p28.Im,p28.Hist,8⟩:T_api_Point))
    else
    (j1 p28))))
def m_fc_1 (fnum:Nat) (x0:T_api_State) (x1:T_api_Point) (x2:Int):Option (T_api_State×T_api_Point×Int):=
 if fnum=79 then m_todelta_Next x0 x1 x2 else if fnum=80 then m_tocum_Next x0 x1 x2 else if fnum=81 then m_convert_pass x0 x1 x2 else none
def m_convert_Converter_Take (x0:T_convert_Converter) (x1:T_api_Point):Option (T_api_Point×Int×T_convert_Converter):=
 (m_point_Key x1).bind λp16=>
 jn (λ(y21:Int)=>
  (jn (λ(y26:Int) (y27:T_api_Point)=>
   (if y26≠0 then
    (some ((⟨([]:List UInt8),([]:List T_api_Pair),0,0,false,0,0,0,(0:UInt64),(0:UInt64),(⟨0,(0:UInt64),(⟨0,([]:List UInt64)⟩:T_api_Side),(⟨0,([]:List UInt64)⟩:T_api_Side)⟩:T_api_Hist),0⟩:T_api_Point),y26,x0))
    else
    ((m_table_Table_convert_kept_Get x0.states p16.1).bind λp52=>
     jn (λ(y67:Bool)=>
      (if y67=true then
       (some ((⟨([]:List UInt8),([]:List T_api_Pair),0,0,false,0,0,0,(0:UInt64),(0:UInt64),(⟨0,(0:UInt64),(⟨0,([]:List UInt64)⟩:T_api_Side),(⟨0,([]:List UInt64)⟩:T_api_Side)⟩:T_api_Hist),0⟩:T_api_Point),6,x0))
       else
       (jn (λ(y85:Int) (y86:T_api_State) (y88:T_api_Point)=>
        (if y85≠0 then
         (some ((⟨([]:List UInt8),([]:List T_api_Pair),0,0,false,0,0,0,(0:UInt64),(0:UInt64),(⟨0,(0:UInt64),(⟨0,([]:List UInt64)⟩:T_api_Side),(⟨0,([]:List UInt64)⟩:T_api_Side)⟩:T_api_Hist),0⟩:T_api_Point),y85,x0))
         else
         ((m_convert_bare y27).bind λp124=>
          (m_table_Table_convert_kept_Put x0.states p16.1 (⟨y86,p124⟩:T_convert_kept)).bind λp129=>
          some (y88,0,(⟨x0.cfg,p129.2⟩:T_convert_Converter))))) λj4=>
        (m_convert_Converter_road_s2 x0.cfg.Out x0.cfg.Series x0.cfg.Buckets x0.cfg.Points x0.cfg.Bytes x0.cfg.Disk x0.cfg.Window y27).bind λp154=>
        (m_fc_1 p154 p52.1.State y27 x0.cfg.Buckets).bind λp160=>
        j4 p160.2.2 p160.1 p160.2.1))) λj3=>
     if (!p52.2)=true then
     ((m_table_Table_convert_kept_Room x0.states).bind λp581=>
      j3 (decide (p581=0)))
     else
     (j3 false)))) λj2=>
   if (y21=0)∧(x1.Kind=4) then
   ((m_hist_Fit x1.Hist x0.cfg.Buckets).bind λp590=>
    j2 p590.2 (⟨x1.Name,x1.Attrs,x1.Kind,x1.Temp,x1.Mono,x1.Start,x1.Time,x1.Int_,x1.Re,x1.Im,p590.1,x1.Flags⟩:T_api_Point))
   else
   (j2 y21 x1))) λj1=>
 if (p16.2=0)∧(x1.Flags≠0) then
 (j1 3)
 else
 (j1 p16.2)
def m_table_Table_convert_kept_Len (x0:T_table_Table_convert_kept_):Option Int:=
 some (x0.m.length:Int)
def m_convert_Converter_Len (x0:T_convert_Converter):Option Int:=
 (m_table_Table_convert_kept_Len x0.states).bind λp6=>
 some p6
def m_limnographlaw17_awake  : Option Bool:=
 (m_convert_New (⟨2,1,4,0,0,0,0⟩:T_api_Config)).bind λp1=>
 jn (λ(y5:Bool)=>
  (if y5=true then
   (some false)
   else
   ((p1).bind λz12=>
    (m_convert_Converter_Take z12 (⟨([120]:List UInt8),[],3,0,false,10,10,0,(0:UInt64),(0:UInt64),(⟨0,(0:UInt64),(⟨0,[]⟩:T_api_Side),(⟨0,[]⟩:T_api_Side)⟩:T_api_Hist),0⟩:T_api_Point)).bind λp11=>
    (m_convert_Converter_Take p11.2.2 (⟨([120]:List UInt8),[],3,0,false,10,10,0,(0:UInt64),(0:UInt64),(⟨0,(0:UInt64),(⟨0,[]⟩:T_api_Side),(⟨0,[]⟩:T_api_Side)⟩:T_api_Hist),0⟩:T_api_Point)).bind λp25=>
    (m_convert_Converter_Take p25.2.2 (⟨([121]:List UInt8),[],3,0,false,10,10,0,(0:UInt64),(0:UInt64),(⟨0,(0:UInt64),(⟨0,[]⟩:T_api_Side),(⟨0,[]⟩:T_api_Side)⟩:T_api_Hist),0⟩:T_api_Point)).bind λp39=>
    jn (λ(y58:Bool)=>
     (some y58)) λj2=>
    if (((p11.2.1=0)∧(p11.1.Flags=1))∧(p25.2.1=9))∧(p39.2.1=6) then
    ((m_convert_Converter_Len p39.2.2).bind λp61=>
     j2 (decide (p61=1)))
    else
    (j2 false)))) λj1=>
 if ((p1).isNone)=true then
 (j1 true)
 else
 ((m_convert_New (⟨0,0,0,0,0,0,0⟩:T_api_Config)).bind λp64=>
  j1 (!((p64).isNone)))
def m_limnographref11_Light_L1 (x0:(List T_api_Pair)) (j1:Unit→Option Bool):Nat→Int→Option Bool
 | 0,_=>none
 | n+1,y5=>
  if y5<(x0.length:Int) then
  ((idx x0 y5).bind λz8=>
   jn (λ(y10:Bool)=>
    (if y10=true then
     (some false)
     else
     (m_limnographref11_Light_L1 x0 j1 n (W64 (y5+1))))) λj2=>
   if (z8.Key.length:Int)>100 then
   (j2 true)
   else
   ((idx x0 y5).bind λz14=>
    j2 (decide ((z14.Val.length:Int)>100))))
  else
  (j1 ())
def m_limnographref11_Light (x0:(List T_api_Pair)):Option Bool:=
 if (x0.length:Int)>20 then
 (some false)
 else
 (jn (λ(_:Unit)=>
  (some true)) λj1=>
  m_limnographref11_Light_L1 x0 j1 fuel 0)
def m_limnographref08_Light (x0:T_api_Hist):Option Bool:=
 some (decide (((x0.Pos.Counts.length:Int)≤300)∧((x0.Neg.Counts.length:Int)≤300)))
def m_limnographref12_Light (x0:T_api_Point):Option Bool:=
 jn (λ(y13:Bool)=>
  (jn (λ(y15:Bool)=>
   (some y15)) λj2=>
   if y13=true then
   ((m_limnographref08_Light x0.Hist).bind λp18=>
    j2 p18)
   else
   (j2 false))) λj1=>
 if (x0.Name.length:Int)≤100 then
 ((m_limnographref11_Light x0.Attrs).bind λp21=>
  j1 p21)
 else
 (j1 false)
def m_limnographref12_Some_L1 (x0:(List T_api_Point)) (j1:Unit→Option Bool):Nat→Int→Option Bool
 | 0,_=>none
 | n+1,y5=>
  if y5<(x0.length:Int) then
  ((idx x0 y5).bind λz8=>
   (m_limnographref12_Light z8).bind λp17=>
   if (!p17)=true then
   (some false)
   else
   (m_limnographref12_Some_L1 x0 j1 n (W64 (y5+1))))
  else
  (j1 ())
def m_limnographref12_Some (x0:(List T_api_Point)) (x1:Int):Option Bool:=
 if (x0.length:Int)>x1 then
 (some false)
 else
 (jn (λ(_:Unit)=>
  (some true)) λj1=>
  m_limnographref12_Some_L1 x0 j1 fuel 0)
def m_limnographref17_Good (x0:T_api_Config):Option Bool:=
 some (decide ((((((x0.Out≥0)∧(x0.Out≤2))∧(x0.Series≥1))∧(x0.Series≤16))∧(x0.Buckets≥1))∧(x0.Buckets≤160)))
def m_pack_NewWriter  : Option T_pack_Writer:=
 some (⟨([]:List UInt8)⟩:T_pack_Writer)
def m_math_bits_Len64 (x0:UInt64):Option Int:=
 jn (λ(y1:UInt64) (y2:Int)=>
  (jn (λ(y4:UInt64) (y5:Int)=>
   (jn (λ(y7:UInt64) (y8:Int)=>
    ((idx ([0,1,2,2,3,3,3,3,4,4,4,4,4,4,4,4,5,5,5,5,5,5,5,5,5,5,5,5,5,5,5,5,6,6,6,6,6,6,6,6,6,6,6,6,6,6,6,6,6,6,6,6,6,6,6,6,6,6,6,6,6,6,6,6,7,7,7,7,7,7,7,7,7,7,7,7,7,7,7,7,7,7,7,7,7,7,7,7,7,7,7,7,7,7,7,7,7,7,7,7,7,7,7,7,7,7,7,7,7,7,7,7,7,7,7,7,7,7,7,7,7,7,7,7,7,7,7,7,8,8,8,8,8,8,8,8,8,8,8,8,8,8,8,8,8,8,8,8,8,8,8,8,8,8,8,8,8,8,8,8,8,8,8,8,8,8,8,8,8,8,8,8,8,8,8,8,8,8,8,8,8,8,8,8,8,8,8,8,8,8,8,8,8,8,8,8,8,8,8,8,8,8,8,8,8,8,8,8,8,8,8,8,8,8,8,8,8,8,8,8,8,8,8,8,8,8,8,8,8,8,8,8,8,8,8,8,8,8,8,8,8,8,8,8,8,8,8,8,8,8,8,8,8,8,8,8]:List UInt8) ((toU8 ((y7).toNat:Int)).toNat:Int)).bind λz10=>
     some (W64 (y8+(z10.toNat:Int))))) λj3=>
    if ((y4).toNat:Int)≥256 then
    (j3 (y4>>>UInt64.ofNat 8) (W64 (y5+8)))
    else
    (j3 y4 y5))) λj2=>
   if ((y1).toNat:Int)≥65536 then
   (j2 (y1>>>UInt64.ofNat 16) (W64 (y2+16)))
   else
   (j2 y1 y2))) λj1=>
 if ((x0).toNat:Int)≥4294967296 then
 (j1 (x0>>>UInt64.ofNat 32) 32)
 else
 (j1 x0 0)
def m_pack_others (x0:UInt64):Option Int:=
 (m_math_bits_Len64 x0).bind λp1=>
 if p1>56 then
 (some 8)
 else
 ((quoZ (max (W64 (p1-1)) 0) 7).bind λz4=>
  some z4)
def m_pack_Writer_Num_L1 (x1:UInt64) (j2:T_pack_Writer→Option T_pack_Writer):Nat→Int→T_pack_Writer→Option T_pack_Writer
 | 0,_,_=>none
 | n+1,y17,y18=>
  if y17>0 then
  ((appL y18.b [toU8 ((shr64 x1 ((toU64 (W64 ((W64 (8*y17))-8))).toNat)).toNat:Int)]).bind λz23=>
   m_pack_Writer_Num_L1 x1 j2 n (W64 (y17-1)) (⟨z23⟩:T_pack_Writer))
  else
  (j2 y18)
def m_pack_Writer_Num (x0:T_pack_Writer) (x1:UInt64):Option T_pack_Writer:=
 (m_pack_others x1).bind λp2=>
 jn (λ(y5:UInt8)=>
  ((appL x0.b [y5]).bind λz9=>
   jn (λ(y15:T_pack_Writer)=>
    (some y15)) λj2=>
   m_pack_Writer_Num_L1 x1 j2 fuel p2 (⟨z9⟩:T_pack_Writer))) λj1=>
 if p2<8 then
 (j1 ((shl8 (255:UInt8) ((toU64 (W64 (8-p2))).toNat))|||(toU8 ((shr64 x1 ((toU64 (W64 (8*p2))).toNat)).toNat:Int))))
 else
 (j1 (shl8 (255:UInt8) ((toU64 (W64 (8-p2))).toNat)))
def m_table_Table_convert_kept_Keys (x0:T_table_Table_convert_kept_):Option (List (List UInt8)):=
 (keysG x0.m).bind λz8=>
 some z8
def m_convert_kept_asPoint (x0:T_convert_kept):Option T_api_Point:=
 some (⟨x0.series.Name,x0.series.Attrs,x0.series.Kind,x0.series.Temp,x0.series.Mono,x0.State.Start,x0.State.Time,x0.State.Int_,x0.State.Re,x0.State.Im,x0.State.Hist,x0.series.Flags⟩:T_api_Point)
def m_pack_Writer_Text (x0:T_pack_Writer) (x1:(List UInt8)):Option T_pack_Writer:=
 (m_pack_Writer_Num x0 (toU64 (x1.length:Int))).bind λp2=>
 (appL p2.b x1).bind λz8=>
 some (⟨z8⟩:T_pack_Writer)
def m_pack_Zig (x0:Int):Option UInt64:=
 some (((toU64 x0)<<<UInt64.ofNat 1)^^^(toU64 (shrZ x0 63)))
def m_pack_Writer_Int (x0:T_pack_Writer) (x1:Int):Option T_pack_Writer:=
 (m_pack_Zig x1).bind λp2=>
 (m_pack_Writer_Num x0 p2).bind λp4=>
 some p4
def m_pack_Writer_Fix_L1 (x1:UInt64) (j1:T_pack_Writer→Option T_pack_Writer):Nat→Int→T_pack_Writer→Option T_pack_Writer
 | 0,_,_=>none
 | n+1,y4,y5=>
  if y4<8 then
  ((appL y5.b [toU8 ((shr64 x1 ((toU64 (W64 (8*y4))).toNat)).toNat:Int)]).bind λz10=>
   m_pack_Writer_Fix_L1 x1 j1 n (W64 (y4+1)) (⟨z10⟩:T_pack_Writer))
  else
  (j1 y5)
def m_pack_Writer_Fix (x0:T_pack_Writer) (x1:UInt64):Option T_pack_Writer:=
 jn (λ(y2:T_pack_Writer)=>
  (some y2)) λj1=>
 m_pack_Writer_Fix_L1 x1 j1 fuel 0 x0
def m_point_side_L1 (x1:T_api_Side) (j2:T_pack_Writer→Option T_pack_Writer):Nat→Int→T_pack_Writer→Option T_pack_Writer
 | 0,_,_=>none
 | n+1,y17,y18=>
  if y17<(x1.Counts.length:Int) then
  ((idx x1.Counts y17).bind λz21=>
   (m_pack_Writer_Num y18 z21).bind λp23=>
   m_point_side_L1 x1 j2 n (W64 (y17+1)) p23)
  else
  (j2 y18)
def m_point_side (x0:T_pack_Writer) (x1:T_api_Side):Option T_pack_Writer:=
 (m_pack_Writer_Num x0 (toU64 (x1.Counts.length:Int))).bind λp9=>
 jn (λ(y13:T_pack_Writer)=>
  (jn (λ(y15:T_pack_Writer)=>
   (some y15)) λj2=>
   m_point_side_L1 x1 j2 fuel 0 y13)) λj1=>
 if (x1.Counts.length:Int)>0 then
 ((m_pack_Writer_Int p9 x1.Offset).bind λp28=>
  j1 p28)
 else
 (j1 p9)
def m_bytes_Clone (x0:(List UInt8)):Option (List UInt8):=
 appL [] x0
def m_pack_Writer_Bytes (x0:T_pack_Writer):Option (List UInt8):=
 (m_bytes_Clone x0.b).bind λp8=>
 some p8
def m_point_Bytes_L1 (x0:T_api_Point) (p28:Int) (j1:T_pack_Writer→Option ((List UInt8)×Int)):Nat→Int→T_pack_Writer→Option ((List UInt8)×Int)
 | 0,_,_=>none
 | n+1,y79,y80=>
  if y79<(([x0.Kind,x0.Temp,p28,x0.Flags,x0.Start,W64 (x0.Time-x0.Start)]:List Int).length:Int) then
  ((idx ([x0.Kind,x0.Temp,p28,x0.Flags,x0.Start,W64 (x0.Time-x0.Start)]:List Int) y79).bind λz83=>
   (m_pack_Writer_Num y80 (toU64 z83)).bind λp84=>
   m_point_Bytes_L1 x0 p28 j1 n (W64 (y79+1)) p84)
  else
  (j1 y80)
def m_point_Bytes (x0:T_api_Point):Option ((List UInt8)×Int):=
 (m_point_Check x0).bind λp13=>
 if p13≠0 then
 (some (([]:List UInt8),p13))
 else
 ((m_pack_NewWriter).bind λp18=>
  (m_label_Text x0.Name x0.Attrs).bind λp21=>
  (m_pack_Writer_Text p18 p21.1).bind λp23=>
  (m_point_bit x0.Mono).bind λp28=>
  jn (λ(y33:T_pack_Writer)=>
   (jn (λ(y35:T_pack_Writer)=>
    ((m_pack_Writer_Bytes y35).bind λp37=>
     some (p37,0))) λj2=>
    if x0.Kind=1 then
    ((m_pack_Writer_Int y33 x0.Int_).bind λp41=>
     j2 p41)
    else
    (if x0.Kind=5 then
     ((m_pack_Writer_Fix y33 x0.Re).bind λp46=>
      (m_pack_Writer_Fix p46 x0.Im).bind λp50=>
      j2 p50)
     else
     (if x0.Kind=4 then
      ((m_pack_Writer_Int y33 x0.Hist.Scale).bind λp55=>
       (m_pack_Writer_Num p55 x0.Hist.Zero).bind λp59=>
       (m_point_side p59 x0.Hist.Pos).bind λp63=>
       (m_point_side p63 x0.Hist.Neg).bind λp69=>
       j2 p69)
      else
      ((m_pack_Writer_Fix y33 x0.Re).bind λp75=>
       j2 p75))))) λj1=>
  m_point_Bytes_L1 x0 p28 j1 fuel 0 p23)
def m_convert_Converter_Save_L1 (x0:T_convert_Converter) (p13:(List (List UInt8))) (j1:T_pack_Writer→Option (List UInt8)):Nat→Int→T_pack_Writer→Option (List UInt8)
 | 0,_,_=>none
 | n+1,y25,y26=>
  if y25<(p13.length:Int) then
  ((idx p13 y25).bind λz29=>
   (m_table_Table_convert_kept_Get x0.states z29).bind λp32=>
   (m_convert_kept_asPoint p32.1).bind λp44=>
   (m_point_Bytes p44).bind λp49=>
   (m_pack_Writer_Text y26 p49.1).bind λp52=>
   m_convert_Converter_Save_L1 x0 p13 j1 n (W64 (y25+1)) p52)
  else
  (j1 y26)
def m_convert_Converter_Save (x0:T_convert_Converter):Option (List UInt8):=
 (m_pack_NewWriter).bind λp2=>
 (m_table_Table_convert_kept_Len x0.states).bind λp7=>
 (m_pack_Writer_Num p2 (toU64 p7)).bind λp9=>
 (m_table_Table_convert_kept_Keys x0.states).bind λp13=>
 jn (λ(y19:T_pack_Writer)=>
  ((m_pack_Writer_Bytes y19).bind λp21=>
   some p21)) λj1=>
 m_convert_Converter_Save_L1 x0 p13 j1 fuel 0 p9
def m_pack_NewReader (x0:(List UInt8)):Option T_pack_Reader:=
 (m_bytes_Clone x0).bind λp3=>
 some (⟨p3,0,0⟩:T_pack_Reader)
def m_pack_Reader_Left (x0:T_pack_Reader):Option Int:=
 some (W64 ((x0.b.length:Int)-x0.at_))
def m_math_bits_Len8 (x0:UInt8):Option Int:=
 (idx ([0,1,2,2,3,3,3,3,4,4,4,4,4,4,4,4,5,5,5,5,5,5,5,5,5,5,5,5,5,5,5,5,6,6,6,6,6,6,6,6,6,6,6,6,6,6,6,6,6,6,6,6,6,6,6,6,6,6,6,6,6,6,6,6,7,7,7,7,7,7,7,7,7,7,7,7,7,7,7,7,7,7,7,7,7,7,7,7,7,7,7,7,7,7,7,7,7,7,7,7,7,7,7,7,7,7,7,7,7,7,7,7,7,7,7,7,7,7,7,7,7,7,7,7,7,7,7,7,8,8,8,8,8,8,8,8,8,8,8,8,8,8,8,8,8,8,8,8,8,8,8,8,8,8,8,8,8,8,8,8,8,8,8,8,8,8,8,8,8,8,8,8,8,8,8,8,8,8,8,8,8,8,8,8,8,8,8,8,8,8,8,8,8,8,8,8,8,8,8,8,8,8,8,8,8,8,8,8,8,8,8,8,8,8,8,8,8,8,8,8,8,8,8,8,8,8,8,8,8,8,8,8,8,8,8,8,8,8,8,8,8,8,8,8,8,8,8,8,8,8,8,8,8,8,8,8]:List UInt8) ((x0).toNat:Int)).bind λz1=>
 some (z1.toNat:Int)
def m_math_bits_LeadingZeros8 (x0:UInt8):Option Int:=
 (m_math_bits_Len8 x0).bind λp1=>
 some (W64 (8-p1))
def m_pack_Reader_fail (x0:T_pack_Reader) (x1:Int):Option T_pack_Reader:=
 if x0.e=0 then
 (some (⟨x0.b,x0.at_,x1⟩:T_pack_Reader))
 else
 (some x0)
def m_pack_Reader_Num_L1 (z43:(List UInt8)) (j3:UInt64→Option (UInt64×T_pack_Reader)):Nat→UInt64→Int→Option (UInt64×T_pack_Reader)
 | 0,_,_=>none
 | n+1,y68,y69=>
  if y69<(z43.length:Int) then
  ((idx z43 y69).bind λz72=>
   m_pack_Reader_Num_L1 z43 j3 n ((y68<<<UInt64.ofNat 8)|||(toU64 ((z72).toNat:Int))) (W64 (y69+1)))
  else
  (j3 y68)
def m_pack_Reader_Num (x0:T_pack_Reader):Option (UInt64×T_pack_Reader):=
 jn (λ(_:Unit)=>
  ((m_pack_Reader_fail x0 2).bind λp4=>
   some ((0:UInt64),p4))) λj1=>
 if x0.e≠0 then
 (some ((0:UInt64),x0))
 else
 ((m_pack_Reader_Left x0).bind λp15=>
  if p15=0 then
  (j1 ())
  else
  ((idx x0.b x0.at_).bind λz25=>
   (m_math_bits_LeadingZeros8 (~~~ z25)).bind λp28=>
   (m_pack_Reader_Left x0).bind λp30=>
   if p28≥p30 then
   (j1 ())
   else
   (jn (λ(y38:UInt64)=>
    ((cutL x0.b (W64 (x0.at_+1)) (W64 ((W64 (x0.at_+1))+p28))).bind λz43=>
     jn (λ(y50:UInt64)=>
      ((m_pack_others y50).bind λp52=>
       if p52≠p28 then
       ((m_pack_Reader_fail x0 3).bind λp55=>
        some ((0:UInt64),p55))
       else
       (some (y50,(⟨x0.b,W64 (x0.at_+(W64 (1+p28))),x0.e⟩:T_pack_Reader))))) λj3=>
     m_pack_Reader_Num_L1 z43 j3 fuel y38 0)) λj2=>
    if p28<8 then
    ((idx x0.b x0.at_).bind λz78=>
     j2 (toU64 ((z78&&&(shr8 (127:UInt8) ((toU64 p28).toNat))).toNat:Int)))
    else
    (j2 (0:UInt64)))))
def m_pack_Reader_Count (x0:T_pack_Reader) (x1:Int):Option (Int×T_pack_Reader):=
 (m_pack_Reader_Num x0).bind λp4=>
 if (p4.2.e=0)∧((x1<0)∨(((p4.1).toNat:Int)>((toU64 x1).toNat:Int))) then
 ((m_pack_Reader_fail (⟨p4.2.b,x0.at_,p4.2.e⟩:T_pack_Reader) 4).bind λp21=>
  some (0,p21))
 else
 (some (W64 ((p4.1).toNat:Int),p4.2))
def m_pack_Reader_Raw (x0:T_pack_Reader) (x1:Int):Option ((List UInt8)×T_pack_Reader):=
 if x0.e≠0 then
 (some (([]:List UInt8),x0))
 else
 (if x1<0 then
  ((m_pack_Reader_fail x0 1).bind λp12=>
   some (([]:List UInt8),p12))
  else
  ((m_pack_Reader_Left x0).bind λp22=>
   if x1>p22 then
   ((m_pack_Reader_fail x0 2).bind λp29=>
    some (([]:List UInt8),p29))
   else
   ((cutL x0.b (W64 ((W64 (x0.at_+x1))-x1)) (W64 (x0.at_+x1))).bind λz40=>
    (m_bytes_Clone z40).bind λp42=>
    some (p42,(⟨x0.b,W64 (x0.at_+x1),x0.e⟩:T_pack_Reader)))))
def m_pack_Reader_Text (x0:T_pack_Reader) (x1:Int):Option ((List UInt8)×T_pack_Reader):=
 (m_pack_Reader_Count x0 x1).bind λp4=>
 (m_pack_Reader_Raw p4.2 p4.1).bind λp12=>
 jn (λ(y23:T_pack_Reader)=>
  (some (p12.1,y23))) λj1=>
 if p12.2.e≠0 then
 (j1 (⟨p12.2.b,x0.at_,p12.2.e⟩:T_pack_Reader))
 else
 (j1 p12.2)
def m_pack_Reader_Err (x0:T_pack_Reader):Option Int:=
 some x0.e
def m_pack_Zag (x0:UInt64):Option Int:=
 some (xorZ (W64 ((x0>>>UInt64.ofNat 1).toNat:Int)) (IntKind.i64.wrap (0-(W64 ((x0&&&(1:UInt64)).toNat:Int)))))
def m_pack_Reader_Int (x0:T_pack_Reader):Option (Int×T_pack_Reader):=
 (m_pack_Reader_Num x0).bind λp2=>
 (m_pack_Zag p2.1).bind λp6=>
 some (p6,p2.2)
def m_pack_Reader_Fix_L1 (p2:((List UInt8)×T_pack_Reader)) (j1:UInt64→Option (UInt64×T_pack_Reader)):Nat→UInt64→Int→Option (UInt64×T_pack_Reader)
 | 0,_,_=>none
 | n+1,y11,y12=>
  if y12<(p2.1.length:Int) then
  ((idx p2.1 y12).bind λz15=>
   m_pack_Reader_Fix_L1 p2 j1 n (y11|||(shl64 (toU64 ((z15).toNat:Int)) ((toU64 (W64 (8*y12))).toNat))) (W64 (y12+1)))
  else
  (j1 y11)
def m_pack_Reader_Fix (x0:T_pack_Reader):Option (UInt64×T_pack_Reader):=
 (m_pack_Reader_Raw x0 8).bind λp2=>
 jn (λ(y8:UInt64)=>
  (some (y8,p2.2))) λj1=>
 m_pack_Reader_Fix_L1 p2 j1 fuel (0:UInt64) 0
def m_point_reader_signed (x0:T_point_reader):Option (Int×T_point_reader):=
 (m_pack_Reader_Int x0.Reader).bind λp4=>
 jn (λ(y11:Bool)=>
  (jn (λ(y14:Bool)=>
   (jn (λ(y16:T_point_reader)=>
    (some (p4.1,y16))) λj3=>
    if y14=true then
    (j3 (⟨p4.2,4⟩:T_point_reader))
    else
    (j3 (⟨p4.2,x0.e⟩:T_point_reader)))) λj2=>
   if y11=true then
   ((m_pack_Zig p4.1).bind λp26=>
    j2 (decide (((p26).toNat:Int)>9007199254740992)))
   else
   (j2 false))) λj1=>
 if x0.e=0 then
 ((m_pack_Reader_Err p4.2).bind λp31=>
  j1 (decide (p31=0)))
 else
 (j1 false)
def m_point_reader_side_L1 (y9:Int) (j3:T_point_reader→T_api_Side→Option (T_api_Side×T_point_reader)):Nat→Int→T_point_reader→T_api_Side→Option (T_api_Side×T_point_reader)
 | 0,_,_,_=>none
 | n+1,y24,y25,y26=>
  jn (λ(y33:Bool)=>
   (jn (λ(y36:Bool)=>
    (if y36=true then
     (jn (λ(y39:T_point_reader) (y40:T_api_Side)=>
      (m_point_reader_side_L1 y9 j3 n (W64 (y24+1)) y39 y40)) λj6=>
      (m_pack_Reader_Num y25.Reader).bind λp49=>
      (appL y26.Counts ([p49.1]:List UInt64)).bind λz56=>
      j6 (⟨p49.2,y25.e⟩:T_point_reader) (⟨y26.Offset,z56⟩:T_api_Side))
     else
     (j3 y25 y26))) λj5=>
    if y33=true then
    ((m_pack_Reader_Err y25.Reader).bind λp106=>
     j5 (decide (p106=0)))
    else
    (j5 false))) λj4=>
  if y24<y9 then
  (j4 (decide (y25.e=0)))
  else
  (j4 false)
def m_point_reader_side (x0:T_point_reader):Option (T_api_Side×T_point_reader):=
 jn (λ(y9:Int) (y10:T_point_reader)=>
  (jn (λ(y12:T_point_reader) (y13:T_api_Side)=>
   (jn (λ(y17:T_point_reader) (y18:T_api_Side)=>
    (some (y18,y17))) λj3=>
    m_point_reader_side_L1 y9 j3 fuel 0 y12 y13)) λj2=>
   if y9>0 then
   ((m_point_reader_signed y10).bind λp116=>
    j2 p116.2 (⟨p116.1,([]:List UInt64)⟩:T_api_Side))
   else
   (j2 y10 (⟨0,([]:List UInt64)⟩:T_api_Side)))) λj1=>
 if x0.e=0 then
 ((m_pack_Reader_Count x0.Reader 160).bind λp129=>
  j1 p129.1 (⟨p129.2,x0.e⟩:T_point_reader))
 else
 (j1 0 x0)
def m_point_reader_value (x0:T_point_reader) (x1:T_api_Point):Option (T_point_reader×T_api_Point):=
 if x1.Kind=1 then
 ((m_pack_Reader_Int x0.Reader).bind λp10=>
  some ((⟨p10.2,x0.e⟩:T_point_reader),(⟨x1.Name,x1.Attrs,x1.Kind,x1.Temp,x1.Mono,x1.Start,x1.Time,p10.1,x1.Re,x1.Im,x1.Hist,x1.Flags⟩:T_api_Point)))
 else
 (jn (λ(y36:Bool)=>
  (if y36=true then
   ((m_pack_Reader_Fix x0.Reader).bind λp41=>
    some ((⟨p41.2,x0.e⟩:T_point_reader),(⟨x1.Name,x1.Attrs,x1.Kind,x1.Temp,x1.Mono,x1.Start,x1.Time,x1.Int_,p41.1,x1.Im,x1.Hist,x1.Flags⟩:T_api_Point)))
   else
   (if x1.Kind=5 then
    ((m_pack_Reader_Fix x0.Reader).bind λp67=>
     (m_pack_Reader_Fix p67.2).bind λp71=>
     some ((⟨p71.2,x0.e⟩:T_point_reader),(⟨x1.Name,x1.Attrs,x1.Kind,x1.Temp,x1.Mono,x1.Start,x1.Time,x1.Int_,p67.1,p71.1,x1.Hist,x1.Flags⟩:T_api_Point)))
    else
    (if x1.Kind=4 then
     ((m_point_reader_signed x0).bind λp96=>
      jn (λ(y118:T_api_Point) (y119:T_point_reader)=>
       ((m_point_reader_side y119).bind λp121=>
        (m_point_reader_side p121.2).bind λp132=>
        some (p132.2,(⟨y118.Name,y118.Attrs,y118.Kind,y118.Temp,y118.Mono,y118.Start,y118.Time,y118.Int_,y118.Re,y118.Im,(⟨y118.Hist.Scale,y118.Hist.Zero,p121.1,p132.1⟩:T_api_Hist),y118.Flags⟩:T_api_Point)))) λj2=>
      if p96.2.e=0 then
      ((m_pack_Reader_Num p96.2.Reader).bind λp154=>
       j2 (⟨x1.Name,x1.Attrs,x1.Kind,x1.Temp,x1.Mono,x1.Start,x1.Time,x1.Int_,x1.Re,x1.Im,(⟨p96.1,p154.1,x1.Hist.Pos,x1.Hist.Neg⟩:T_api_Hist),x1.Flags⟩:T_api_Point) (⟨p154.2,p96.2.e⟩:T_point_reader))
      else
      (j2 (⟨x1.Name,x1.Attrs,x1.Kind,x1.Temp,x1.Mono,x1.Start,x1.Time,x1.Int_,x1.Re,x1.Im,(⟨p96.1,x1.Hist.Zero,x1.Hist.Pos,x1.Hist.Neg⟩:T_api_Hist),x1.Flags⟩:T_api_Point) p96.2))
     else
     (some (x0,x1)))))) λj1=>
  if x1.Kind=2 then
  (j1 (decide (x1.Kind=2)))
  else
  (j1 (decide (x1.Kind=3))))
def m_pack_Reader_Done (x0:T_pack_Reader):Option Int:=
 jn (λ(y8:Bool)=>
  (if y8=true then
   (some 3)
   else
   (some x0.e))) λj1=>
 if x0.e=0 then
 ((m_pack_Reader_Left x0).bind λp12=>
  j1 (decide (p12>0)))
 else
 (j1 false)
def m_internal_stringslite_IndexByte (x0:(List UInt8)) (x1:UInt8):Option Int:=
 some (Lib.indexByte x0 x1)
def m_internal_stringslite_Index (x0:(List UInt8)) (x1:(List UInt8)):Option Int:=
 if ((x1.length:Int)=0)∨(x1=x0) then
 (some 0)
 else
 (if (x1.length:Int)=1 then
  ((idx x1 0).bind λz5=>
   (m_internal_stringslite_IndexByte x0 z5).bind λp6=>
   some p6)
  else
  (if (x1.length:Int)≥(x0.length:Int) then
   (some (-1))
   else
   (none)))
def m_internal_stringslite_Cut (x0:(List UInt8)) (x1:(List UInt8)):Option ((List UInt8)×(List UInt8)×Bool):=
 (m_internal_stringslite_Index x0 x1).bind λp1=>
 if p1≥0 then
 ((cutL x0 0 p1).bind λz5=>
  (cutL x0 (W64 (p1+(x1.length:Int))) ((x0).length)).bind λz6=>
  some (z5,z6,true))
 else
 (some (x0,([]:List UInt8),false))
def m_strings_Cut (x0:(List UInt8)) (x1:(List UInt8)):Option ((List UInt8)×(List UInt8)×Bool):=
 (m_internal_stringslite_Cut x0 x1).bind λp1=>
 some (p1.1,p1.2.1,p1.2.2)
def m_label_pair (x0:(List UInt8)):Option (T_api_Pair×Int):=
 (m_strings_Cut x0 ([61]:List UInt8)).bind λp4=>
 jn (λ(y6:Bool)=>
  (jn (λ(y8:Bool)=>
   (if y8=true then
    (some ((⟨([]:List UInt8),([]:List UInt8)⟩:T_api_Pair),3))
    else
    (some ((⟨p4.1,p4.2.1⟩:T_api_Pair),0)))) λj2=>
   if y6=true then
   (j2 true)
   else
   ((m_label_isValue p4.2.1).bind λp16=>
    j2 (!p16)))) λj1=>
 if (!p4.2.2)=true then
 (j1 true)
 else
 ((m_label_isName p4.1).bind λp19=>
  j1 (!p19))
def m_label_follows_L1 (x0:(List T_api_Pair)) (x1:(List UInt8)) (j1:Unit→Option Int):Nat→Int→Option Int
 | 0,_=>none
 | n+1,y7=>
  if y7<(x0.length:Int) then
  ((idx x0 y7).bind λz10=>
   if z10.Key=x1 then
   (some 8)
   else
   (m_label_follows_L1 x0 x1 j1 n (W64 (y7+1))))
  else
  (j1 ())
def m_label_follows (x0:(List T_api_Pair)) (x1:(List UInt8)):Option Int:=
 jn (λ(_:Unit)=>
  ((idx x0 (W64 ((x0.length:Int)-1))).bind λz4=>
   if (Op.bytesLess x1 z4.Key)=true then
   (some 9)
   else
   (some 0))) λj1=>
 m_label_follows_L1 x0 x1 j1 fuel 0
def m_label_Parse_L1 (j1:(List T_api_Pair)→Option ((List UInt8)×(List T_api_Pair)×Int×Int)):Nat→(List T_api_Pair)→Int→(List UInt8)→Bool→Option ((List UInt8)×(List T_api_Pair)×Int×Int)
 | 0,_,_,_,_=>none
 | n+1,y12,y15,y16,y17=>
  if y17=true then
  ((m_strings_Cut y16 ([59]:List UInt8)).bind λp22=>
   (m_label_pair p22.1).bind λp24=>
   jn (λ(y29:Int)=>
    (jn (λ(y33:Int)=>
     (if y33≠0 then
      (some (([]:List UInt8),([]:List T_api_Pair),y15,y33))
      else
      ((appL y12 [p24.1]).bind λz38=>
       m_label_Parse_L1 j1 n z38 (W64 (y15+(W64 ((p22.1.length:Int)+1)))) p22.2.1 p22.2.2))) λj3=>
     if (y29=0)∧((y12.length:Int)>0) then
     ((m_label_follows y12 p24.1.Key).bind λp41=>
      j3 p41)
     else
     (j3 y29))) λj2=>
   if (y12.length:Int)=4 then
   (j2 4)
   else
   (j2 p24.2))
  else
  (j1 y12)
def m_label_Parse (x0:(List UInt8)):Option ((List UInt8)×(List T_api_Pair)×Int×Int):=
 (m_strings_Cut x0 ([59]:List UInt8)).bind λp1=>
 (m_label_isName p1.1).bind λp3=>
 if (!p3)=true then
 (some (([]:List UInt8),([]:List T_api_Pair),0,3))
 else
 (jn (λ(y8:(List T_api_Pair))=>
  (some (p1.1,y8,0,0))) λj1=>
  m_label_Parse_L1 j1 fuel ([]:List T_api_Pair) (W64 ((p1.1.length:Int)+1)) p1.2.1 p1.2.2)
def m_point_Read (x0:(List UInt8)):Option (T_api_Point×Int):=
 (m_pack_NewReader x0).bind λp6=>
 (m_pack_Reader_Text p6 400).bind λp15=>
 (m_pack_Reader_Count p15.2 9007199254740992).bind λp46=>
 (m_pack_Reader_Count p46.2 9007199254740992).bind λp50=>
 (m_pack_Reader_Count p50.2 9007199254740992).bind λp64=>
 (m_pack_Reader_Count p64.2 9007199254740992).bind λp86=>
 (m_pack_Reader_Count p86.2 9007199254740992).bind λp90=>
 jn (λ(y114:T_point_reader) (y115:T_api_Point)=>
  ((m_point_reader_value y114 y115).bind λp117=>
   jn (λ(y128:Int)=>
    (jn (λ(y131:Int) (y132:T_api_Point)=>
     (jn (λ(y138:Int)=>
      (jn (λ(y156:Int)=>
       (if y156≠0 then
        (some ((⟨([]:List UInt8),([]:List T_api_Pair),0,0,false,0,0,0,(0:UInt64),(0:UInt64),(⟨0,(0:UInt64),(⟨0,([]:List UInt64)⟩:T_api_Side),(⟨0,([]:List UInt64)⟩:T_api_Side)⟩:T_api_Hist),0⟩:T_api_Point),y156))
        else
        (some ((⟨y132.Name,y132.Attrs,y132.Kind,y132.Temp,decide (p64.1=1),y132.Start,y132.Time,y132.Int_,y132.Re,y132.Im,y132.Hist,y132.Flags⟩:T_api_Point),0)))) λj5=>
       if y138=0 then
       ((m_point_Check (⟨y132.Name,y132.Attrs,y132.Kind,y132.Temp,decide (p64.1=1),y132.Start,y132.Time,y132.Int_,y132.Re,y132.Im,y132.Hist,y132.Flags⟩:T_api_Point)).bind λp184=>
        j5 p184)
       else
       (j5 y138))) λj4=>
      if (y131=0)∧(p64.1>1) then
      (j4 3)
      else
      (j4 y131))) λj3=>
     if y128=0 then
     ((m_label_Parse p15.1).bind λp196=>
      j3 p196.2.2.2 (⟨p196.1,p196.2.1,p117.2.Kind,p117.2.Temp,p117.2.Mono,p117.2.Start,p117.2.Time,p117.2.Int_,p117.2.Re,p117.2.Im,p117.2.Hist,p117.2.Flags⟩:T_api_Point))
     else
     (j3 y128 p117.2))) λj2=>
   if p117.1.e=0 then
   ((m_pack_Reader_Done p117.1.Reader).bind λp220=>
    j2 p220)
   else
   (j2 p117.1.e))) λj1=>
 (m_pack_Reader_Count p90.2 9007199254740992).bind λp243=>
 j1 (⟨p243.2,0⟩:T_point_reader) (⟨([]:List UInt8),([]:List T_api_Pair),p46.1,p50.1,false,p90.1,W64 (p90.1+p243.1),0,(0:UInt64),(0:UInt64),(⟨0,(0:UInt64),(⟨0,([]:List UInt64)⟩:T_api_Side),(⟨0,([]:List UInt64)⟩:T_api_Side)⟩:T_api_Hist),p86.1⟩:T_api_Point)
def m_slices_Equal_uint64_uint64_L1 (x0:(List UInt64)) (x1:(List UInt64)) (j1:Unit→Option Bool):Nat→Int→Option Bool
 | 0,_=>none
 | n+1,y7=>
  if y7<(x0.length:Int) then
  ((idx x0 y7).bind λz11=>
   (idx x1 y7).bind λz14=>
   if ((z11).toNat:Int)≠((z14).toNat:Int) then
   (some false)
   else
   (m_slices_Equal_uint64_uint64_L1 x0 x1 j1 n (W64 (y7+1))))
  else
  (j1 ())
def m_slices_Equal_uint64_uint64 (x0:(List UInt64)) (x1:(List UInt64)):Option Bool:=
 if (x0.length:Int)≠(x1.length:Int) then
 (some false)
 else
 (jn (λ(_:Unit)=>
  (some true)) λj1=>
  m_slices_Equal_uint64_uint64_L1 x0 x1 j1 fuel 0)
def m_hist_same (x0:T_api_Side) (x1:T_api_Side):Option Bool:=
 jn (λ(y13:Bool)=>
  (some y13)) λj1=>
 if x0.Offset=x1.Offset then
 ((m_slices_Equal_uint64_uint64 x0.Counts x1.Counts).bind λp16=>
  j1 p16)
 else
 (j1 false)
def m_hist_Same (x0:T_api_Hist) (x1:T_api_Hist):Option Bool:=
 jn (λ(y21:Bool)=>
  (jn (λ(y23:Bool)=>
   (some y23)) λj2=>
   if y21=true then
   ((m_hist_same x0.Neg x1.Neg).bind λp26=>
    j2 p26)
   else
   (j2 false))) λj1=>
 if (x0.Scale=x1.Scale)∧(((x0.Zero).toNat:Int)=((x1.Zero).toNat:Int)) then
 ((m_hist_same x0.Pos x1.Pos).bind λp29=>
  j1 p29)
 else
 (j1 false)
def m_convert_Converter_passes (x0:T_convert_Converter) (x1:T_api_Point):Option Bool:=
 if x1.Temp=0 then
 (some true)
 else
 (if x0.cfg.Out=0 then
  (some true)
  else
  (some (decide (x1.Temp=x0.cfg.Out))))
def m_convert_Converter_load (x0:T_convert_Converter) (x1:T_api_Point) (x2:(List UInt8)):Option ((List UInt8)×Int×T_convert_Converter):=
 (m_point_Key x1).bind λp13=>
 jn (λ(y20:Bool)=>
  (jn (λ(y23:Bool)=>
   (if y23=true then
    (some (([]:List UInt8),3,x0))
    else
    (if max (x1.Hist.Pos.Counts.length:Int) (x1.Hist.Neg.Counts.length:Int)>x0.cfg.Buckets then
     (some (([]:List UInt8),4,x0))
     else
     (if (!(Op.bytesLess x2 p13.1))=true then
      (some (([]:List UInt8),9,x0))
      else
      (jn (λ(y38:T_api_State)=>
       ((m_convert_bare x1).bind λp47=>
        (m_table_Table_convert_kept_Put x0.states p13.1 (⟨y38,p47⟩:T_convert_kept)).bind λp52=>
        some (p13.1,0,(⟨x0.cfg,p52.2⟩:T_convert_Converter)))) λj3=>
       (m_hist_Clone x1.Hist).bind λp67=>
       j3 (⟨true,x1.Start,x1.Time,x1.Int_,x1.Re,x1.Im,p67⟩:T_api_State)))))) λj2=>
   if x1.Flags≠0 then
   (j2 true)
   else
   ((m_convert_Converter_passes x0 x1).bind λp115=>
    j2 (decide ((p115=true)∧(y20=true)))))) λj1=>
 if ((x1.Int_≠0)∨(((x1.Re).toNat:Int)≠0))∨(((x1.Im).toNat:Int)≠0) then
 (j1 true)
 else
 ((m_hist_Same x1.Hist (⟨0,(0:UInt64),(⟨0,[]⟩:T_api_Side),(⟨0,[]⟩:T_api_Side)⟩:T_api_Hist)).bind λp120=>
  j1 (!p120))
def m_convert_Load_L1 (p15:(Int×T_pack_Reader)) (j1:T_pack_Reader→(Option T_convert_Converter)→Option ((Option T_convert_Converter)×Int)):Nat→(List UInt8)→Int→T_pack_Reader→(Option T_convert_Converter)→Option ((Option T_convert_Converter)×Int)
 | 0,_,_,_,_=>none
 | n+1,y27,y28,y29,y30=>
  if y28<p15.1 then
  ((m_pack_Reader_Text y29 65536).bind λp33=>
   (m_pack_Reader_Err p33.2).bind λp37=>
   if p37≠0 then
   (some ((none:Option T_convert_Converter),p37))
   else
   ((lenS p33.1).bind λz42=>
    (m_point_Read z42).bind λp44=>
    jn (λ(y53:(List UInt8)) (y54:Int) (y55:(Option T_convert_Converter))=>
     (if y54≠0 then
      (some ((none:Option T_convert_Converter),y54))
      else
      (m_convert_Load_L1 p15 j1 n y53 (W64 (y28+1)) p33.2 y55))) λj2=>
    if p44.2=0 then
    ((y30).bind λz62=>
     (m_convert_Converter_load z62 p44.1 y27).bind λp61=>
     j2 p61.1 p61.2.1 (some p61.2.2))
    else
    (j2 y27 p44.2 y30)))
  else
  (j1 y29 y30)
def m_convert_Load (x0:T_api_Config) (x1:(List UInt8)):Option ((Option T_convert_Converter)×Int):=
 (m_convert_New x0).bind λp6=>
 if ((p6).isNone)=true then
 (some ((none:Option T_convert_Converter),1))
 else
 ((m_pack_NewReader x1).bind λp12=>
  (m_pack_Reader_Count p12 x0.Series).bind λp15=>
  jn (λ(y19:T_pack_Reader) (y20:(Option T_convert_Converter))=>
   ((m_pack_Reader_Done y19).bind λp22=>
    if p22≠0 then
    (some ((none:Option T_convert_Converter),p22))
    else
    (some (y20,0)))) λj1=>
  m_convert_Load_L1 p15 j1 fuel ([]:List UInt8) 0 p15.2 p6)
def m_table_Table_convert_kept_Clone (x0:T_table_Table_convert_kept_):Option T_table_Table_convert_kept_:=
 some x0
def m_convert_Converter_Clone (x0:T_convert_Converter):Option T_convert_Converter:=
 (m_table_Table_convert_kept_Clone x0.states).bind λp7=>
 some (⟨x0.cfg,p7⟩:T_convert_Converter)
def m_limnographref11_Sorted_L2 (x0:(List T_api_Pair)) (y7:(List T_api_Pair)) (y10:Int) (j2:Int→Option (List T_api_Pair)):Nat→Int→Option (List T_api_Pair)
 | 0,_=>none
 | n+1,y33=>
  jn (λ(y35:Bool)=>
   (if y35=true then
    (m_limnographref11_Sorted_L2 x0 y7 y10 j2 n (W64 (y33-1)))
    else
    (j2 y33))) λj3=>
  if y33>0 then
  ((idx y7 (W64 (y33-1))).bind λz40=>
   (idx x0 y10).bind λz41=>
   j3 (Op.bytesLess z41.Key z40.Key))
  else
  (j3 false)
def m_limnographref11_Sorted_L1 (x0:(List T_api_Pair)) (j1:(List T_api_Pair)→Option (List T_api_Pair)):Nat→(List T_api_Pair)→Int→Option (List T_api_Pair)
 | 0,_,_=>none
 | n+1,y7,y10=>
  if y10<(x0.length:Int) then
  (jn (λ(y15:Int)=>
   ((cutL y7 0 y15).bind λz17=>
    (appL ([]:List T_api_Pair) z17).bind λz21=>
    (idx x0 y10).bind λz25=>
    (appL z21 [z25]).bind λz27=>
    (cutL y7 y15 ((y7).length)).bind λz29=>
    (appL z27 z29).bind λz31=>
    m_limnographref11_Sorted_L1 x0 j1 n z31 (W64 (y10+1)))) λj2=>
   m_limnographref11_Sorted_L2 x0 y7 y10 j2 fuel (y7.length:Int))
  else
  (j1 y7)
def m_limnographref11_Sorted (x0:(List T_api_Pair)):Option (List T_api_Pair):=
 jn (λ(y3:(List T_api_Pair))=>
  (some y3)) λj1=>
 m_limnographref11_Sorted_L1 x0 j1 fuel ([]:List T_api_Pair) 0
def m_limnographref11_Same_L1 (x0:(List T_api_Pair)) (x1:(List T_api_Pair)) (j1:Unit→Option Bool):Nat→Int→Option Bool
 | 0,_=>none
 | n+1,y7=>
  if y7<(x0.length:Int) then
  ((idx x0 y7).bind λz11=>
   (idx x1 y7).bind λz14=>
   if ¬(z11=z14) then
   (some false)
   else
   (m_limnographref11_Same_L1 x0 x1 j1 n (W64 (y7+1))))
  else
  (j1 ())
def m_limnographref11_Same (x0:(List T_api_Pair)) (x1:(List T_api_Pair)):Option Bool:=
 if (x0.length:Int)≠(x1.length:Int) then
 (some false)
 else
 (jn (λ(_:Unit)=>
  (some true)) λj1=>
  m_limnographref11_Same_L1 x0 x1 j1 fuel 0)
def m_limnographref08_SameSide_L1 (x0:T_api_Side) (x1:T_api_Side) (j1:Unit→Option Bool):Nat→Int→Option Bool
 | 0,_=>none
 | n+1,y17=>
  if y17<(x0.Counts.length:Int) then
  ((idx x0.Counts y17).bind λz21=>
   (idx x1.Counts y17).bind λz24=>
   if ((z21).toNat:Int)≠((z24).toNat:Int) then
   (some false)
   else
   (m_limnographref08_SameSide_L1 x0 x1 j1 n (W64 (y17+1))))
  else
  (j1 ())
def m_limnographref08_SameSide (x0:T_api_Side) (x1:T_api_Side):Option Bool:=
 if (x0.Offset≠x1.Offset)∨((x0.Counts.length:Int)≠(x1.Counts.length:Int)) then
 (some false)
 else
 (jn (λ(_:Unit)=>
  (some true)) λj1=>
  m_limnographref08_SameSide_L1 x0 x1 j1 fuel 0)
def m_limnographref08_Same (x0:T_api_Hist) (x1:T_api_Hist):Option Bool:=
 jn (λ(y21:Bool)=>
  (jn (λ(y23:Bool)=>
   (some y23)) λj2=>
   if y21=true then
   ((m_limnographref08_SameSide x0.Neg x1.Neg).bind λp26=>
    j2 p26)
   else
   (j2 false))) λj1=>
 if (x0.Scale=x1.Scale)∧(((x0.Zero).toNat:Int)=((x1.Zero).toNat:Int)) then
 ((m_limnographref08_SameSide x0.Pos x1.Pos).bind λp29=>
  j1 p29)
 else
 (j1 false)
def m_limnographref12_Same (x0:T_api_Point) (x1:T_api_Point):Option Bool:=
 jn (λ(y25:Bool)=>
  (if y25=true then
   (some false)
   else
   (if ((((x0.Kind≠x1.Kind)∨(x0.Temp≠x1.Temp))∨(x0.Mono≠x1.Mono))∨(x0.Start≠x1.Start))∨(x0.Time≠x1.Time) then
    (some false)
    else
    (jn (λ(y43:Bool)=>
     (some y43)) λj2=>
     if (((x0.Int_=x1.Int_)∧(((x0.Re).toNat:Int)=((x1.Re).toNat:Int)))∧(((x0.Im).toNat:Int)=((x1.Im).toNat:Int)))∧(x0.Flags=x1.Flags) then
     ((m_limnographref08_Same x0.Hist x1.Hist).bind λp46=>
      j2 p46)
     else
     (j2 false))))) λj1=>
 if x0.Name≠x1.Name then
 (j1 true)
 else
 ((m_limnographref11_Sorted x0.Attrs).bind λp50=>
  (m_limnographref11_Sorted x1.Attrs).bind λp53=>
  (m_limnographref11_Same p50 p53).bind λp56=>
  j1 (!p56))
def m_limnographlaw17_ConvertGoes_L1 (x1:(List T_api_Point)) (j4:T_convert_Converter→Option Bool):Nat→Int→T_convert_Converter→Option Bool
 | 0,_,_=>none
 | n+1,y87,y88=>
  if y87<(x1.length:Int) then
  ((idx x1 y87).bind λz91=>
   (m_convert_Converter_Take y88 z91).bind λp100=>
   m_limnographlaw17_ConvertGoes_L1 x1 j4 n (W64 (y87+1)) p100.2.2)
  else
  (j4 y88)
def m_limnographlaw17_ConvertGoes_L2 (x1:(List T_api_Point)) (j2:T_convert_Converter→(Option T_convert_Converter)→Option Bool):Nat→Int→T_convert_Converter→(Option T_convert_Converter)→Option Bool
 | 0,_,_,_=>none
 | n+1,y160,y161,y162=>
  if y160<(x1.length:Int) then
  ((idx x1 y160).bind λz165=>
   (m_convert_Converter_Take y161 z165).bind λp174=>
   (idx x1 y160).bind λz186=>
   (y162).bind λz196=>
   (m_convert_Converter_Take z196 z186).bind λp195=>
   (m_limnographref12_Same p174.1 p195.1).bind λp209=>
   if ((!p209)=true)∨(p174.2.1≠p195.2.1) then
   (some false)
   else
   (m_limnographlaw17_ConvertGoes_L2 x1 j2 n (W64 (y160+1)) p174.2.2 (some p195.2.2)))
  else
  (j2 y161 y162)
def m_limnographlaw17_ConvertGoes_L3 (x1:(List T_api_Point)) (x2:Int) (j1:(Option T_convert_Converter)→Option Bool):Nat→Int→(Option T_convert_Converter)→Option Bool
 | 0,_,_=>none
 | n+1,y215,y216=>
  if y215<min (max x2 0) (x1.length:Int) then
  ((idx x1 y215).bind λz219=>
   (y216).bind λz229=>
   (m_convert_Converter_Take z229 z219).bind λp228=>
   m_limnographlaw17_ConvertGoes_L3 x1 x2 j1 n (W64 (y215+1)) (some p228.2.2))
  else
  (j1 y216)
def m_limnographlaw17_ConvertGoes (x0:T_api_Config) (x1:(List T_api_Point)) (x2:Int):Option Bool:=
 (m_limnographlaw17_awake).bind λp6=>
 if (!p6)=true then
 (some false)
 else
 ((m_limnographref12_Some x1 20).bind λp9=>
  if (!p9)=true then
  (some true)
  else
  ((m_convert_New x0).bind λp12=>
   if ((p12).isNone)=true then
   ((m_limnographref17_Good x0).bind λp16=>
    some (!p16))
   else
   (jn (λ(y18:(Option T_convert_Converter))=>
    ((y18).bind λz21=>
     (m_convert_Converter_Save z21).bind λp20=>
     (m_convert_Load x0 p20).bind λp27=>
     (m_convert_Converter_Clone z21).bind λp32=>
     if (((p27.1).isNone)=true)∨(p27.2≠0) then
     (some false)
     else
     (jn (λ(y41:T_convert_Converter) (y42:(Option T_convert_Converter))=>
      (jn (λ(y47:Bool)=>
       (if y47=true then
        (some false)
        else
        (jn (λ(y52:T_convert_Converter)=>
         ((m_convert_Converter_Save y52).bind λp57=>
          (m_convert_Converter_Save y41).bind λp62=>
          some (decide (p57=p62)))) λj4=>
         m_limnographlaw17_ConvertGoes_L1 x1 j4 fuel (min (max x2 0) (x1.length:Int)) p32))) λj3=>
       (m_convert_Converter_Save p32).bind λp114=>
       if p114≠p20 then
       (j3 true)
       else
       ((m_convert_Converter_Save y41).bind λp122=>
        (y42).bind λz128=>
        (m_convert_Converter_Save z128).bind λp127=>
        j3 (decide (p122≠p127))))) λj2=>
      m_limnographlaw17_ConvertGoes_L2 x1 j2 fuel (min (max x2 0) (x1.length:Int)) z21 p27.1))) λj1=>
    m_limnographlaw17_ConvertGoes_L3 x1 x2 j1 fuel 0 p12)))
end Go.Proofs.YtaikmpmokihciaaGreat
namespace Go.Proofs.YtaikmpmokihciaaGreat
open Go Go.RowKit Go.Wk
set_option maxRecDepth 20000 in
theorem m_label_isName_L1_scan (z6:(List UInt8)) (j2:Unit→Option Bool) (hE:z6.length<4611686018427387904) :
 m_label_isName_L1 z6 j2 fuel 0=scanL z6 ()
 (λii xx ss kk=>
 (some xx).bind λz12=>
 (m_label_small z12).bind λp14=>
 if ((((!p14)=true)∧((((z12).toNat:Int)<48)∨(((z12).toNat:Int)>57)))∧(((z12).toNat:Int)≠95))∧(((z12).toNat:Int)≠46) then
 (some false)
 else
 (kk ()))
 (λss=>
 j2 ()):=scanQ hE (λnn (ss:Unit) (yy:Int)=>m_label_isName_L1 z6 j2 nn yy) ()
set_option maxRecDepth 20000 in
theorem m_label_isValue_L1_scan (z4:(List UInt8)) (j1:Unit→Option Bool) (hE:z4.length<4611686018427387904) :
 m_label_isValue_L1 z4 j1 fuel 0=scanL z4 ()
 (λii xx ss kk=>
 (some xx).bind λz10=>
 jn (λ(y12:Bool)=>
  (if y12=true then
   (some false)
   else
   (kk ()))) λj2=>
 if ((z10).toNat:Int)<33 then
 (j2 (decide (((z10).toNat:Int)<33)))
 else
 (if ((z10).toNat:Int)>126 then
  (j2 (decide (((z10).toNat:Int)>126)))
  else
  (if ((z10).toNat:Int)=61 then
   (j2 (decide (((z10).toNat:Int)=61)))
   else
   (if ((z10).toNat:Int)=59 then
    (j2 (decide (((z10).toNat:Int)=59)))
    else
    (j2 (decide (((z10).toNat:Int)=44)))))))
 (λss=>
 j1 ()):=scanQ hE (λnn (ss:Unit) (yy:Int)=>m_label_isValue_L1 z4 j1 nn yy) ()
set_option maxRecDepth 20000 in
theorem m_slices_IndexFunc_api_Pair_api_Pair_s1_L1_scan (x0:(List T_api_Pair)) (x1_0:T_api_Pair) (j1:Unit→Option Int) (hE:x0.length<4611686018427387904) :
 m_slices_IndexFunc_api_Pair_api_Pair_s1_L1 x0 x1_0 j1 fuel 0=scanL x0 ()
 (λii xx ss kk=>
 (some xx).bind λz9=>
 (m_label_Check_1 z9 x1_0).bind λp11=>
 if p11=true then
 (some (ii:Int))
 else
 (kk ()))
 (λss=>
 j1 ()):=scanQ hE (λnn (ss:Unit) (yy:Int)=>m_slices_IndexFunc_api_Pair_api_Pair_s1_L1 x0 x1_0 j1 nn yy) ()
set_option maxRecDepth 20000 in
theorem m_label_Check_L1_scan (x1:(List T_api_Pair)) (j1:Unit→Option Int) (hE:x1.length<4611686018427387904) :
 m_label_Check_L1 x1 j1 fuel 0=scanL x1 ()
 (λii xx ss kk=>
 (some xx).bind λz11=>
 (m_label_isName z11.Key).bind λp18=>
 jn (λ(y20:Bool)=>
  (if y20=true then
   (some 3)
   else
   ((cutL x1 0 (ii:Int)).bind λz23=>
    (m_slices_ContainsFunc_api_Pair_api_Pair_s2 z23 z11).bind λp25=>
    if p25=true then
    (some 8)
    else
    (kk ())))) λj2=>
 if (!p18)=true then
 (j2 true)
 else
 ((m_label_isValue z11.Val).bind λp29=>
  j2 (!p29)))
 (λss=>
 j1 ()):=scanQ hE (λnn (ss:Unit) (yy:Int)=>m_label_Check_L1 x1 j1 nn yy) ()
set_option maxRecDepth 20000 in
theorem m_hist_Total_L2_scan (z23:T_api_Side) (j2:UInt64→UInt64→Option (UInt64×Bool)) (y32:UInt64) (y33:UInt64) (hE:z23.Counts.length<4611686018427387904) :
 m_hist_Total_L2 z23 j2 fuel y32 y33 0=scanL z23.Counts (y32,y33)
 (λii xx ss kk=>
 (some xx).bind λz37=>
 kk ((ss.1+z37),(ss.2|||(cry ss.1 z37))))
 (λss=>
 j2 ss.1 ss.2):=scanQ hE (λnn (ss:(UInt64)×(UInt64)) (yy:Int)=>m_hist_Total_L2 z23 j2 nn ss.1 ss.2 yy) (y32,y33)
set_option maxRecDepth 20000 in
theorem m_label_Text_L1_scan (p13:(List T_api_Pair)) (j1:(List UInt8)→Option ((List UInt8)×Int)) (y23:(List UInt8)) (hE:p13.length<4611686018427387904) :
 m_label_Text_L1 p13 j1 fuel 0 y23=scanL p13 y23
 (λii xx ss kk=>
 (some xx).bind λz27=>
 (catS ([59]:List UInt8) z27.Key).bind λz31=>
 (catS z31 ([61]:List UInt8)).bind λz32=>
 (catS z32 z27.Val).bind λz33=>
 (appL ss z33).bind λz34=>
 kk z34)
 (λss=>
 j1 ss):=scanQ hE (λnn (ss:((List UInt8))) (yy:Int)=>m_label_Text_L1 p13 j1 nn yy ss) y23
set_option maxRecDepth 20000 in
theorem m_todelta_finite_L1_scan (x0:(List UInt64)) (j1:Unit→Option Bool) (hE:x0.length<4611686018427387904) :
 m_todelta_finite_L1 x0 j1 fuel 0=scanL x0 ()
 (λii xx ss kk=>
 (some xx).bind λz7=>
 (m_num_Finite z7).bind λp9=>
 if (!p9)=true then
 (some false)
 else
 (kk ()))
 (λss=>
 j1 ()):=scanQ hE (λnn (ss:Unit) (yy:Int)=>m_todelta_finite_L1 x0 j1 nn yy) ()
set_option maxRecDepth 20000 in
theorem m_fold_left_L1_scan (x0:T_api_Side) (x1:T_api_Side) (j2:T_api_Side→Option (T_api_Side×Bool)) (y30:T_api_Side) (hE:x0.Counts.length<4611686018427387904) :
 m_fold_left_L1 x0 x1 j2 fuel 0 y30=scanL x0.Counts y30
 (λii xx ss kk=>
 (some xx).bind λz37=>
 (m_hist_At x1 (W64 (x0.Offset+(ii:Int)))).bind λp40=>
 (appL ss.Counts ([z37-p40]:List UInt64)).bind λz45=>
 kk (⟨ss.Offset,z45⟩:T_api_Side))
 (λss=>
 j2 ss):=scanQ hE (λnn (ss:(T_api_Side)) (yy:Int)=>m_fold_left_L1 x0 x1 j2 nn yy ss) y30
set_option maxRecDepth 20000 in
theorem m_fold_left_L2_scan (x0:T_api_Side) (x1:T_api_Side) (j1:Unit→Option (T_api_Side×Bool)) (hE:x1.Counts.length<4611686018427387904) :
 m_fold_left_L2 x0 x1 j1 fuel 0=scanL x1.Counts ()
 (λii xx ss kk=>
 (some xx).bind λz52=>
 (m_hist_At x0 (W64 (x1.Offset+(ii:Int)))).bind λp54=>
 if ((z52).toNat:Int)>((p54).toNat:Int) then
 (some ((⟨0,([]:List UInt64)⟩:T_api_Side),false))
 else
 (kk ()))
 (λss=>
 j1 ()):=scanQ hE (λnn (ss:Unit) (yy:Int)=>m_fold_left_L2 x0 x1 j1 nn yy) ()
set_option maxRecDepth 20000 in
theorem m_fold_Merge_L1_scan (p22:(T_api_Hist×T_api_Hist×Int)) (p106:(Int×Int)) (y120:T_api_Hist) (j5:T_api_Hist→Option (T_api_Hist×Int)) (y133:T_api_Hist) (hE:y120.Neg.Counts.length<4611686018427387904) :
 m_fold_Merge_L1 p22 p106 y120 j5 fuel 0 y133=scanL y120.Neg.Counts y133
 (λii xx ss kk=>
 (m_hist_At p22.1.Neg (W64 (p106.1+(ii:Int)))).bind λp141=>
 (m_hist_At p22.2.1.Neg (W64 (p106.1+(ii:Int)))).bind λp143=>
 (idx ss.Neg.Counts (ii:Int)).bind λz145=>
 kk (⟨ss.Scale,ss.Zero,ss.Pos,(⟨ss.Neg.Offset,(setI ss.Neg.Counts (ii:Int) (p141+p143))⟩:T_api_Side)⟩:T_api_Hist))
 (λss=>
 j5 ss):=scanQ hE (λnn (ss:(T_api_Hist)) (yy:Int)=>m_fold_Merge_L1 p22 p106 y120 j5 nn yy ss) y133
set_option maxRecDepth 20000 in
theorem m_fold_Merge_L2_scan (p22:(T_api_Hist×T_api_Hist×Int)) (p186:(Int×Int)) (y204:T_api_Hist) (j7:T_api_Hist→Option (T_api_Hist×Int)) (y217:T_api_Hist) (hE:y204.Pos.Counts.length<4611686018427387904) :
 m_fold_Merge_L2 p22 p186 y204 j7 fuel 0 y217=scanL y204.Pos.Counts y217
 (λii xx ss kk=>
 (m_hist_At p22.1.Pos (W64 (p186.1+(ii:Int)))).bind λp225=>
 (m_hist_At p22.2.1.Pos (W64 (p186.1+(ii:Int)))).bind λp227=>
 (idx ss.Pos.Counts (ii:Int)).bind λz229=>
 kk (⟨ss.Scale,ss.Zero,(⟨ss.Pos.Offset,(setI ss.Pos.Counts (ii:Int) (p225+p227))⟩:T_api_Side),ss.Neg⟩:T_api_Hist))
 (λss=>
 j7 ss):=scanQ hE (λnn (ss:(T_api_Hist)) (yy:Int)=>m_fold_Merge_L2 p22 p186 y204 j7 nn yy ss) y217
set_option maxRecDepth 20000 in
theorem m_tocum_finite_L1_scan (x0:(List UInt64)) (j1:Unit→Option Bool) (hE:x0.length<4611686018427387904) :
 m_tocum_finite_L1 x0 j1 fuel 0=scanL x0 ()
 (λii xx ss kk=>
 (some xx).bind λz7=>
 (m_num_Finite z7).bind λp9=>
 if (!p9)=true then
 (some false)
 else
 (kk ()))
 (λss=>
 j1 ()):=scanQ hE (λnn (ss:Unit) (yy:Int)=>m_tocum_finite_L1 x0 j1 nn yy) ()
set_option maxRecDepth 20000 in
theorem m_limnographref11_Light_L1_scan (x0:(List T_api_Pair)) (j1:Unit→Option Bool) (hE:x0.length<4611686018427387904) :
 m_limnographref11_Light_L1 x0 j1 fuel 0=scanL x0 ()
 (λii xx ss kk=>
 (some xx).bind λz8=>
 jn (λ(y10:Bool)=>
  (if y10=true then
   (some false)
   else
   (kk ()))) λj2=>
 if (z8.Key.length:Int)>100 then
 (j2 true)
 else
 ((some xx).bind λz14=>
  j2 (decide ((z14.Val.length:Int)>100))))
 (λss=>
 j1 ()):=scanQ hE (λnn (ss:Unit) (yy:Int)=>m_limnographref11_Light_L1 x0 j1 nn yy) ()
set_option maxRecDepth 20000 in
theorem m_limnographref12_Some_L1_scan (x0:(List T_api_Point)) (j1:Unit→Option Bool) (hE:x0.length<4611686018427387904) :
 m_limnographref12_Some_L1 x0 j1 fuel 0=scanL x0 ()
 (λii xx ss kk=>
 (some xx).bind λz8=>
 (m_limnographref12_Light z8).bind λp17=>
 if (!p17)=true then
 (some false)
 else
 (kk ()))
 (λss=>
 j1 ()):=scanQ hE (λnn (ss:Unit) (yy:Int)=>m_limnographref12_Some_L1 x0 j1 nn yy) ()
set_option maxRecDepth 20000 in
theorem m_point_side_L1_scan (x1:T_api_Side) (j2:T_pack_Writer→Option T_pack_Writer) (y18:T_pack_Writer) (hE:x1.Counts.length<4611686018427387904) :
 m_point_side_L1 x1 j2 fuel 0 y18=scanL x1.Counts y18
 (λii xx ss kk=>
 (some xx).bind λz21=>
 (m_pack_Writer_Num ss z21).bind λp23=>
 kk p23)
 (λss=>
 j2 ss):=scanQ hE (λnn (ss:(T_pack_Writer)) (yy:Int)=>m_point_side_L1 x1 j2 nn yy ss) y18
set_option maxRecDepth 20000 in
theorem m_convert_Converter_Save_L1_scan (x0:T_convert_Converter) (p13:(List (List UInt8))) (j1:T_pack_Writer→Option (List UInt8)) (y26:T_pack_Writer) (hE:p13.length<4611686018427387904) :
 m_convert_Converter_Save_L1 x0 p13 j1 fuel 0 y26=scanL p13 y26
 (λii xx ss kk=>
 (some xx).bind λz29=>
 (m_table_Table_convert_kept_Get x0.states z29).bind λp32=>
 (m_convert_kept_asPoint p32.1).bind λp44=>
 (m_point_Bytes p44).bind λp49=>
 (m_pack_Writer_Text ss p49.1).bind λp52=>
 kk p52)
 (λss=>
 j1 ss):=scanQ hE (λnn (ss:(T_pack_Writer)) (yy:Int)=>m_convert_Converter_Save_L1 x0 p13 j1 nn yy ss) y26
set_option maxRecDepth 20000 in
theorem m_label_follows_L1_scan (x0:(List T_api_Pair)) (x1:(List UInt8)) (j1:Unit→Option Int) (hE:x0.length<4611686018427387904) :
 m_label_follows_L1 x0 x1 j1 fuel 0=scanL x0 ()
 (λii xx ss kk=>
 (some xx).bind λz10=>
 if z10.Key=x1 then
 (some 8)
 else
 (kk ()))
 (λss=>
 j1 ()):=scanQ hE (λnn (ss:Unit) (yy:Int)=>m_label_follows_L1 x0 x1 j1 nn yy) ()
set_option maxRecDepth 20000 in
theorem m_slices_Equal_uint64_uint64_L1_scan (x0:(List UInt64)) (x1:(List UInt64)) (j1:Unit→Option Bool) (hE:x0.length<4611686018427387904) :
 m_slices_Equal_uint64_uint64_L1 x0 x1 j1 fuel 0=scanL x0 ()
 (λii xx ss kk=>
 (some xx).bind λz11=>
 (idx x1 (ii:Int)).bind λz14=>
 if ((z11).toNat:Int)≠((z14).toNat:Int) then
 (some false)
 else
 (kk ()))
 (λss=>
 j1 ()):=scanQ hE (λnn (ss:Unit) (yy:Int)=>m_slices_Equal_uint64_uint64_L1 x0 x1 j1 nn yy) ()
set_option maxRecDepth 20000 in
theorem m_limnographref11_Sorted_L1_scan (x0:(List T_api_Pair)) (j1:(List T_api_Pair)→Option (List T_api_Pair)) (y7:(List T_api_Pair)) (hE:x0.length<4611686018427387904) :
 m_limnographref11_Sorted_L1 x0 j1 fuel y7 0=scanL x0 y7
 (λii xx ss kk=>
 jn (λ(y15:Int)=>
  ((cutL ss 0 y15).bind λz17=>
   (appL ([]:List T_api_Pair) z17).bind λz21=>
   (some xx).bind λz25=>
   (appL z21 [z25]).bind λz27=>
   (cutL ss y15 ((ss).length)).bind λz29=>
   (appL z27 z29).bind λz31=>
   kk z31)) λj2=>
 m_limnographref11_Sorted_L2 x0 ss (ii:Int) j2 fuel (ss.length:Int))
 (λss=>
 j1 ss):=scanQ hE (λnn (ss:((List T_api_Pair))) (yy:Int)=>m_limnographref11_Sorted_L1 x0 j1 nn ss yy) y7
set_option maxRecDepth 20000 in
theorem m_limnographref11_Same_L1_scan (x0:(List T_api_Pair)) (x1:(List T_api_Pair)) (j1:Unit→Option Bool) (hE:x0.length<4611686018427387904) :
 m_limnographref11_Same_L1 x0 x1 j1 fuel 0=scanL x0 ()
 (λii xx ss kk=>
 (some xx).bind λz11=>
 (idx x1 (ii:Int)).bind λz14=>
 if ¬(z11=z14) then
 (some false)
 else
 (kk ()))
 (λss=>
 j1 ()):=scanQ hE (λnn (ss:Unit) (yy:Int)=>m_limnographref11_Same_L1 x0 x1 j1 nn yy) ()
set_option maxRecDepth 20000 in
theorem m_limnographref08_SameSide_L1_scan (x0:T_api_Side) (x1:T_api_Side) (j1:Unit→Option Bool) (hE:x0.Counts.length<4611686018427387904) :
 m_limnographref08_SameSide_L1 x0 x1 j1 fuel 0=scanL x0.Counts ()
 (λii xx ss kk=>
 (some xx).bind λz21=>
 (idx x1.Counts (ii:Int)).bind λz24=>
 if ((z21).toNat:Int)≠((z24).toNat:Int) then
 (some false)
 else
 (kk ()))
 (λss=>
 j1 ()):=scanQ hE (λnn (ss:Unit) (yy:Int)=>m_limnographref08_SameSide_L1 x0 x1 j1 nn yy) ()
end Go.Proofs.YtaikmpmokihciaaGreat
