import Derived.Test.YtffboddbdpagkaaGreatDoorVN2
set_option linter.unusedVariables false
set_option linter.unusedSimpArgs false
namespace Go.Proofs.YtffboddbdpagkaaGreatDoor
open Go Go.RowKit Go.Wk
structure T_api_Side where
 Offset:Int
 Counts:(List UInt64)
 deriving DecidableEq
def T_api_Side.rep:Rep T_api_Side:=Rep.map (λx=>(x.Offset,x.Counts)) (Rep.two (intR .i64) (Rep.sl w64R))
structure T_api_Hist where
 Scale:Int
 Zero:UInt64
 Pos:T_api_Side
 Neg:T_api_Side
 deriving DecidableEq
def T_api_Hist.rep:Rep T_api_Hist:=Rep.map (λx=>(x.Scale,(x.Zero,(x.Pos,x.Neg)))) (Rep.two (intR .i64) (Rep.two w64R (Rep.two T_api_Side.rep T_api_Side.rep)))
structure T_arr2_api_Side where
 a0:T_api_Side
 a1:T_api_Side
 deriving DecidableEq
structure T_api_Bucket where
 Side:Int
 Index:Int
 deriving DecidableEq
def T_api_Bucket.rep:Rep T_api_Bucket:=Rep.map (λx=>(x.Side,x.Index)) (Rep.two (intR .i64) (intR .i64))
theorem T_api_Bucket.flat:T_api_Bucket.rep.Flat:=map_flat _ (two_flat (int_flat _) (int_flat _))
structure T_api_Pair where
 Key:(List UInt8)
 Val:(List UInt8)
 deriving DecidableEq
def T_api_Pair.rep:Rep T_api_Pair:=Rep.map (λx=>(x.Key,x.Val)) (Rep.two textR textR)
theorem T_api_Pair.flat:T_api_Pair.rep.Flat:=map_flat _ (two_flat text_flat text_flat)
structure T_api_Point where
 Name:(List UInt8)
 Attrs:(List T_api_Pair)
 Kind:Int
 Temp:Int
 Mono:Bool
 Start:Int
 Time:Int
 Int_:Int
 Re:UInt64
 Im:UInt64
 Hist:T_api_Hist
 Flags:Int
 deriving DecidableEq
def T_api_Point.rep:Rep T_api_Point:=Rep.map (λx=>(x.Name,(x.Attrs,(x.Kind,(x.Temp,(x.Mono,(x.Start,(x.Time,(x.Int_,(x.Re,(x.Im,(x.Hist,x.Flags)))))))))))) (Rep.two textR (Rep.two (Rep.sl T_api_Pair.rep) (Rep.two (intR .i64) (Rep.two (intR .i64) (Rep.two boolR (Rep.two (intR .i64) (Rep.two (intR .i64) (Rep.two (intR .i64) (Rep.two w64R (Rep.two w64R (Rep.two T_api_Hist.rep (intR .i64))))))))))))
structure T_api_Match where
 Key:(List UInt8)
 Glob:(List UInt8)
 Not:Bool
 deriving DecidableEq
def T_api_Match.rep:Rep T_api_Match:=Rep.map (λx=>(x.Key,(x.Glob,x.Not))) (Rep.two textR (Rep.two textR boolR))
structure T_api_Query where
 Match:(List T_api_Match)
 From:Int
 To:Int
 deriving DecidableEq
def T_api_Query.rep:Rep T_api_Query:=Rep.map (λx=>(x.Match,(x.From,x.To))) (Rep.two (Rep.sl T_api_Match.rep) (Rep.two (intR .i64) (intR .i64)))
structure T_index_Index where
 keys:(List (List UInt8))
 rows:(Ko T_api_Pair Int)
 deriving DecidableEq
structure T_glob_set where
 a0:UInt64
 a1:UInt64
 a2:UInt64
 a3:UInt64
 deriving DecidableEq
def T_glob_set.rep:Rep T_glob_set:=Rep.map (λx=>(x.a0,(x.a1,(x.a2,x.a3)))) (Rep.two w64R (Rep.two w64R (Rep.two w64R w64R)))
structure T_glob_piece where
 kind:Int
 set:T_glob_set
 plain:Bool
 c:UInt8
 deriving DecidableEq
def T_glob_piece.rep:Rep T_glob_piece:=Rep.map (λx=>(x.kind,(x.set,(x.plain,x.c)))) (Rep.two (intR .i64) (Rep.two T_glob_set.rep (Rep.two boolR byteR)))
structure T_glob_fault where
 at_:Int
 e:Int
 deriving DecidableEq
structure T_glob_Glob where
 text:(List UInt8)
 pieces:(List T_glob_piece)
 deriving DecidableEq
structure T_api_Row where
 Key:(List UInt8)
 Count:Int
 First:Int
 Last:Int
 Value:T_api_Point
 deriving DecidableEq
def T_api_Row.rep:Rep T_api_Row:=Rep.map (λx=>(x.Key,(x.Count,(x.First,(x.Last,x.Value))))) (Rep.two textR (Rep.two (intR .i64) (Rep.two (intR .i64) (Rep.two (intR .i64) T_api_Point.rep))))
structure T_query_row where
 Row:T_api_Row
 some:Bool
 deriving DecidableEq
structure T_limnographref37_Step where
 B:T_api_Bucket
 N:UInt64
 deriving DecidableEq
def T_limnographref37_Step.rep:Rep T_limnographref37_Step:=Rep.map (λx=>(x.B,x.N)) (Rep.two T_api_Bucket.rep w64R)
theorem T_limnographref37_Step.flat:T_limnographref37_Step.rep.Flat:=map_flat _ (two_flat T_api_Bucket.flat w64_flat)
def kv113:T_api_Pair→Value:=λp=>.agg [Str (p.Key),Str (p.Val)].toArray
def T_index_Index.sh (b:Nat) (x:T_index_Index):List Rs→Prop:=λL=>∃ (A1_0:Option Addr) (c1_0:Nat) (F1_1:(Nat→Prop)) (m1_1:Nat),L=[boxR b 109 [.slice A1_0 (x.keys).length c1_0,.map (some m1_1)],ownR 9 A1_0 c1_0 textR x.keys,mapO F1_1 kv113 3 (intR .i64) m1_1 x.rows]
def T_index_Index.obj (F:Nat→Prop) (b:Nat) (x:T_index_Index):Rs:=objR F (T_index_Index.sh b x)
def T_glob_Glob.sh (b:Nat) (x:T_glob_Glob):List Rs→Prop:=λL=>∃ (A1_0:Option Addr) (c1_0:Nat),L=[boxR b 153 [Str (x.text),.slice A1_0 (x.pieces).length c1_0],ownR 157 A1_0 c1_0 T_glob_piece.rep x.pieces]
def T_glob_Glob.obj (F:Nat→Prop) (b:Nat) (x:T_glob_Glob):Rs:=objR F (T_glob_Glob.sh b x)
def T_query_row.sh (b:Nat) (x:T_query_row):List Rs→Prop:=λL=>∃ (A1_0:Option Addr) (c1_0:Nat) (A1_1:Option Addr) (c1_1:Nat) (A1_2:Option Addr) (c1_2:Nat),L=[boxR b 80 [Str (x.Row.Key),iv x.Row.Count,iv x.Row.First,iv x.Row.Last,Str (x.Row.Value.Name),.slice A1_0 (x.Row.Value.Attrs).length c1_0,iv x.Row.Value.Kind,iv x.Row.Value.Temp,.bool (x.Row.Value.Mono),iv x.Row.Value.Start,iv x.Row.Value.Time,iv x.Row.Value.Int_,u64v x.Row.Value.Re,u64v x.Row.Value.Im,iv x.Row.Value.Hist.Scale,u64v x.Row.Value.Hist.Zero,iv x.Row.Value.Hist.Pos.Offset,.slice A1_1 (x.Row.Value.Hist.Pos.Counts).length c1_1,iv x.Row.Value.Hist.Neg.Offset,.slice A1_2 (x.Row.Value.Hist.Neg.Counts).length c1_2,iv x.Row.Value.Flags,.bool (x.some)],slR A1_0 c1_0 T_api_Pair.rep x.Row.Value.Attrs,slR A1_1 c1_1 w64R x.Row.Value.Hist.Pos.Counts,slR A1_2 c1_2 w64R x.Row.Value.Hist.Neg.Counts]
def T_query_row.obj (F:Nat→Prop) (b:Nat) (x:T_query_row):Rs:=objR F (T_query_row.sh b x)
def T_api_Point.sh (b:Nat) (x:T_api_Point):List Rs→Prop:=λL=>∃ (A1_0:Option Addr) (c1_0:Nat) (A1_1:Option Addr) (c1_1:Nat) (A1_2:Option Addr) (c1_2:Nat),L=[boxR b 65 [Str (x.Name),.slice A1_0 (x.Attrs).length c1_0,iv x.Kind,iv x.Temp,.bool (x.Mono),iv x.Start,iv x.Time,iv x.Int_,u64v x.Re,u64v x.Im,iv x.Hist.Scale,u64v x.Hist.Zero,iv x.Hist.Pos.Offset,.slice A1_1 (x.Hist.Pos.Counts).length c1_1,iv x.Hist.Neg.Offset,.slice A1_2 (x.Hist.Neg.Counts).length c1_2,iv x.Flags],ownR 113 A1_0 c1_0 T_api_Pair.rep x.Attrs,slR A1_1 c1_1 w64R x.Hist.Pos.Counts,slR A1_2 c1_2 w64R x.Hist.Neg.Counts]
def T_api_Point.obj (F:Nat→Prop) (b:Nat) (x:T_api_Point):Rs:=objR F (T_api_Point.sh b x)
def T_api_Bucket.sh (b:Nat) (x:T_api_Bucket):List Rs→Prop:=λL=>L=[boxR b 47 [iv x.Side,iv x.Index]]
def T_api_Bucket.obj (F:Nat→Prop) (b:Nat) (x:T_api_Bucket):Rs:=objR F (T_api_Bucket.sh b x)
def m_hist_sides (x0:T_api_Hist):Option T_arr2_api_Side:=
 some (⟨x0.Pos,x0.Neg⟩:T_arr2_api_Side)
def m_hist_Total_L2 (z23:T_api_Side) (j2:UInt64→UInt64→Option (UInt64×Bool)):Nat→UInt64→UInt64→Int→Option (UInt64×Bool)
 | 0,_,_,_=>none
 | n+1,y32,y33,y34=>
  if y34<(z23.Counts.length:Int) then
  ((idx z23.Counts y34).bind λz37=>
   m_hist_Total_L2 z23 j2 n (y32+z37) (y33|||(cry y32 z37)) (W64 (y34+1)))
  else
  (j2 y32 y33)
def m_hist_Total_L1 (p10:T_arr2_api_Side) (j1:UInt64→UInt64→Option (UInt64×Bool)):Nat→UInt64→UInt64→Int→Option (UInt64×Bool)
 | 0,_,_,_=>none
 | n+1,y18,y19,y20=>
  if y20<2 then
  ((idx ([p10.a0,p10.a1]:List T_api_Side) y20).bind λz23=>
   jn (λ(y29:UInt64) (y30:UInt64)=>
    (m_hist_Total_L1 p10 j1 n y29 y30 (W64 (y20+1)))) λj2=>
   m_hist_Total_L2 z23 j2 fuel y18 y19 0)
  else
  (j1 y18 y19)
def m_hist_Total (x0:T_api_Hist):Option (UInt64×Bool):=
 (m_hist_sides x0).bind λp10=>
 jn (λ(y14:UInt64) (y15:UInt64)=>
  (if ((y15).toNat:Int)≠0 then
   (some ((0:UInt64),false))
   else
   (some (y14,true)))) λj1=>
 m_hist_Total_L1 p10 j1 fuel x0.Zero (0:UInt64) 0
def m_hist_check (x0:T_api_Side):Option Int:=
 if (x0.Counts.length:Int)>160 then
 (some 4)
 else
 (if ((x0.Counts.length:Int)=0)∧(x0.Offset≠0) then
  (some 3)
  else
  (if (x0.Counts.length:Int)=0 then
   (some 0)
   else
   ((idx x0.Counts 0).bind λz12=>
    jn (λ(y14:Bool)=>
     (if y14=true then
      (some 3)
      else
      (jn (λ(y17:Bool)=>
       (if y17=true then
        (some 1)
        else
        (some 0))) λj2=>
       if x0.Offset<(-1073741824) then
       (j2 true)
       else
       (j2 (decide (x0.Offset>W64 (1073741824-(W64 ((x0.Counts.length:Int)-1))))))))) λj1=>
    if ((z12).toNat:Int)=0 then
    (j1 true)
    else
    ((idx x0.Counts (W64 ((x0.Counts.length:Int)-1))).bind λz22=>
     j1 (decide (((z22).toNat:Int)=0))))))
def m_hist_Check_L1 (p13:T_arr2_api_Side) (j1:Unit→Option Int):Nat→Int→Option Int
 | 0,_=>none
 | n+1,y21=>
  if y21<2 then
  ((idx ([p13.a0,p13.a1]:List T_api_Side) y21).bind λz24=>
   (m_hist_check z24).bind λp30=>
   if p30≠0 then
   (some p30)
   else
   (m_hist_Check_L1 p13 j1 n (W64 (y21+1))))
  else
  (j1 ())
def m_hist_Check (x0:T_api_Hist):Option Int:=
 if (x0.Scale<(-10))∨(x0.Scale>20) then
 (some 1)
 else
 ((m_hist_sides x0).bind λp13=>
  jn (λ(_:Unit)=>
   ((m_hist_Total x0).bind λp18=>
    if (!p18.2)=true then
    (some 4)
    else
    (some 0))) λj1=>
  m_hist_Check_L1 p13 j1 fuel 0)
def m_query_Nth_L1 (x0:T_api_Hist) (j1:T_api_Bucket→Option (T_api_Bucket×Bool)) (j4:T_api_Bucket→Option (T_api_Bucket×Bool)):Nat→Int→UInt64→T_api_Bucket→Option (T_api_Bucket×Bool)
 | 0,_,_,_=>none
 | n+1,y55,y56,y57=>
  if y55<(x0.Pos.Counts.length:Int) then
  ((idx x0.Pos.Counts y55).bind λz60=>
   jn (λ(y62:Bool) (y63:UInt64) (y64:T_api_Bucket)=>
    (if (!y62)=true then
     (j1 y64)
     else
     (m_query_Nth_L1 x0 j1 j4 n (W64 (y55+1)) y63 y64))) λj5=>
   if ((z60).toNat:Int)≥((y56).toNat:Int) then
   (j5 false y56 (⟨1,W64 (x0.Pos.Offset+y55)⟩:T_api_Bucket))
   else
   (j5 true (y56-z60) y57))
  else
  (j4 y57)
def m_query_Nth_L2 (x0:T_api_Hist) (j1:T_api_Bucket→Option (T_api_Bucket×Bool)) (j2:UInt64→T_api_Bucket→Option (T_api_Bucket×Bool)):Nat→Int→UInt64→T_api_Bucket→Option (T_api_Bucket×Bool)
 | 0,_,_,_=>none
 | n+1,y75,y76,y77=>
  if y75≥0 then
  ((idx x0.Neg.Counts y75).bind λz81=>
   jn (λ(y84:Bool) (y85:UInt64) (y86:T_api_Bucket)=>
    (if (!y84)=true then
     (j1 y86)
     else
     (m_query_Nth_L2 x0 j1 j2 n (W64 (y75-1)) y85 y86))) λj6=>
   if ((z81).toNat:Int)≥((y76).toNat:Int) then
   (j6 false y76 (⟨(-1),W64 (x0.Neg.Offset+y75)⟩:T_api_Bucket))
   else
   (j6 true (y76-z81) y77))
  else
  (j2 y76 y77)
def m_query_Nth (x0:T_api_Hist) (x1:UInt64):Option (T_api_Bucket×Bool):=
 (m_hist_Total x0).bind λp16=>
 (m_hist_Check x0).bind λp18=>
 if (((p18≠0)∨((!p16.2)=true))∨(((x1).toNat:Int)=0))∨(((x1).toNat:Int)>((p16.1).toNat:Int)) then
 (some ((⟨0,0⟩:T_api_Bucket),false))
 else
 (jn (λ(y32:T_api_Bucket)=>
  (some (y32,true))) λj1=>
  jn (λ(y37:UInt64) (y38:T_api_Bucket)=>
   (jn (λ(y40:Bool) (y41:UInt64) (y42:T_api_Bucket)=>
    (if (!y40)=true then
     (j1 y42)
     else
     (jn (λ(y53:T_api_Bucket)=>
      (j1 y53)) λj4=>
      m_query_Nth_L1 x0 j1 j4 fuel 0 y41 y42))) λj3=>
    if ((x0.Zero).toNat:Int)≥((y37).toNat:Int) then
    (j3 false y37 (⟨0,0⟩:T_api_Bucket))
    else
    (j3 true (y37-x0.Zero) y38))) λj2=>
  m_query_Nth_L2 x0 j1 j2 fuel (W64 ((x0.Neg.Counts.length:Int)-1)) x1 (⟨0,0⟩:T_api_Bucket))
def m_math_bits_Mul64 (x0:UInt64) (x1:UInt64):Option (UInt64×UInt64):=
 some ((((x0>>>UInt64.ofNat 32)*(x1>>>UInt64.ofNat 32))+((((x0>>>UInt64.ofNat 32)*(x1&&&(4294967295:UInt64)))+(((x0&&&(4294967295:UInt64))*(x1&&&(4294967295:UInt64)))>>>UInt64.ofNat 32))>>>UInt64.ofNat 32))+((((((x0>>>UInt64.ofNat 32)*(x1&&&(4294967295:UInt64)))+(((x0&&&(4294967295:UInt64))*(x1&&&(4294967295:UInt64)))>>>UInt64.ofNat 32))&&&(4294967295:UInt64))+((x0&&&(4294967295:UInt64))*(x1>>>UInt64.ofNat 32)))>>>UInt64.ofNat 32),x0*x1)
def m_math_bits_Len64 (x0:UInt64):Option Int:=
 jn (λ(y1:UInt64) (y2:Int)=>
  (jn (λ(y4:UInt64) (y5:Int)=>
   (jn (λ(y7:UInt64) (y8:Int)=>
    ((idx ([0,1,2,2,3,3,3,3,4,4,4,4,4,4,4,4,5,5,5,5,5,5,5,5,5,5,5,5,5,5,5,5,6,6,6,6,6,6,6,6,6,6,6,6,6,6,6,6,6,6,6,6,6,6,6,6,6,6,6,6,6,6,6,6,7,7,7,7,7,7,7,7,7,7,7,7,7,7,7,7,7,7,7,7,7,7,7,7,7,7,7,7,7,7,7,7,7,7,7,7,7,7,7,7,7,7,7,7,7,7,7,7,7,7,7,7,7,7,7,7,7,7,7,7,7,7,7,7,8,8,8,8,8,8,8,8,8,8,8,8,8,8,8,8,8,8,8,8,8,8,8,8,8,8,8,8,8,8,8,8,8,8,8,8,8,8,8,8,8,8,8,8,8,8,8,8,8,8,8,8,8,8,8,8,8,8,8,8,8,8,8,8,8,8,8,8,8,8,8,8,8,8,8,8,8,8,8,8,8,8,8,8,8,8,8,8,8,8,8,8,8,8,8,8,8,8,8,8,8,8,8,8,8,8,8,8,8,8,8,8,8,8,8,8,8,8,8,8,8,8,8,8,8,8,8,8]:List UInt8) ((toU8 ((y7).toNat:Int)).toNat:Int)).bind λz10=>
     some (W64 (y8+(z10.toNat:Int))))) λj3=>
    if ((y4).toNat:Int)≥256 then
    (j3 (y4>>>UInt64.ofNat 8) (W64 (y5+8)))
    else
    (j3 y4 y5))) λj2=>
   if ((y1).toNat:Int)≥65536 then
   (j2 (y1>>>UInt64.ofNat 16) (W64 (y2+16)))
   else
   (j2 y1 y2))) λj1=>
 if ((x0).toNat:Int)≥4294967296 then
 (j1 (x0>>>UInt64.ofNat 32) 32)
 else
 (j1 x0 0)
def m_math_bits_LeadingZeros64 (x0:UInt64):Option Int:=
 (m_math_bits_Len64 x0).bind λp1=>
 some (W64 (64-p1))
def m_math_bits_Div64_L1 (x1:UInt64) (x2:UInt64) (p7:Int) (j4:UInt64→Option (UInt64×UInt64)):Nat→UInt64→UInt64→Option (UInt64×UInt64)
 | 0,_,_=>none
 | n+1,y15,y16=>
  jn (λ(y18:Bool)=>
   (if y18=true then
    (if ((y15+((shl64 x2 ((toU64 p7).toNat))>>>UInt64.ofNat 32)).toNat:Int)≥4294967296 then
     (j4 (y16-(1:UInt64)))
     else
     (m_math_bits_Div64_L1 x1 x2 p7 j4 n (y15+((shl64 x2 ((toU64 p7).toNat))>>>UInt64.ofNat 32)) (y16-(1:UInt64))))
    else
    (j4 y16))) λj5=>
  if ((y16).toNat:Int)≥4294967296 then
  (j5 true)
  else
  (j5 (decide (((y16*((shl64 x2 ((toU64 p7).toNat))&&&(4294967295:UInt64))).toNat:Int)>((((4294967296:UInt64)*y15)+((shl64 x1 ((toU64 p7).toNat))&&&(4294967295:UInt64))).toNat:Int))))
def m_math_bits_Div64_L2 (x1:UInt64) (x2:UInt64) (p7:Int) (j3:UInt64→Option (UInt64×UInt64)):Nat→UInt64→UInt64→Option (UInt64×UInt64)
 | 0,_,_=>none
 | n+1,y23,y24=>
  jn (λ(y26:Bool)=>
   (if y26=true then
    (if ((y24+((shl64 x2 ((toU64 p7).toNat))>>>UInt64.ofNat 32)).toNat:Int)≥4294967296 then
     (j3 (y23-(1:UInt64)))
     else
     (m_math_bits_Div64_L2 x1 x2 p7 j3 n (y23-(1:UInt64)) (y24+((shl64 x2 ((toU64 p7).toNat))>>>UInt64.ofNat 32))))
    else
    (j3 y23))) λj6=>
  if ((y23).toNat:Int)≥4294967296 then
  (j6 true)
  else
  (j6 (decide (((y23*((shl64 x2 ((toU64 p7).toNat))&&&(4294967295:UInt64))).toNat:Int)>((((4294967296:UInt64)*y24)+((shl64 x1 ((toU64 p7).toNat))>>>UInt64.ofNat 32)).toNat:Int))))
def m_math_bits_Div64 (x0:UInt64) (x1:UInt64) (x2:UInt64):Option (UInt64×UInt64):=
 jn (λ(_:Unit)=>
  (jn (λ(_:Unit)=>
   (if ((x0).toNat:Int)=0 then
    ((quo64 x1 x2).bind λz5=>
     (rem64 x1 x2).bind λz6=>
     some (z5,z6))
    else
    ((m_math_bits_LeadingZeros64 x2).bind λp7=>
     (quo64 ((shl64 x0 ((toU64 p7).toNat))|||(shr64 x1 (((64:UInt64)-(toU64 p7)).toNat))) ((shl64 x2 ((toU64 p7).toNat))>>>UInt64.ofNat 32)).bind λz9=>
     jn (λ(y10:UInt64)=>
      ((quo64 (((((shl64 x0 ((toU64 p7).toNat))|||(shr64 x1 (((64:UInt64)-(toU64 p7)).toNat)))*(4294967296:UInt64))+((shl64 x1 ((toU64 p7).toNat))>>>UInt64.ofNat 32))-(y10*(shl64 x2 ((toU64 p7).toNat)))) ((shl64 x2 ((toU64 p7).toNat))>>>UInt64.ofNat 32)).bind λz12=>
       jn (λ(y13:UInt64)=>
        (some ((y10*(4294967296:UInt64))+y13,shr64 ((((((((shl64 x0 ((toU64 p7).toNat))|||(shr64 x1 (((64:UInt64)-(toU64 p7)).toNat)))*(4294967296:UInt64))+((shl64 x1 ((toU64 p7).toNat))>>>UInt64.ofNat 32))-(y10*(shl64 x2 ((toU64 p7).toNat))))*(4294967296:UInt64))+((shl64 x1 ((toU64 p7).toNat))&&&(4294967295:UInt64)))-(y13*(shl64 x2 ((toU64 p7).toNat)))) ((toU64 p7).toNat)))) λj4=>
       m_math_bits_Div64_L1 x1 x2 p7 j4 fuel ((((((shl64 x0 ((toU64 p7).toNat))|||(shr64 x1 (((64:UInt64)-(toU64 p7)).toNat)))*(4294967296:UInt64))+((shl64 x1 ((toU64 p7).toNat))>>>UInt64.ofNat 32))-(y10*(shl64 x2 ((toU64 p7).toNat))))-(z12*((shl64 x2 ((toU64 p7).toNat))>>>UInt64.ofNat 32))) z12)) λj3=>
     m_math_bits_Div64_L2 x1 x2 p7 j3 fuel z9 (((shl64 x0 ((toU64 p7).toNat))|||(shr64 x1 (((64:UInt64)-(toU64 p7)).toNat)))-(z9*((shl64 x2 ((toU64 p7).toNat))>>>UInt64.ofNat 32)))))) λj2=>
   if ((x2).toNat:Int)≤((x0).toNat:Int) then
   (none)
   else
   (j2 ()))) λj1=>
 if ((x2).toNat:Int)=0 then
 (none)
 else
 (j1 ())
def m_query_Share (x0:T_api_Hist) (x1:UInt64) (x2:UInt64):Option (T_api_Bucket×Bool):=
 (m_hist_Total x0).bind λp13=>
 if (((x2).toNat:Int)=0)∨(((x1).toNat:Int)>((x2).toNat:Int)) then
 (some ((⟨0,0⟩:T_api_Bucket),false))
 else
 ((m_math_bits_Mul64 p13.1 x1).bind λp20=>
  jn (λ(y22:UInt64)=>
   ((m_query_Nth x0 (maxU y22 (1:UInt64))).bind λp24=>
    some (p24.1,p24.2))) λj1=>
  if ((p20.1).toNat:Int)<((x2).toNat:Int) then
  ((m_math_bits_Div64 p20.1 p20.2 x2).bind λp29=>
   if ((p29.2).toNat:Int)>0 then
   (j1 (p29.1+(1:UInt64)))
   else
   (j1 p29.1))
  else
  (j1 p13.1))
def m_label_small (x0:UInt8):Option Bool:=
 some (decide ((((x0).toNat:Int)≥97)∧(((x0).toNat:Int)≤122)))
def m_label_isName_L1 (z6:(List UInt8)) (j2:Unit→Option Bool):Nat→Int→Option Bool
 | 0,_=>none
 | n+1,y9=>
  if y9<(z6.length:Int) then
  ((idx z6 y9).bind λz12=>
   (m_label_small z12).bind λp14=>
   if ((((!p14)=true)∧((((z12).toNat:Int)<48)∨(((z12).toNat:Int)>57)))∧(((z12).toNat:Int)≠95))∧(((z12).toNat:Int)≠46) then
   (none)
   else
   (m_label_isName_L1 z6 j2 n (W64 (y9+1))))
  else
  (j2 ())
def m_label_isName (x0:(List UInt8)):Option Bool:=
 jn (λ(y3:Bool)=>
  (if y3=true then
   (none)
   else
   ((lenS x0).bind λz6=>
    jn (λ(_:Unit)=>
     (some true)) λj2=>
    m_label_isName_L1 z6 j2 fuel 0))) λj1=>
 if (x0=([]:List UInt8))∨((x0.length:Int)>32) then
 (none)
 else
 ((idx x0 0).bind λz26=>
  (m_label_small z26).bind λp27=>
  j1 (!p27))
def m_label_Check_L1 (x1:(List T_api_Pair)) (j1:Unit→Option Int):Nat→Int→Option Int
 | 0,_=>none
 | n+1,y8=>
  if y8<(x1.length:Int) then
  (none)
  else
  (j1 ())
def m_label_Check (x0:(List UInt8)) (x1:(List T_api_Pair)):Option Int:=
 (m_label_isName x0).bind λp3=>
 if (!p3)=true then
 (none)
 else
 (if (x1.length:Int)>4 then
  (none)
  else
  (jn (λ(_:Unit)=>
   (some 0)) λj1=>
   m_label_Check_L1 x1 j1 fuel 0))
def m_point_kinds (x0:T_api_Point):Option Bool:=
 if x0.Kind=3 then
 (none)
 else
 (if x0.Kind=1 then
  (if x0.Kind=1 then
   (some (decide ((x0.Temp=1)∨(x0.Temp=2))))
   else
   (none))
  else
  (none))
def m_point_times (x0:T_api_Point):Option Bool:=
 if (x0.Start<0)∨(x0.Time>4503599627370496) then
 (none)
 else
 (if x0.Kind=3 then
  (none)
  else
  (some (decide (x0.Start<x0.Time))))
def m_point_bare (x0:T_api_Hist):Option Bool:=
 jn (λ(y16:Bool)=>
  (some y16)) λj1=>
 if (((x0.Scale=0)∧(((x0.Zero).toNat:Int)=0))∧(x0.Pos.Offset=0))∧(x0.Neg.Offset=0) then
 (j1 (decide (W64 ((x0.Pos.Counts.length:Int)+(x0.Neg.Counts.length:Int))=0)))
 else
 (none)
def m_point_own (x0:T_api_Point):Option Bool:=
 if (x0.Kind≠1)∧(x0.Int_≠0) then
 (none)
 else
 (if (¬(((x0.Kind=2)∨(x0.Kind=3))∨(x0.Kind=5)))∧(((x0.Re).toNat:Int)≠0) then
  (none)
  else
  (if (x0.Kind≠5)∧(((x0.Im).toNat:Int)≠0) then
   (none)
   else
   (jn (λ(y26:Bool)=>
    (if y26=true then
     (none)
     else
     (if (x0.Flags<0)∨(x0.Flags>31) then
      (none)
      else
      (some true)))) λj1=>
    if x0.Kind≠4 then
    ((m_point_bare x0.Hist).bind λp33=>
     j1 (!p33))
    else
    (none))))
def m_point_Check (x0:T_api_Point):Option Int:=
 (m_label_Check x0.Name x0.Attrs).bind λp13=>
 if p13≠0 then
 (none)
 else
 ((m_point_kinds x0).bind λp16=>
  if (!p16)=true then
  (none)
  else
  (jn (λ(y19:Bool)=>
   (if y19=true then
    (none)
    else
    ((m_point_times x0).bind λp22=>
     if (!p22)=true then
     (none)
     else
     ((m_point_own x0).bind λp25=>
      if (!p25)=true then
      (none)
      else
      (jn (λ(y30:Bool)=>
       (if y30=true then
        (none)
        else
        (jn (λ(y33:Bool)=>
         (if y33=true then
          (none)
          else
          (if x0.Kind=4 then
           (none)
           else
           (some 0)))) λj3=>
         if x0.Mono=true then
         (none)
         else
         (j3 false)))) λj2=>
       if (x0.Mono=true)∧(x0.Kind=2) then
       (none)
       else
       (j2 false)))))) λj1=>
   if x0.Mono=true then
   (none)
   else
   (j1 false)))
def m_slices_Clone_api_Pair_api_Pair (x0:(List T_api_Pair)):Option (List T_api_Pair):=
 appL [] x0
def m_slices_insertionSortCmpFunc_api_Pair_s2_L1 (x2:Int) (j1:Unit→Option Unit):Nat→Int→Option Unit
 | 0,_=>none
 | n+1,y4=>
  if y4<x2 then
  (none)
  else
  (j1 ())
def m_slices_insertionSortCmpFunc_api_Pair_s2 (x0:(List T_api_Pair)) (x1:Int) (x2:Int):Option Unit:=
 jn (λ(_:Unit)=>
  (some ())) λj1=>
 m_slices_insertionSortCmpFunc_api_Pair_s2_L1 x2 j1 fuel (W64 (x1+1))
def m_slices_stableCmpFunc_api_Pair_s1_L1 (x1:Int) (j2:Unit→Option Unit):Nat→Int→Option Unit
 | 0,_=>none
 | n+1,y8=>
  if y8<x1 then
  (none)
  else
  (j2 ())
def m_slices_stableCmpFunc_api_Pair_s1_L2 (x1:Int) (j1:Int→Option Unit):Nat→Int→Int→Option Unit
 | 0,_,_=>none
 | n+1,y11,y12=>
  if y12≤x1 then
  (none)
  else
  (j1 y11)
def m_slices_stableCmpFunc_api_Pair_s1 (x0:(List T_api_Pair)) (x1:Int):Option Unit:=
 jn (λ(y3:Int)=>
  ((m_slices_insertionSortCmpFunc_api_Pair_s2 x0 y3 x1).bind λp5=>
   jn (λ(_:Unit)=>
    (some ())) λj2=>
   m_slices_stableCmpFunc_api_Pair_s1_L1 x1 j2 fuel 20)) λj1=>
 m_slices_stableCmpFunc_api_Pair_s1_L2 x1 j1 fuel 0 20
def m_slices_SortStableFunc_api_Pair_api_Pair_s1 (x0:(List T_api_Pair)):Option Unit:=
 (m_slices_stableCmpFunc_api_Pair_s1 x0 (x0.length:Int)).bind λp3=>
 some ()
def m_label_Sorted (x0:(List T_api_Pair)):Option (List T_api_Pair):=
 (m_slices_Clone_api_Pair_api_Pair x0).bind λp3=>
 (m_slices_SortStableFunc_api_Pair_api_Pair_s1 p3).bind λp6=>
 some p3
def m_label_Text_L1 (p13:(List T_api_Pair)) (j1:(List UInt8)→Option ((List UInt8)×Int)):Nat→Int→(List UInt8)→Option ((List UInt8)×Int)
 | 0,_,_=>none
 | n+1,y22,y23=>
  if y22<(p13.length:Int) then
  (none)
  else
  (j1 y23)
def m_label_Text (x0:(List UInt8)) (x1:(List T_api_Pair)):Option ((List UInt8)×Int):=
 (m_label_Check x0 x1).bind λp3=>
 if p3≠0 then
 (none)
 else
 ((appL ([]:List UInt8) x0).bind λz10=>
  (m_label_Sorted x1).bind λp13=>
  jn (λ(y16:(List UInt8))=>
   (some (y16,0))) λj1=>
  m_label_Text_L1 p13 j1 fuel 0 z10)
def m_point_bit (x0:Bool):Option Int:=
 if x0=true then
 (none)
 else
 (some 0)
def m_point_Key (x0:T_api_Point):Option ((List UInt8)×Int):=
 (m_point_Check x0).bind λp13=>
 if p13≠0 then
 (none)
 else
 ((m_label_Text x0.Name x0.Attrs).bind λp16=>
  (catS p16.1 ([32]:List UInt8)).bind λz19=>
  (m_point_bit x0.Mono).bind λp20=>
  (catS z19 ([toU8 (W64 (48+x0.Kind)),toU8 (W64 (48+x0.Temp)),toU8 (W64 (48+p20))]:List UInt8)).bind λz25=>
  some (z25,0))
def m_query_Series_L1 (x0:(List T_api_Point)) (j2:(List (List UInt8))→Option ((List (List UInt8))×Int)):Nat→(List (List UInt8))→Int→(Kv Int)→Option ((List (List UInt8))×Int)
 | 0,_,_,_=>none
 | n+1,y11,y14,y15=>
  if y14<(x0.length:Int) then
  (jn (λ(y20:(List (List UInt8))) (y23:(Kv Int))=>
   (m_query_Series_L1 x0 j2 n y20 (W64 (y14+1)) y23)) λj3=>
   (idx x0 y14).bind λz25=>
   (m_point_Key z25).bind λp37=>
   if ((lookP p37.1 (putP p37.1 (W64 (((lookP p37.1 y15).getD 0)+1)) y15)).getD 0)=1 then
   ((appL y11 [p37.1]).bind λz43=>
    j3 z43 (putP p37.1 (W64 (((lookP p37.1 y15).getD 0)+1)) y15))
   else
   (j3 y11 (putP p37.1 (W64 (((lookP p37.1 y15).getD 0)+1)) y15)))
  else
  (j2 y11)
def m_query_Series_L2 (x0:(List T_api_Point)) (j1:Unit→Option ((List (List UInt8))×Int)):Nat→Int→Option ((List (List UInt8))×Int)
 | 0,_=>none
 | n+1,y45=>
  if y45<(x0.length:Int) then
  ((idx x0 y45).bind λz48=>
   (m_point_Check z48).bind λp60=>
   if p60≠0 then
   (none)
   else
   (m_query_Series_L2 x0 j1 n (W64 (y45+1))))
  else
  (j1 ())
def m_query_Series (x0:(List T_api_Point)):Option ((List (List UInt8))×Int):=
 jn (λ(_:Unit)=>
  (jn (λ(y6:(List (List UInt8)))=>
   (if (y6.length:Int)>4096 then
    (none)
    else
    (some (y6,0)))) λj2=>
   m_query_Series_L1 x0 j2 fuel ([]:List (List UInt8)) 0 ([]:Kv Int))) λj1=>
 m_query_Series_L2 x0 j1 fuel 0
def m_internal_stringslite_IndexByte (x0:(List UInt8)) (x1:UInt8):Option Int:=
 some (Lib.indexByte x0 x1)
def m_internal_stringslite_Index (x0:(List UInt8)) (x1:(List UInt8)):Option Int:=
 if ((x1.length:Int)=0)∨(x1=x0) then
 (none)
 else
 (if (x1.length:Int)=1 then
  ((idx x1 0).bind λz5=>
   (m_internal_stringslite_IndexByte x0 z5).bind λp6=>
   some p6)
  else
  (none))
def m_internal_stringslite_Cut (x0:(List UInt8)) (x1:(List UInt8)):Option ((List UInt8)×(List UInt8)×Bool):=
 (m_internal_stringslite_Index x0 x1).bind λp1=>
 if p1≥0 then
 ((cutL x0 0 p1).bind λz5=>
  (cutL x0 (W64 (p1+(x1.length:Int))) ((x0).length)).bind λz6=>
  some (z5,z6,true))
 else
 (some (x0,([]:List UInt8),false))
def m_strings_Cut (x0:(List UInt8)) (x1:(List UInt8)):Option ((List UInt8)×(List UInt8)×Bool):=
 (m_internal_stringslite_Cut x0 x1).bind λp1=>
 some (p1.1,p1.2.1,p1.2.2)
def m_label_Parse_L1 (j1:(List T_api_Pair)→Option ((List UInt8)×(List T_api_Pair)×Int×Int)):Nat→(List T_api_Pair)→Int→(List UInt8)→Bool→Option ((List UInt8)×(List T_api_Pair)×Int×Int)
 | 0,_,_,_,_=>none
 | n+1,y10,y13,y14,y15=>
  if y15=true then
  (none)
  else
  (j1 y10)
def m_label_Parse (x0:(List UInt8)):Option ((List UInt8)×(List T_api_Pair)×Int×Int):=
 (m_strings_Cut x0 ([59]:List UInt8)).bind λp1=>
 (m_label_isName p1.1).bind λp3=>
 if (!p3)=true then
 (none)
 else
 (jn (λ(y6:(List T_api_Pair))=>
  (some (p1.1,y6,0,0))) λj1=>
  m_label_Parse_L1 j1 fuel ([]:List T_api_Pair) (W64 ((p1.1.length:Int)+1)) p1.2.1 p1.2.2)
def m_chunk_Series (x0:(List UInt8)):Option (T_api_Point×Int):=
 (m_strings_Cut x0 ([32]:List UInt8)).bind λp4=>
 (m_label_Parse p4.1).bind λp6=>
 jn (λ(y13:Bool)=>
  (if y13=true then
   (none)
   else
   ((idx p4.2.1 0).bind λz17=>
    (idx p4.2.1 1).bind λz18=>
    (idx p4.2.1 2).bind λz19=>
    if W64 ((z17.toNat:Int)-48)=3 then
    (none)
    else
    ((m_point_Check (⟨p6.1,p6.2.1,W64 ((z17.toNat:Int)-48),W64 ((z18.toNat:Int)-48),decide (((z19).toNat:Int)=49),0,1,0,(0:UInt64),(0:UInt64),(⟨0,(0:UInt64),(⟨0,[]⟩:T_api_Side),(⟨0,[]⟩:T_api_Side)⟩:T_api_Hist),0⟩:T_api_Point)).bind λp31=>
     if p31≠0 then
     (none)
     else
     (some ((⟨p6.1,p6.2.1,W64 ((z17.toNat:Int)-48),W64 ((z18.toNat:Int)-48),decide (((z19).toNat:Int)=49),0,0,0,(0:UInt64),(0:UInt64),(⟨0,(0:UInt64),(⟨0,([]:List UInt64)⟩:T_api_Side),(⟨0,([]:List UInt64)⟩:T_api_Side)⟩:T_api_Hist),0⟩:T_api_Point),0)))))) λj1=>
 if (((!p4.2.2)=true)∨(p6.2.2.2≠0))∨((p4.2.1.length:Int)≠3) then
 (none)
 else
 ((idx p4.2.1 2).bind λz41=>
  jn (λ(y42:Bool)=>
   (j1 y42)) λj2=>
  if ((z41).toNat:Int)≠48 then
  (none)
  else
  (j2 false))
def m_index_New_L2 (y17:Int) (z46:(List T_api_Pair)) (j3:T_index_Index→Option (T_index_Index×Int×Int)):Nat→Int→T_index_Index→Option (T_index_Index×Int×Int)
 | 0,_,_=>none
 | n+1,y52,y53=>
  if y52<(z46.length:Int) then
  ((idx z46 y52).bind λz56=>
   (appL (lookO z56 y53.rows) ([y17]:List Int)).bind λz70=>
   m_index_New_L2 y17 z46 j3 n (W64 (y52+1)) (⟨y53.keys,(putO z56 z70 y53.rows)⟩:T_index_Index))
  else
  (j3 y53)
def m_index_New_L1 (x0:(List (List UInt8))) (j1:T_index_Index→Option (T_index_Index×Int×Int)):Nat→Int→(Kv Int)→T_index_Index→Option (T_index_Index×Int×Int)
 | 0,_,_,_=>none
 | n+1,y17,y18,y19=>
  if y17<(x0.length:Int) then
  ((idx x0 y17).bind λz22=>
   (m_chunk_Series z22).bind λp24=>
   jn (λ(y33:Bool)=>
    (if y33=true then
     (none)
     else
     (if p24.2≠0 then
      (none)
      else
      ((appL y19.keys [z22]).bind λz42=>
       (appL p24.1.Attrs [(⟨([]:List UInt8),p24.1.Name⟩:T_api_Pair)]).bind λz46=>
       jn (λ(y50:T_index_Index)=>
        (m_index_New_L1 x0 j1 n (W64 (y17+1)) (putP z22 (W64 (((lookP z22 y18).getD 0)+1)) y18) y50)) λj3=>
       m_index_New_L2 y17 z46 j3 fuel 0 (⟨z42,y19.rows⟩:T_index_Index))))) λj2=>
   if p24.2=0 then
   (j2 (decide (((lookP z22 y18).getD 0)>0)))
   else
   (none))
  else
  (j1 y19)
def m_index_New (x0:(List (List UInt8))):Option (T_index_Index×Int×Int):=
 if (x0.length:Int)>4096 then
 (none)
 else
 (jn (λ(y15:T_index_Index)=>
  (some (y15,0,0))) λj1=>
  m_index_New_L1 x0 j1 fuel 0 ([]:Kv Int) (⟨([]:List (List UInt8)),([]:Ko T_api_Pair Int)⟩:T_index_Index))
def m_index_Index_all_L1 (z9:(List Int)) (j1:(List Int)→Option (List Int)):Nat→(List Int)→Int→Option (List Int)
 | 0,_,_=>none
 | n+1,y13,y14=>
  if y14<(z9.length:Int) then
  ((idx y13 y14).bind λz17=>
   m_index_Index_all_L1 z9 j1 n (setI y13 y14 y14) (W64 (y14+1)))
  else
  (j1 y13)
def m_index_Index_all (x0:T_index_Index):Option (List Int):=
 (mkL (x0.keys.length:Int) (0:Int)).bind λz9=>
 jn (λ(y11:(List Int))=>
  (some y11)) λj1=>
 m_index_Index_all_L1 z9 j1 fuel z9 0
def m_index_Index_Select_L1 (x1:(List T_api_Match)) (j2:(List Int)→Option ((List Int)×Int×Int)):Nat→(List Int)→Int→Option ((List Int)×Int×Int)
 | 0,_,_=>none
 | n+1,y18,y21=>
  if y21<(x1.length:Int) then
  (none)
  else
  (j2 y18)
def m_index_Index_Select_L2 (x1:(List T_api_Match)) (j1:(List T_glob_Glob)→Option ((List Int)×Int×Int)):Nat→(List T_glob_Glob)→Int→Option ((List Int)×Int×Int)
 | 0,_,_=>none
 | n+1,y24,y27=>
  if y27<(x1.length:Int) then
  (none)
  else
  (j1 y24)
def m_index_Index_Select (x0:T_index_Index) (x1:(List T_api_Match)):Option ((List Int)×Int×Int):=
 jn (λ(y5:(List T_glob_Glob))=>
  ((m_index_Index_all x0).bind λp9=>
   jn (λ(y12:(List Int))=>
    (some (y12,0,0))) λj2=>
   m_index_Index_Select_L1 x1 j2 fuel p9 0)) λj1=>
 m_index_Index_Select_L2 x1 j1 fuel ([]:List T_glob_Glob) 0
def m_slices_Clone_uint64_uint64 (x0:(List UInt64)):Option (List UInt64):=
 appL [] x0
def m_hist_Clone (x0:T_api_Hist):Option T_api_Hist:=
 (m_slices_Clone_uint64_uint64 x0.Pos.Counts).bind λp14=>
 (m_slices_Clone_uint64_uint64 x0.Neg.Counts).bind λp17=>
 some (⟨x0.Scale,x0.Zero,(⟨x0.Pos.Offset,p14⟩:T_api_Side),(⟨x0.Neg.Offset,p17⟩:T_api_Side)⟩:T_api_Hist)
def m_point_Clone (x0:T_api_Point):Option T_api_Point:=
 (m_slices_Clone_api_Pair_api_Pair x0.Attrs).bind λp16=>
 (m_hist_Clone x0.Hist).bind λp21=>
 some (⟨x0.Name,p16,x0.Kind,x0.Temp,x0.Mono,x0.Start,x0.Time,x0.Int_,x0.Re,x0.Im,p21,x0.Flags⟩:T_api_Point)
def m_rollup_fits (x0:T_api_Point) (x1:T_api_Point):Option Int:=
 (m_point_Key x0).bind λp25=>
 (m_point_Key x1).bind λp27=>
 if p25.1≠p27.1 then
 (none)
 else
 (if x1.Time≤x0.Time then
  (none)
  else
  (if (x0.Temp=2)∧(x1.Start<x0.Time) then
   (none)
   else
   (some 0)))
def m_rollup_values (x0:T_api_Point) (x1:T_api_Point):Option (Int×T_api_Point):=
 if x0.Kind=1 then
 (if ((x1.Int_>0)∧(W64 (x0.Int_+x1.Int_)<x0.Int_))∨((x1.Int_<0)∧(W64 (x0.Int_+x1.Int_)>x0.Int_)) then
  (none)
  else
  (some (0,(⟨x0.Name,x0.Attrs,x0.Kind,x0.Temp,x0.Mono,x0.Start,x0.Time,W64 (x0.Int_+x1.Int_),x0.Re,x0.Im,x0.Hist,x0.Flags⟩:T_api_Point))))
 else
 (none)
def m_rollup_join (x0:T_api_Point) (x1:T_api_Point):Option (T_api_Point×Int):=
 (m_point_Clone x1).bind λp28=>
 if x0.Kind=3 then
 (none)
 else
 (if x0.Temp≠2 then
  (none)
  else
  ((m_rollup_values (⟨p28.Name,p28.Attrs,p28.Kind,p28.Temp,p28.Mono,x0.Start,p28.Time,x0.Int_,x0.Re,x0.Im,x0.Hist,orZ x0.Flags x1.Flags⟩:T_api_Point) x1).bind λp102=>
   some (p102.2,p102.1)))
def m_rollup_Merge (x0:T_api_Point) (x1:T_api_Point):Option (T_api_Point×Int):=
 (m_point_Check x0).bind λp28=>
 if p28=0 then
 ((m_point_Check x1).bind λp31=>
  if p31=0 then
  ((m_rollup_fits x0 x1).bind λp34=>
   if p34≠0 then
   (none)
   else
   ((m_rollup_join x0 x1).bind λp37=>
    if p37.2≠0 then
    (none)
    else
    (some (p37.1,0))))
  else
  (none))
 else
 (none)
def m_query_row_add (x0:T_query_row) (x1:(List UInt8)) (x2:T_api_Point):Option (Int×T_query_row):=
 jn (λ(y27:Int) (y28:T_query_row)=>
  (some (y27,(⟨(⟨y28.Row.Key,W64 (y28.Row.Count+1),y28.Row.First,x2.Time,y28.Row.Value⟩:T_api_Row),y28.some⟩:T_query_row)))) λj1=>
 if (!x0.some)=true then
 ((m_point_Clone (⟨x2.Name,x2.Attrs,x2.Kind,x2.Temp,x2.Mono,x2.Start,x2.Time,x2.Int_,x2.Re,x2.Im,x2.Hist,0⟩:T_api_Point)).bind λp74=>
  j1 0 (⟨(⟨x1,x0.Row.Count,x2.Time,x0.Row.Last,p74⟩:T_api_Row),true⟩:T_query_row))
 else
 ((m_rollup_Merge x0.Row.Value (⟨x2.Name,x2.Attrs,x2.Kind,x2.Temp,x2.Mono,x2.Start,x2.Time,x2.Int_,x2.Re,x2.Im,x2.Hist,0⟩:T_api_Point)).bind λp111=>
  j1 p111.2 (⟨(⟨x0.Row.Key,x0.Row.Count,x0.Row.First,x0.Row.Last,p111.1⟩:T_api_Row),x0.some⟩:T_query_row))
def m_query_Run_L2 (x0:(List T_api_Point)) (x1:T_api_Query) (p9:((List (List UInt8))×Int)) (z36:Int) (j2:T_query_row→Option ((List T_api_Row)×Int)):Nat→Int→T_query_row→Option ((List T_api_Row)×Int)
 | 0,_,_=>none
 | n+1,y78,y79=>
  if y78<(x0.length:Int) then
  ((idx x0 y78).bind λz82=>
   (m_point_Key z82).bind λp94=>
   (idx p9.1 z36).bind λz96=>
   if ((p94.1≠z96)∨(z82.Time≤x1.From))∨(z82.Time>x1.To) then
   (none)
   else
   ((idx p9.1 z36).bind λz104=>
    (m_query_row_add y79 z104 z82).bind λp107=>
    if p107.1≠0 then
    (none)
    else
    (m_query_Run_L2 x0 x1 p9 z36 j2 n (W64 (y78+1)) p107.2)))
  else
  (j2 y79)
def m_query_Run_L1 (x0:(List T_api_Point)) (x1:T_api_Query) (p9:((List (List UInt8))×Int)) (p18:((List Int)×Int×Int)) (j1:(List T_api_Row)→Option ((List T_api_Row)×Int)):Nat→(List T_api_Row)→Int→Option ((List T_api_Row)×Int)
 | 0,_,_=>none
 | n+1,y28,y31=>
  if y31<(p18.1.length:Int) then
  ((idx p18.1 y31).bind λz36=>
   jn (λ(y61:T_query_row)=>
    (if y61.some=true then
     ((m_label_Sorted y61.Row.Value.Attrs).bind λp68=>
      (appL y28 [(⟨y61.Row.Key,y61.Row.Count,y61.Row.First,y61.Row.Last,(⟨y61.Row.Value.Name,p68,y61.Row.Value.Kind,y61.Row.Value.Temp,y61.Row.Value.Mono,y61.Row.Value.Start,y61.Row.Value.Time,y61.Row.Value.Int_,y61.Row.Value.Re,y61.Row.Value.Im,y61.Row.Value.Hist,y61.Row.Value.Flags⟩:T_api_Point)⟩:T_api_Row)]).bind λz75=>
      m_query_Run_L1 x0 x1 p9 p18 j1 n z75 (W64 (y31+1)))
     else
     (none))) λj2=>
   m_query_Run_L2 x0 x1 p9 z36 j2 fuel 0 (⟨(⟨([]:List UInt8),0,0,0,(⟨([]:List UInt8),([]:List T_api_Pair),0,0,false,0,0,0,(0:UInt64),(0:UInt64),(⟨0,(0:UInt64),(⟨0,([]:List UInt64)⟩:T_api_Side),(⟨0,([]:List UInt64)⟩:T_api_Side)⟩:T_api_Hist),0⟩:T_api_Point)⟩:T_api_Row),false⟩:T_query_row))
  else
  (j1 y28)
def m_query_Run (x0:(List T_api_Point)) (x1:T_api_Query):Option ((List T_api_Row)×Int):=
 (m_query_Series x0).bind λp9=>
 if p9.2≠0 then
 (none)
 else
 ((m_index_New p9.1).bind λp13=>
  (m_index_Index_Select p13.1 x1.Match).bind λp18=>
  if p18.2.2≠0 then
  (none)
  else
  (jn (λ(y23:(List T_api_Row))=>
   (some (y23,0))) λj1=>
   m_query_Run_L1 x0 x1 p9 p18 j1 fuel ([]:List T_api_Row) 0))
def m_query_ahead (x0:T_api_Bucket) (x1:T_api_Bucket):Option Bool:=
 if x0.Side≠x1.Side then
 (some (decide (x0.Side<x1.Side)))
 else
 (if x0.Side<0 then
  (some (decide (x0.Index>x1.Index)))
  else
  (some (decide (x0.Index<x1.Index))))
def m_query_Below_L1 (x0:T_api_Hist) (x1:T_api_Bucket) (j1:UInt64→Option UInt64) (j5:UInt64→Option UInt64):Nat→Int→UInt64→Option UInt64
 | 0,_,_=>none
 | n+1,y50,y51=>
  if y50<(x0.Pos.Counts.length:Int) then
  ((idx x0.Pos.Counts y50).bind λz54=>
   jn (λ(y56:Bool) (y57:UInt64)=>
    (if (!y56)=true then
     (j1 y57)
     else
     (m_query_Below_L1 x0 x1 j1 j5 n (W64 (y50+1)) y57))) λj6=>
   (m_query_ahead (⟨1,W64 (x0.Pos.Offset+y50)⟩:T_api_Bucket) x1).bind λp62=>
   jn (λ(y64:UInt64)=>
    (j6 true y64)) λj7=>
   if p62=true then
   (j7 (y51+z54))
   else
   (j7 y51))
  else
  (j5 y51)
def m_query_Below_L2 (x0:T_api_Hist) (x1:T_api_Bucket) (j1:UInt64→Option UInt64) (j2:UInt64→Option UInt64):Nat→Int→UInt64→Option UInt64
 | 0,_,_=>none
 | n+1,y70,y71=>
  if y70≥0 then
  ((idx x0.Neg.Counts y70).bind λz75=>
   jn (λ(y78:Bool) (y79:UInt64)=>
    (if (!y78)=true then
     (j1 y79)
     else
     (m_query_Below_L2 x0 x1 j1 j2 n (W64 (y70-1)) y79))) λj8=>
   (m_query_ahead (⟨(-1),W64 (x0.Neg.Offset+y70)⟩:T_api_Bucket) x1).bind λp84=>
   jn (λ(y86:UInt64)=>
    (j8 true y86)) λj9=>
   if p84=true then
   (j9 (y71+z75))
   else
   (j9 y71))
  else
  (j2 y71)
def m_query_Below (x0:T_api_Hist) (x1:T_api_Bucket):Option UInt64:=
 (m_hist_Check x0).bind λp13=>
 if (((p13≠0)∨(x1.Side<(-1)))∨(x1.Side>1))∨((x1.Side=0)∧(x1.Index≠0)) then
 (some (0:UInt64))
 else
 (jn (λ(y27:UInt64)=>
  (some y27)) λj1=>
  jn (λ(y32:UInt64)=>
   (jn (λ(y34:Bool) (y35:UInt64)=>
    (if (!y34)=true then
     (j1 y35)
     else
     (jn (λ(y48:UInt64)=>
      (j1 y48)) λj5=>
      m_query_Below_L1 x0 x1 j1 j5 fuel 0 y35))) λj3=>
    (m_query_ahead (⟨0,0⟩:T_api_Bucket) x1).bind λp40=>
    jn (λ(y42:UInt64)=>
     (j3 true y42)) λj4=>
    if p40=true then
    (j4 (y32+x0.Zero))
    else
    (j4 y32))) λj2=>
  m_query_Below_L2 x0 x1 j1 j2 fuel (W64 ((x0.Neg.Counts.length:Int)-1)) (0:UInt64))
def m_limnographlaw37_awake  : Option Bool:=
 (m_query_Nth (⟨0,(2:UInt64),(⟨0,([(1:UInt64),(3:UInt64)]:List UInt64)⟩:T_api_Side),(⟨0,[]⟩:T_api_Side)⟩:T_api_Hist) (3:UInt64)).bind λp7=>
 (m_query_Share (⟨0,(2:UInt64),(⟨0,([(1:UInt64),(3:UInt64)]:List UInt64)⟩:T_api_Side),(⟨0,[]⟩:T_api_Side)⟩:T_api_Hist) (1:UInt64) (2:UInt64)).bind λp12=>
 (m_query_Nth (⟨0,(2:UInt64),(⟨0,([(1:UInt64),(3:UInt64)]:List UInt64)⟩:T_api_Side),(⟨0,[]⟩:T_api_Side)⟩:T_api_Hist) (7:UInt64)).bind λp17=>
 (m_query_Run ([(⟨([120]:List UInt8),[],1,2,false,0,10,5,(0:UInt64),(0:UInt64),(⟨0,(0:UInt64),(⟨0,[]⟩:T_api_Side),(⟨0,[]⟩:T_api_Side)⟩:T_api_Hist),0⟩:T_api_Point),(⟨([120]:List UInt8),[],1,2,false,10,20,7,(0:UInt64),(0:UInt64),(⟨0,(0:UInt64),(⟨0,[]⟩:T_api_Side),(⟨0,[]⟩:T_api_Side)⟩:T_api_Hist),1⟩:T_api_Point)]:List T_api_Point) (⟨[],0,20⟩:T_api_Query)).bind λp31=>
 jn (λ(y44:Bool)=>
  (jn (λ(y46:Bool)=>
   (jn (λ(y52:Bool)=>
    (jn (λ(y54:Bool)=>
     (jn (λ(y56:Bool)=>
      (jn (λ(y58:Bool)=>
       (some y58)) λj6=>
       if y56=true then
       ((idx p31.1 0).bind λz61=>
        j6 (decide (z61.Value.Flags=0)))
       else
       (none))) λj5=>
      if y54=true then
      ((idx p31.1 0).bind λz70=>
       j5 (decide (z70.First=10)))
      else
      (none))) λj4=>
     if y52=true then
     ((idx p31.1 0).bind λz79=>
      j4 (decide (z79.Value.Int_=12)))
     else
     (none))) λj3=>
    if ((y46=true)∧(p31.2=0))∧((p31.1.length:Int)=1) then
    ((idx p31.1 0).bind λz88=>
     j3 (decide (z88.Count=2)))
    else
    (none))) λj2=>
   if y44=true then
   ((m_query_Below (⟨0,(2:UInt64),(⟨0,([(1:UInt64),(3:UInt64)]:List UInt64)⟩:T_api_Side),(⟨0,[]⟩:T_api_Side)⟩:T_api_Hist) p7.1).bind λp97=>
    j2 (decide (((p97).toNat:Int)=2)))
   else
   (none))) λj1=>
 if ((((p7.2=true)∧(p12.2=true))∧((!p17.2)=true))∧(p7.1.Side=1))∧(p7.1.Index=0) then
 (j1 (decide (p7.1=p12.1)))
 else
 (none)
def m_limnographref08_Light (x0:T_api_Hist):Option Bool:=
 some (decide (((x0.Pos.Counts.length:Int)≤300)∧((x0.Neg.Counts.length:Int)≤300)))
def m_limnographref08_sum_L1 (x1:(List UInt64)) (j1:UInt64→Option (UInt64×Bool)):Nat→UInt64→Int→Option (UInt64×Bool)
 | 0,_,_=>none
 | n+1,y5,y6=>
  if y6<(x1.length:Int) then
  ((idx x1 y6).bind λz9=>
   if ((z9).toNat:Int)>(((18446744073709551615:UInt64)-y5).toNat:Int) then
   (some ((0:UInt64),false))
   else
   ((idx x1 y6).bind λz12=>
    m_limnographref08_sum_L1 x1 j1 n (y5+z12) (W64 (y6+1))))
  else
  (j1 y5)
def m_limnographref08_sum (x0:UInt64) (x1:(List UInt64)):Option (UInt64×Bool):=
 jn (λ(y3:UInt64)=>
  (some (y3,true))) λj1=>
 m_limnographref08_sum_L1 x1 j1 fuel x0 0
def m_limnographref08_Total (x0:T_api_Hist):Option (UInt64×Bool):=
 (m_limnographref08_sum x0.Zero x0.Pos.Counts).bind λp10=>
 if (!p10.2)=true then
 (some ((0:UInt64),false))
 else
 ((m_limnographref08_sum p10.1 x0.Neg.Counts).bind λp13=>
  some (p13.1,p13.2))
def m_limnographref08_side (x0:T_api_Side):Option Int:=
 if (x0.Counts.length:Int)>160 then
 (some 4)
 else
 (if (x0.Counts.length:Int)=0 then
  (if x0.Offset≠0 then
   (some 3)
   else
   (some 0))
  else
  ((idx x0.Counts 0).bind λz10=>
   jn (λ(y12:Bool)=>
    (if y12=true then
     (some 3)
     else
     (jn (λ(y17:Bool)=>
      (if y17=true then
       (some 1)
       else
       (some 0))) λj2=>
      if (x0.Offset<(-1073741824))∨(x0.Offset>1073741824) then
      (j2 true)
      else
      (j2 (decide (W64 ((W64 (x0.Offset+(x0.Counts.length:Int)))-1)>1073741824)))))) λj1=>
   if ((z10).toNat:Int)=0 then
   (j1 true)
   else
   ((idx x0.Counts (W64 ((x0.Counts.length:Int)-1))).bind λz22=>
    j1 (decide (((z22).toNat:Int)=0)))))
def m_limnographref08_Check (x0:T_api_Hist):Option Int:=
 if (x0.Scale<(-10))∨(x0.Scale>20) then
 (some 1)
 else
 ((m_limnographref08_side x0.Pos).bind λp13=>
  if p13≠0 then
  (some p13)
  else
  ((m_limnographref08_side x0.Neg).bind λp16=>
   if p16≠0 then
   (some p16)
   else
   ((m_limnographref08_Total x0).bind λp19=>
    if (!p19.2)=true then
    (some 4)
    else
    (some 0))))
def m_limnographref37_Steps_L1 (x0:T_api_Hist) (j2:(List T_limnographref37_Step)→Option (List T_limnographref37_Step)):Nat→(List T_limnographref37_Step)→Int→Option (List T_limnographref37_Step)
 | 0,_,_=>none
 | n+1,y20,y23=>
  if y23<(x0.Pos.Counts.length:Int) then
  ((idx x0.Pos.Counts y23).bind λz27=>
   (appL y20 ([(⟨(⟨1,W64 (x0.Pos.Offset+y23)⟩:T_api_Bucket),z27⟩:T_limnographref37_Step)]:List T_limnographref37_Step)).bind λz33=>
   m_limnographref37_Steps_L1 x0 j2 n z33 (W64 (y23+1)))
  else
  (j2 y20)
def m_limnographref37_Steps_L2 (x0:T_api_Hist) (j1:(List T_limnographref37_Step)→Option (List T_limnographref37_Step)):Nat→(List T_limnographref37_Step)→Int→Option (List T_limnographref37_Step)
 | 0,_,_=>none
 | n+1,y35,y38=>
  if y38≥0 then
  ((idx x0.Neg.Counts y38).bind λz44=>
   (appL y35 ([(⟨(⟨(-1),W64 (x0.Neg.Offset+y38)⟩:T_api_Bucket),z44⟩:T_limnographref37_Step)]:List T_limnographref37_Step)).bind λz50=>
   m_limnographref37_Steps_L2 x0 j1 n z50 (W64 (y38-1)))
  else
  (j1 y35)
def m_limnographref37_Steps (x0:T_api_Hist):Option (List T_limnographref37_Step):=
 jn (λ(y10:(List T_limnographref37_Step))=>
  ((appL y10 [(⟨(⟨0,0⟩:T_api_Bucket),x0.Zero⟩:T_limnographref37_Step)]).bind λz14=>
   jn (λ(y16:(List T_limnographref37_Step))=>
    (some y16)) λj2=>
   m_limnographref37_Steps_L1 x0 j2 fuel z14 0)) λj1=>
 m_limnographref37_Steps_L2 x0 j1 fuel ([]:List T_limnographref37_Step) (W64 ((x0.Neg.Counts.length:Int)-1))
def m_limnographref37_Nth_L1 (x1:UInt64) (p24:(List T_limnographref37_Step)) (j1:Unit→Option (T_api_Bucket×Bool)):Nat→UInt64→Int→Option (T_api_Bucket×Bool)
 | 0,_,_=>none
 | n+1,y30,y31=>
  if y31<(p24.length:Int) then
  ((idx p24 y31).bind λz34=>
   if ((y30+z34.N).toNat:Int)≥((x1).toNat:Int) then
   ((idx p24 y31).bind λz36=>
    some (z36.B,true))
   else
   (m_limnographref37_Nth_L1 x1 p24 j1 n (y30+z34.N) (W64 (y31+1))))
  else
  (j1 ())
def m_limnographref37_Nth (x0:T_api_Hist) (x1:UInt64):Option (T_api_Bucket×Bool):=
 (m_limnographref08_Total x0).bind λp13=>
 (m_limnographref08_Check x0).bind λp15=>
 if ((p15≠0)∨(((x1).toNat:Int)<1))∨(((x1).toNat:Int)>((p13.1).toNat:Int)) then
 (some ((⟨0,0⟩:T_api_Bucket),false))
 else
 ((m_limnographref37_Steps x0).bind λp24=>
  jn (λ(_:Unit)=>
   (some ((⟨0,0⟩:T_api_Bucket),false))) λj1=>
  m_limnographref37_Nth_L1 x1 p24 j1 fuel (0:UInt64) 0)
def m_limnographref37_Rank_L1 (x1:UInt64) (x2:UInt64) (z2:UInt64) (j1:UInt64→UInt64→Option UInt64):Nat→UInt64→UInt64→Int→Option UInt64
 | 0,_,_,_=>none
 | n+1,y9,y10,y11=>
  if y11≥0 then
  (jn (λ(y14:UInt64) (y15:UInt64)=>
   (m_limnographref37_Rank_L1 x1 x2 z2 j1 n y14 y15 (W64 (y11-1)))) λj3=>
   jn (λ(y17:UInt64) (y18:UInt64)=>
    ((rem64 (shr64 x1 ((toU64 y11).toNat)) (2:UInt64)).bind λz20=>
     if ((z20).toNat:Int)=1 then
     (if ((y18).toNat:Int)≥((x2-z2).toNat:Int) then
      (j3 (y17+(1:UInt64)) (y18-(x2-z2)))
      else
      (j3 y17 (y18+z2)))
     else
     (j3 y17 y18))) λj4=>
   if ((y10).toNat:Int)≥((x2-y10).toNat:Int) then
   (j4 (((2:UInt64)*y9)+(1:UInt64)) (y10-(x2-y10)))
   else
   (j4 ((2:UInt64)*y9) ((2:UInt64)*y10)))
  else
  (j1 y9 y10)
def m_limnographref37_Rank (x0:UInt64) (x1:UInt64) (x2:UInt64):Option UInt64:=
 (quo64 x0 x2).bind λz1=>
 (rem64 x0 x2).bind λz2=>
 jn (λ(y3:UInt64) (y4:UInt64)=>
  (jn (λ(y6:UInt64)=>
   (some y6)) λj2=>
   if ((y4).toNat:Int)>0 then
   (j2 (((z1*x1)+y3)+(1:UInt64)))
   else
   (j2 ((z1*x1)+y3)))) λj1=>
 m_limnographref37_Rank_L1 x1 x2 z2 j1 fuel (0:UInt64) (0:UInt64) 63
def m_limnographlaw37_QueryNth (x0:T_api_Hist) (x1:UInt64) (x2:UInt64) (x3:UInt64):Option Bool:=
 (m_limnographlaw37_awake).bind λp10=>
 if (!p10)=true then
 (some false)
 else
 ((m_limnographref08_Light x0).bind λp13=>
  if (!p13)=true then
  (some true)
  else
  ((m_query_Nth x0 x1).bind λp16=>
   (m_limnographref37_Nth x0 x1).bind λp21=>
   if (¬(p16.1=p21.1))∨(p16.2≠p21.2) then
   (some false)
   else
   ((m_query_Share x0 x2 x3).bind λp29=>
    (m_limnographref08_Total x0).bind λp34=>
    if (((x3).toNat:Int)=0)∨(((x2).toNat:Int)>((x3).toNat:Int)) then
    (some (decide ((p29.1=(⟨0,0⟩:T_api_Bucket))∧((!p29.2)=true))))
    else
    (jn (λ(y50:T_api_Bucket) (y52:Bool)=>
     (some (decide ((p29.1=y50)∧(p29.2=y52))))) λj1=>
     (m_limnographref37_Rank p34.1 x2 x3).bind λp59=>
     (m_limnographref37_Nth x0 (maxU p59 (1:UInt64))).bind λp61=>
     j1 p61.1 p61.2))))
end Go.Proofs.YtffboddbdpagkaaGreatDoor
namespace Go.Proofs.YtffboddbdpagkaaGreatDoor
open Go Go.RowKit Go.Wk
set_option maxRecDepth 20000 in
theorem m_hist_Total_L2_scan (z23:T_api_Side) (j2:UInt64→UInt64→Option (UInt64×Bool)) (y32:UInt64) (y33:UInt64) (hE:z23.Counts.length<4611686018427387904) :
 m_hist_Total_L2 z23 j2 fuel y32 y33 0=scanL z23.Counts (y32,y33)
 (λii xx ss kk=>
 (some xx).bind λz37=>
 kk ((ss.1+z37),(ss.2|||(cry ss.1 z37))))
 (λss=>
 j2 ss.1 ss.2):=scanQ hE (λnn (ss:(UInt64)×(UInt64)) (yy:Int)=>m_hist_Total_L2 z23 j2 nn ss.1 ss.2 yy) (y32,y33)
set_option maxRecDepth 20000 in
theorem m_query_Nth_L1_scan (x0:T_api_Hist) (j1:T_api_Bucket→Option (T_api_Bucket×Bool)) (j4:T_api_Bucket→Option (T_api_Bucket×Bool)) (y56:UInt64) (y57:T_api_Bucket) (hE:x0.Pos.Counts.length<4611686018427387904) :
 m_query_Nth_L1 x0 j1 j4 fuel 0 y56 y57=scanL x0.Pos.Counts (y56,y57)
 (λii xx ss kk=>
 (some xx).bind λz60=>
 jn (λ(y62:Bool) (y63:UInt64) (y64:T_api_Bucket)=>
  (if (!y62)=true then
   (j1 y64)
   else
   (kk (y63,y64)))) λj5=>
 if ((z60).toNat:Int)≥((ss.1).toNat:Int) then
 (j5 false ss.1 (⟨1,W64 (x0.Pos.Offset+(ii:Int))⟩:T_api_Bucket))
 else
 (j5 true (ss.1-z60) ss.2))
 (λss=>
 j4 ss.2):=scanQ hE (λnn (ss:(UInt64)×(T_api_Bucket)) (yy:Int)=>m_query_Nth_L1 x0 j1 j4 nn yy ss.1 ss.2) (y56,y57)
set_option maxRecDepth 20000 in
theorem m_limnographref08_sum_L1_scan (x1:(List UInt64)) (j1:UInt64→Option (UInt64×Bool)) (y5:UInt64) (hE:x1.length<4611686018427387904) :
 m_limnographref08_sum_L1 x1 j1 fuel y5 0=scanL x1 y5
 (λii xx ss kk=>
 (some xx).bind λz9=>
 if ((z9).toNat:Int)>(((18446744073709551615:UInt64)-ss).toNat:Int) then
 (some ((0:UInt64),false))
 else
 ((some xx).bind λz12=>
  kk (ss+z12)))
 (λss=>
 j1 ss):=scanQ hE (λnn (ss:(UInt64)) (yy:Int)=>m_limnographref08_sum_L1 x1 j1 nn ss yy) y5
set_option maxRecDepth 20000 in
theorem m_limnographref37_Steps_L1_scan (x0:T_api_Hist) (j2:(List T_limnographref37_Step)→Option (List T_limnographref37_Step)) (y20:(List T_limnographref37_Step)) (hE:x0.Pos.Counts.length<4611686018427387904) :
 m_limnographref37_Steps_L1 x0 j2 fuel y20 0=scanL x0.Pos.Counts y20
 (λii xx ss kk=>
 (some xx).bind λz27=>
 (appL ss ([(⟨(⟨1,W64 (x0.Pos.Offset+(ii:Int))⟩:T_api_Bucket),z27⟩:T_limnographref37_Step)]:List T_limnographref37_Step)).bind λz33=>
 kk z33)
 (λss=>
 j2 ss):=scanQ hE (λnn (ss:((List T_limnographref37_Step))) (yy:Int)=>m_limnographref37_Steps_L1 x0 j2 nn ss yy) y20
set_option maxRecDepth 20000 in
theorem m_limnographref37_Nth_L1_scan (x1:UInt64) (p24:(List T_limnographref37_Step)) (j1:Unit→Option (T_api_Bucket×Bool)) (y30:UInt64) (hE:p24.length<4611686018427387904) :
 m_limnographref37_Nth_L1 x1 p24 j1 fuel y30 0=scanL p24 y30
 (λii xx ss kk=>
 (some xx).bind λz34=>
 if ((ss+z34.N).toNat:Int)≥((x1).toNat:Int) then
 ((some xx).bind λz36=>
  some (z36.B,true))
 else
 (kk (ss+z34.N)))
 (λss=>
 j1 ()):=scanQ hE (λnn (ss:(UInt64)) (yy:Int)=>m_limnographref37_Nth_L1 x1 p24 j1 nn ss yy) y30
end Go.Proofs.YtffboddbdpagkaaGreatDoor
