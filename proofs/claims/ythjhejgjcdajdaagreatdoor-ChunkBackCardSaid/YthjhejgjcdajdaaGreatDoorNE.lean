import Derived.Test.YthjhejgjcdajdaaGreatDoorVE2
set_option linter.unusedVariables false
set_option linter.unusedSimpArgs false
namespace Go.Proofs.YthjhejgjcdajdaaGreatDoor
open Go Go.RowKit Go.Wk
def gt3:List UInt8:=[0,1,56,2,57,49,28,3,61,58,42,50,38,29,17,4,62,47,59,36,45,43,51,22,53,39,33,30,24,18,12,5,63,55,48,27,60,41,37,16,46,35,44,21,52,32,23,11,54,26,40,15,34,20,31,10,25,14,19,9,13,8,7,6]
structure zA0 where
 Key:(List UInt8)
 Val:(List UInt8)
 deriving DecidableEq
def zA0.rep:Rep zA0:=Rep.map (λx=>(x.Key,x.Val)) (Rep.two zYe zYe)
theorem zA0.flat:zA0.rep.Flat:=zbs _ (zap zUh zUh)
structure zAa where
 Offset:Int
 Counts:(List UInt64)
 deriving DecidableEq
def zAa.rep:Rep zAa:=Rep.map (λx=>(x.Offset,x.Counts)) (Rep.two (zFe .i64) (Rep.sl zAq))
structure zA2 where
 Scale:Int
 Zero:UInt64
 Pos:zAa
 Neg:zAa
 deriving DecidableEq
def zA2.rep:Rep zA2:=Rep.map (λx=>(x.Scale,(x.Zero,(x.Pos,x.Neg)))) (Rep.two (zFe .i64) (Rep.two zAq (Rep.two zAa.rep zAa.rep)))
structure zA8 where
 Name:(List UInt8)
 Attrs:(List zA0)
 Kind:Int
 Temp:Int
 Mono:Bool
 Start:Int
 Time:Int
 Int_:Int
 Re:UInt64
 Im:UInt64
 Hist:zA2
 Flags:Int
 deriving DecidableEq
def zA8.rep:Rep zA8:=Rep.map (λx=>(x.Name,(x.Attrs,(x.Kind,(x.Temp,(x.Mono,(x.Start,(x.Time,(x.Int_,(x.Re,(x.Im,(x.Hist,x.Flags)))))))))))) (Rep.two zYe (Rep.two (Rep.sl zA0.rep) (Rep.two (zFe .i64) (Rep.two (zFe .i64) (Rep.two zh8 (Rep.two (zFe .i64) (Rep.two (zFe .i64) (Rep.two (zFe .i64) (Rep.two zAq (Rep.two zAq (Rep.two zA2.rep (zFe .i64))))))))))))
structure zAc where
 Ord:Int
 Point:zA8
 deriving DecidableEq
def zAc.rep:Rep zAc:=Rep.map (λx=>(x.Ord,x.Point)) (Rep.two (zFe .i64) zA8.rep)
structure zI9 where
 a0:zAa
 a1:zAa
 deriving DecidableEq
structure zA3 where
 b:(List UInt8)
 n:Int
 deriving DecidableEq
structure zA9 where
 n:Int
 last:UInt64
 step:UInt64
 deriving DecidableEq
structure zB where
 ahead:Int
 size:Int
 deriving DecidableEq
structure zAj where
 n:Int
 last:UInt64
 win:zB
 deriving DecidableEq
structure zA4 where
 n:Int
 last:zA2
 deriving DecidableEq
structure zAp where
 ords:zA9
 times:zA9
 spans:zA9
 ints:zA9
 re:zAj
 im:zAj
 hists:zA4
 deriving DecidableEq
structure zAg where
 key:(List UInt8)
 most:Int
 n:Int
 last:Int
 w:zA3
 rows:zAp
 deriving DecidableEq
structure zP1 where
 a0:Int
 a1:Int
 a2:Int
 a3:Int
 deriving DecidableEq
structure zP0 where
 a0:Int
 a1:Int
 a2:Int
 a3:Int
 a4:Int
 deriving DecidableEq
structure zFn where
 scale:Int
 posAt:Int
 posSize:Int
 negAt:Int
 negSize:Int
 deriving DecidableEq
structure zAe where
 b:(List UInt8)
 deriving DecidableEq
structure zAb where
 b:(List UInt8)
 at_:Int
 e:Int
 deriving DecidableEq
structure zA where
 b:(List UInt8)
 n:Int
 at_:Int
 deriving DecidableEq
structure zA6 where
 r:zA
 rows:zAp
 e:Int
 deriving DecidableEq
structure zA1 where
 r:zA
 e:Int
 deriving DecidableEq
structure zAo where
 From:Int
 Size:Int
 deriving DecidableEq
def zAo.rep:Rep zAo:=Rep.map (λx=>(x.From,x.Size)) (Rep.two (zFe .i64) (zFe .i64))
structure zAd where
 L:(List UInt64)
 W:zAo
 deriving DecidableEq
def zAd.rep:Rep zAd:=Rep.map (λx=>(x.L,x.W)) (Rep.two (Rep.sl zAq) zAo.rep)
def zA3.sh (b:Nat) (x:zA3):List Rs→Prop:=λL=>∃ (A1_0:Option Addr) (c1_0:Nat),L=[zAi b 172 [.slice A1_0 (x.b).length c1_0,iv x.n],zAy 5 A1_0 c1_0 zBu x.b]
def zA3.obj (F:Nat→Prop) (b:Nat) (x:zA3):Rs:=zUx F (zA3.sh b x)
theorem zA3.oflat (F:Nat→Prop) (b:Nat) (x:zA3):(zA3.obj F b x).Flat:=zN0 λL hL=>by
 obtain ⟨_,_,rfl⟩:=hL;exact (flC (zEw _ _ _) (flC (zAm zEj _ _ _ _) fl0))
def zA4.sh (b:Nat) (x:zA4):List Rs→Prop:=λL=>∃ (A1_0:Option Addr) (c1_0:Nat) (A1_1:Option Addr) (c1_1:Nat),L=[zAi b 192 [iv x.n,iv x.last.Scale,zAn x.last.Zero,iv x.last.Pos.Offset,.slice A1_0 (x.last.Pos.Counts).length c1_0,iv x.last.Neg.Offset,.slice A1_1 (x.last.Neg.Counts).length c1_1],zAy 35 A1_0 c1_0 zAq x.last.Pos.Counts,zAy 35 A1_1 c1_1 zAq x.last.Neg.Counts]
def zA4.obj (F:Nat→Prop) (b:Nat) (x:zA4):Rs:=zUx F (zA4.sh b x)
theorem zA4.oflat (F:Nat→Prop) (b:Nat) (x:zA4):(zA4.obj F b x).Flat:=zN0 λL hL=>by
 obtain ⟨_,_,_,_,rfl⟩:=hL;exact (flC (zEw _ _ _) (flC (zAm zCz _ _ _ _) (flC (zAm zCz _ _ _ _) fl0)))
def zA9.sh (b:Nat) (x:zA9):List Rs→Prop:=λL=>L=[zAi b 186 [iv x.n,zAn x.last,zAn x.step]]
def zA9.obj (F:Nat→Prop) (b:Nat) (x:zA9):Rs:=zUx F (zA9.sh b x)
theorem zA9.oflat (F:Nat→Prop) (b:Nat) (x:zA9):(zA9.obj F b x).Flat:=zN0 λL hL=>by
 obtain rfl:=hL;exact (flC (zEw _ _ _) fl0)
def zAj.sh (b:Nat) (x:zAj):List Rs→Prop:=λL=>L=[zAi b 190 [iv x.n,zAn x.last,iv x.win.ahead,iv x.win.size]]
def zAj.obj (F:Nat→Prop) (b:Nat) (x:zAj):Rs:=zUx F (zAj.sh b x)
theorem zAj.oflat (F:Nat→Prop) (b:Nat) (x:zAj):(zAj.obj F b x).Flat:=zN0 λL hL=>by
 obtain rfl:=hL;exact (flC (zEw _ _ _) fl0)
def zAg.sh (b:Nat) (x:zAg):List Rs→Prop:=λL=>∃ (F1_0:(Nat→Prop)) (b1_0:Nat) (F1_1:(Nat→Prop)) (b1_1:Nat) (F1_2:(Nat→Prop)) (b1_2:Nat) (F1_3:(Nat→Prop)) (b1_3:Nat) (F1_4:(Nat→Prop)) (b1_4:Nat) (F1_5:(Nat→Prop)) (b1_5:Nat) (F1_6:(Nat→Prop)) (b1_6:Nat) (F1_7:(Nat→Prop)) (b1_7:Nat),L=[zAi b 122 [Str (x.key),iv x.most,iv x.n,iv x.last,pt b1_0 0,pt b1_1 0,pt b1_2 0,pt b1_3 0,pt b1_4 0,pt b1_5 0,pt b1_6 0,pt b1_7 0],zA3.obj F1_0 b1_0 x.w,zA9.obj F1_1 b1_1 x.rows.ords,zA9.obj F1_2 b1_2 x.rows.times,zA9.obj F1_3 b1_3 x.rows.spans,zA9.obj F1_4 b1_4 x.rows.ints,zAj.obj F1_5 b1_5 x.rows.re,zAj.obj F1_6 b1_6 x.rows.im,zA4.obj F1_7 b1_7 x.rows.hists]
def zAg.obj (F:Nat→Prop) (b:Nat) (x:zAg):Rs:=zUx F (zAg.sh b x)
theorem zAg.oflat (F:Nat→Prop) (b:Nat) (x:zAg):(zAg.obj F b x).Flat:=zN0 λL hL=>by
 obtain ⟨_,_,_,_,_,_,_,_,_,_,_,_,_,_,_,_,rfl⟩:=hL;exact (flC (zEw _ _ _) (flC (zA3.oflat _ _ _) (flC (zA9.oflat _ _ _) (flC (zA9.oflat _ _ _) (flC (zA9.oflat _ _ _) (flC (zA9.oflat _ _ _) (flC (zAj.oflat _ _ _) (flC (zAj.oflat _ _ _) (flC (zA4.oflat _ _ _) fl0)))))))))
def zAp.sh (b:Nat) (x:zAp):List Rs→Prop:=λL=>∃ (F1_0:(Nat→Prop)) (b1_0:Nat) (F1_1:(Nat→Prop)) (b1_1:Nat) (F1_2:(Nat→Prop)) (b1_2:Nat) (F1_3:(Nat→Prop)) (b1_3:Nat) (F1_4:(Nat→Prop)) (b1_4:Nat) (F1_5:(Nat→Prop)) (b1_5:Nat) (F1_6:(Nat→Prop)) (b1_6:Nat),L=[zAi b 80 [pt b1_0 0,pt b1_1 0,pt b1_2 0,pt b1_3 0,pt b1_4 0,pt b1_5 0,pt b1_6 0],zA9.obj F1_0 b1_0 x.ords,zA9.obj F1_1 b1_1 x.times,zA9.obj F1_2 b1_2 x.spans,zA9.obj F1_3 b1_3 x.ints,zAj.obj F1_4 b1_4 x.re,zAj.obj F1_5 b1_5 x.im,zA4.obj F1_6 b1_6 x.hists]
def zAp.obj (F:Nat→Prop) (b:Nat) (x:zAp):Rs:=zUx F (zAp.sh b x)
def zAe.sh (b:Nat) (x:zAe):List Rs→Prop:=λL=>∃ (A1_0:Option Addr) (c1_0:Nat),L=[zAi b 179 [.slice A1_0 (x.b).length c1_0],zAy 5 A1_0 c1_0 zBu x.b]
def zAe.obj (F:Nat→Prop) (b:Nat) (x:zAe):Rs:=zUx F (zAe.sh b x)
theorem zAe.oflat (F:Nat→Prop) (b:Nat) (x:zAe):(zAe.obj F b x).Flat:=zN0 λL hL=>by
 obtain ⟨_,_,rfl⟩:=hL;exact (flC (zEw _ _ _) (flC (zAm zEj _ _ _ _) fl0))
def zAb.sh (b:Nat) (x:zAb):List Rs→Prop:=λL=>∃ (A1_0:Option Addr) (c1_0:Nat),L=[zAi b 134 [.slice A1_0 (x.b).length c1_0,iv x.at_,iv x.e],slR A1_0 c1_0 zBu x.b]
def zAb.obj (F:Nat→Prop) (b:Nat) (x:zAb):Rs:=zUx F (zAb.sh b x)
def zA.sh (b:Nat) (x:zA):List Rs→Prop:=λL=>∃ (A1_0:Option Addr) (c1_0:Nat),L=[zAi b 139 [.slice A1_0 (x.b).length c1_0,iv x.n,iv x.at_],slR A1_0 c1_0 zBu x.b]
def zA.obj (F:Nat→Prop) (b:Nat) (x:zA):Rs:=zUx F (zA.sh b x)
def zA6.sh (b:Nat) (p0:Nat) (x:zA6):List Rs→Prop:=λL=>∃ (F1_0:(Nat→Prop)) (F1_1:(Nat→Prop)) (b1_1:Nat) (F1_2:(Nat→Prop)) (b1_2:Nat) (F1_3:(Nat→Prop)) (b1_3:Nat) (F1_4:(Nat→Prop)) (b1_4:Nat) (F1_5:(Nat→Prop)) (b1_5:Nat) (F1_6:(Nat→Prop)) (b1_6:Nat) (F1_7:(Nat→Prop)) (b1_7:Nat),L=[zAi b 83 [pt p0 0,pt b1_1 0,pt b1_2 0,pt b1_3 0,pt b1_4 0,pt b1_5 0,pt b1_6 0,pt b1_7 0,iv x.e],zA.obj F1_0 p0 x.r,zA9.obj F1_1 b1_1 x.rows.ords,zA9.obj F1_2 b1_2 x.rows.times,zA9.obj F1_3 b1_3 x.rows.spans,zA9.obj F1_4 b1_4 x.rows.ints,zAj.obj F1_5 b1_5 x.rows.re,zAj.obj F1_6 b1_6 x.rows.im,zA4.obj F1_7 b1_7 x.rows.hists]
def zA6.obj (F:Nat→Prop) (b:Nat) (p0:Nat) (x:zA6):Rs:=zUx F (zA6.sh b p0 x)
def zA1.sh (b:Nat) (p0:Nat) (x:zA1):List Rs→Prop:=λL=>∃ (F1_0:(Nat→Prop)),L=[zAi b 200 [pt p0 0,iv x.e],zA.obj F1_0 p0 x.r]
def zA1.obj (F:Nat→Prop) (b:Nat) (p0:Nat) (x:zA1):Rs:=zUx F (zA1.sh b p0 x)
def zA2.sh (b:Nat) (x:zA2):List Rs→Prop:=λL=>∃ (A1_0:Option Addr) (c1_0:Nat) (A1_1:Option Addr) (c1_1:Nat),L=[zAi b 40 [iv x.Scale,zAn x.Zero,iv x.Pos.Offset,.slice A1_0 (x.Pos.Counts).length c1_0,iv x.Neg.Offset,.slice A1_1 (x.Neg.Counts).length c1_1],zAy 35 A1_0 c1_0 zAq x.Pos.Counts,zAy 35 A1_1 c1_1 zAq x.Neg.Counts]
def zA2.obj (F:Nat→Prop) (b:Nat) (x:zA2):Rs:=zUx F (zA2.sh b x)
def zIf (x0:UInt8):Option Bool:=
 some (decide ((((x0).toNat:Int)≥97)∧(((x0).toNat:Int)≤122)))
def zEz (z6:(List UInt8)) (j2:Unit→Option Bool):Nat→Int→Option Bool
 | 0,_=>none
 | n+1,y9=>
  if y9<(z6.length:Int) then
  ((idx z6 y9).bind λz12=>
   (zIf z12).bind λp14=>
   if ((((!p14)=true)∧((((z12).toNat:Int)<48)∨(((z12).toNat:Int)>57)))∧(((z12).toNat:Int)≠95))∧(((z12).toNat:Int)≠46) then
   (some false)
   else
   (zEz z6 j2 n (W64 (y9+1))))
  else
  (j2 ())
def zG2 (x0:(List UInt8)):Option Bool:=
 jn (λ(y3:Bool)=>
  (if y3=true then
   (some false)
   else
   ((lenS x0).bind λz6=>
    jn (λ(_:Unit)=>
     (some true)) λj2=>
    zEz z6 j2 fuel 0))) λj1=>
 if (x0=([]:List UInt8))∨((x0.length:Int)>32) then
 (j1 true)
 else
 ((idx x0 0).bind λz26=>
  (zIf z26).bind λp27=>
  j1 (!p27))
def zEc (z4:(List UInt8)) (j1:Unit→Option Bool):Nat→Int→Option Bool
 | 0,_=>none
 | n+1,y7=>
  if y7<(z4.length:Int) then
  ((idx z4 y7).bind λz10=>
   jn (λ(y12:Bool)=>
    (if y12=true then
     (some false)
     else
     (zEc z4 j1 n (W64 (y7+1))))) λj2=>
   if ((z10).toNat:Int)<33 then
   (j2 (decide (((z10).toNat:Int)<33)))
   else
   (if ((z10).toNat:Int)>126 then
    (j2 (decide (((z10).toNat:Int)>126)))
    else
    (if ((z10).toNat:Int)=61 then
     (j2 (decide (((z10).toNat:Int)=61)))
     else
     (if ((z10).toNat:Int)=59 then
      (j2 (decide (((z10).toNat:Int)=59)))
      else
      (j2 (decide (((z10).toNat:Int)=44)))))))
  else
  (j1 ())
def zH9 (x0:(List UInt8)):Option Bool:=
 if (x0=([]:List UInt8))∨((x0.length:Int)>32) then
 (some false)
 else
 ((lenS x0).bind λz4=>
  jn (λ(_:Unit)=>
   (some true)) λj1=>
  zEc z4 j1 fuel 0)
def zJk (x0:zA0) (x1:zA0):Option Bool:=
 some (decide (x0.Key=x1.Key))
def zAx (x0:(List zA0)) (x1_0:zA0) (j1:Unit→Option Int):Nat→Int→Option Int
 | 0,_=>none
 | n+1,y6=>
  if y6<(x0.length:Int) then
  ((idx x0 y6).bind λz9=>
   (zJk z9 x1_0).bind λp11=>
   if p11=true then
   (some y6)
   else
   (zAx x0 x1_0 j1 n (W64 (y6+1))))
  else
  (j1 ())
def zDd (x0:(List zA0)) (x1_0:zA0):Option Int:=
 jn (λ(_:Unit)=>
  (some (-1))) λj1=>
 zAx x0 x1_0 j1 fuel 0
def zBe (x0:(List zA0)) (x1_0:zA0):Option Bool:=
 (zDd x0 x1_0).bind λp5=>
 some (decide (p5≥0))
def zFm (x1:(List zA0)) (j1:Unit→Option Int):Nat→Int→Option Int
 | 0,_=>none
 | n+1,y8=>
  if y8<(x1.length:Int) then
  ((idx x1 y8).bind λz11=>
   (zG2 z11.Key).bind λp18=>
   jn (λ(y20:Bool)=>
    (if y20=true then
     (some 3)
     else
     ((zNt x1 0 y8).bind λz23=>
      (zBe z23 z11).bind λp25=>
      if p25=true then
      (some 8)
      else
      (zFm x1 j1 n (W64 (y8+1)))))) λj2=>
   if (!p18)=true then
   (j2 true)
   else
   ((zH9 z11.Val).bind λp29=>
    j2 (!p29)))
  else
  (j1 ())
def zJl (x0:(List UInt8)) (x1:(List zA0)):Option Int:=
 (zG2 x0).bind λp3=>
 if (!p3)=true then
 (some 3)
 else
 (if (x1.length:Int)>4 then
  (some 4)
  else
  (jn (λ(_:Unit)=>
   (some 0)) λj1=>
   zFm x1 j1 fuel 0))
def zL6 (x0:zA8):Option Bool:=
 if x0.Kind=3 then
 (some (decide (x0.Temp=0)))
 else
 (jn (λ(y14:Bool)=>
  (if y14=true then
   (some (decide ((x0.Temp=1)∨(x0.Temp=2))))
   else
   (some false))) λj1=>
  if x0.Kind=1 then
  (j1 (decide (x0.Kind=1)))
  else
  (if x0.Kind=2 then
   (j1 (decide (x0.Kind=2)))
   else
   (if x0.Kind=4 then
    (j1 (decide (x0.Kind=4)))
    else
    (j1 (decide (x0.Kind=5))))))
def zPd (x0:zA8):Option Bool:=
 some (decide ((x0.Kind=1)∨(x0.Kind=2)))
def zL5 (x0:zA8):Option Bool:=
 if (x0.Start<0)∨(x0.Time>4503599627370496) then
 (some false)
 else
 (if x0.Kind=3 then
  (some (decide (x0.Start=x0.Time)))
  else
  (some (decide (x0.Start<x0.Time))))
def zMg (x0:zA2):Option Bool:=
 jn (λ(y16:Bool)=>
  (some y16)) λj1=>
 if (((x0.Scale=0)∧(((x0.Zero).toNat:Int)=0))∧(x0.Pos.Offset=0))∧(x0.Neg.Offset=0) then
 (j1 (decide (W64 ((x0.Pos.Counts.length:Int)+(x0.Neg.Counts.length:Int))=0)))
 else
 (j1 false)
def zNk (x0:zA8):Option Bool:=
 jn (λ(y19:Bool)=>
  (if y19=true then
   (some false)
   else
   (some true))) λj1=>
 if (x0.Kind≠1)∧(x0.Int_≠0) then
 (j1 (decide ((x0.Kind≠1)∧(x0.Int_≠0))))
 else
 (if (¬(((x0.Kind=2)∨(x0.Kind=3))∨(x0.Kind=5)))∧(((x0.Re).toNat:Int)≠0) then
  (j1 (decide ((¬(((x0.Kind=2)∨(x0.Kind=3))∨(x0.Kind=5)))∧(((x0.Re).toNat:Int)≠0))))
  else
  (if (x0.Kind≠5)∧(((x0.Im).toNat:Int)≠0) then
   (j1 (decide ((x0.Kind≠5)∧(((x0.Im).toNat:Int)≠0))))
   else
   (jn (λ(y29:Bool)=>
    (if y29=true then
     (j1 y29)
     else
     (j1 (decide ((x0.Flags<0)∨(x0.Flags>31)))))) λj2=>
    if x0.Kind≠4 then
    ((zMg x0.Hist).bind λp35=>
     j2 (!p35))
    else
    (j2 false))))
def zMi (x0:UInt64):Option Bool:=
 some (decide (((x0&&&(9218868437227405312:UInt64)).toNat:Int)≠9218868437227405312))
def zRi (x0:UInt64):Option UInt64:=
 some x0
def zOx (x0:UInt64) (x1:UInt64):Option Bool:=
 (zRi x0).bind λp1=>
 (zRi x1).bind λp3=>
 some (zc0 p1 p3)
def zKq (x0:zA2):Option zI9:=
 some (⟨x0.Pos,x0.Neg⟩:zI9)
def zMk (x0:zAa):Option Int:=
 if (x0.Counts.length:Int)>160 then
 (some 4)
 else
 (if ((x0.Counts.length:Int)=0)∧(x0.Offset≠0) then
  (some 3)
  else
  (if (x0.Counts.length:Int)=0 then
   (some 0)
   else
   ((idx x0.Counts 0).bind λz12=>
    jn (λ(y14:Bool)=>
     (if y14=true then
      (some 3)
      else
      (jn (λ(y17:Bool)=>
       (if y17=true then
        (some 1)
        else
        (some 0))) λj2=>
       if x0.Offset<(-1073741824) then
       (j2 true)
       else
       (j2 (decide (x0.Offset>W64 (1073741824-(W64 ((x0.Counts.length:Int)-1))))))))) λj1=>
    if ((z12).toNat:Int)=0 then
    (j1 true)
    else
    ((idx x0.Counts (W64 ((x0.Counts.length:Int)-1))).bind λz22=>
     j1 (decide (((z22).toNat:Int)=0))))))
def zFb (z23:zAa) (j2:UInt64→UInt64→Option (UInt64×Bool)):Nat→UInt64→UInt64→Int→Option (UInt64×Bool)
 | 0,_,_,_=>none
 | n+1,y32,y33,y34=>
  if y34<(z23.Counts.length:Int) then
  ((idx z23.Counts y34).bind λz37=>
   zFb z23 j2 n (y32+z37) (y33|||(cry y32 z37)) (W64 (y34+1)))
  else
  (j2 y32 y33)
def zDq (p10:zI9) (j1:UInt64→UInt64→Option (UInt64×Bool)):Nat→UInt64→UInt64→Int→Option (UInt64×Bool)
 | 0,_,_,_=>none
 | n+1,y18,y19,y20=>
  if y20<2 then
  ((idx ([p10.a0,p10.a1]:List zAa) y20).bind λz23=>
   jn (λ(y29:UInt64) (y30:UInt64)=>
    (zDq p10 j1 n y29 y30 (W64 (y20+1)))) λj2=>
   zFb z23 j2 fuel y18 y19 0)
  else
  (j1 y18 y19)
def zMl (x0:zA2):Option (UInt64×Bool):=
 (zKq x0).bind λp10=>
 jn (λ(y14:UInt64) (y15:UInt64)=>
  (if ((y15).toNat:Int)≠0 then
   (some ((0:UInt64),false))
   else
   (some (y14,true)))) λj1=>
 zDq p10 j1 fuel x0.Zero (0:UInt64) 0
def zFc (p13:zI9) (j1:Unit→Option Int):Nat→Int→Option Int
 | 0,_=>none
 | n+1,y21=>
  if y21<2 then
  ((idx ([p13.a0,p13.a1]:List zAa) y21).bind λz24=>
   (zMk z24).bind λp30=>
   if p30≠0 then
   (some p30)
   else
   (zFc p13 j1 n (W64 (y21+1))))
  else
  (j1 ())
def zHd (x0:zA2):Option Int:=
 if (x0.Scale<(-10))∨(x0.Scale>20) then
 (some 1)
 else
 ((zKq x0).bind λp13=>
  jn (λ(_:Unit)=>
   ((zMl x0).bind λp18=>
    if (!p18.2)=true then
    (some 4)
    else
    (some 0))) λj1=>
  zFc p13 j1 fuel 0)
def zF1 (x0:zA8):Option Int:=
 (zJl x0.Name x0.Attrs).bind λp13=>
 if p13≠0 then
 (some p13)
 else
 ((zL6 x0).bind λp16=>
  if (!p16)=true then
  (some 14)
  else
  (jn (λ(y19:Bool)=>
   (jn (λ(y21:Bool)=>
    (if y21=true then
     (some 1)
     else
     ((zNk x0).bind λp24=>
      if (!p24)=true then
      (some 3)
      else
      (jn (λ(y29:Bool)=>
       (if y29=true then
        (some 11)
        else
        (jn (λ(y32:Bool)=>
         (if y32=true then
          (some 1)
          else
          (if x0.Kind=4 then
           ((zHd x0.Hist).bind λp36=>
            some p36)
           else
           (some 0)))) λj4=>
         if x0.Mono=true then
         (jn (λ(y39:Bool)=>
          (j4 y39)) λj5=>
          if x0.Int_<0 then
          (j5 true)
          else
          ((zOx x0.Re (0:UInt64)).bind λp42=>
           j5 p42))
         else
         (j4 false)))) λj3=>
       if (x0.Mono=true)∧(x0.Kind=2) then
       ((zMi x0.Re).bind λp45=>
        j3 (!p45))
       else
       (j3 false))))) λj2=>
    if y19=true then
    (j2 y19)
    else
    ((zL5 x0).bind λp48=>
     j2 (!p48)))) λj1=>
   if x0.Mono=true then
   ((zPd x0).bind λp51=>
    j1 (!p51))
   else
   (j1 false)))
def zCl (x0:(List zA0)):Option (List zA0):=
 zDu [] x0
def zHy (x0:(List UInt8)):Option Bool:=
 some (decide (x0≠x0))
def zIq (x0:(List UInt8)) (x1:(List UInt8)):Option Int:=
 (zHy x0).bind λp1=>
 (zHy x1).bind λp3=>
 if p1=true then
 (if p3=true then
  (some 0)
  else
  (some (-1)))
 else
 (if p3=true then
  (some 1)
  else
  (if (Op.bytesLess x0 x1)=true then
   (some (-1))
   else
   (if (Op.bytesLess x1 x0)=true then
    (some 1)
    else
    (some 0))))
def zJ1 (x0:zA0) (x1:zA0):Option Int:=
 (zIq x0.Key x1.Key).bind λp7=>
 some p7
def zAu (x1:Int) (j2:(List zA0)→Option (List zA0)):Nat→(List zA0)→Int→Option (List zA0)
 | 0,_,_=>none
 | n+1,y10,y11=>
  jn (λ(y13:Bool)=>
   (if y13=true then
    ((idx y10 (W64 (y11-1))).bind λz17=>
     (idx y10 y11).bind λz18=>
     (idx y10 y11).bind λz20=>
     (idx (zLd y10 y11 z17) (W64 (y11-1))).bind λz22=>
     zAu x1 j2 n (zLd (zLd y10 y11 z17) (W64 (y11-1)) z18) (W64 (y11-1)))
    else
    (j2 y10))) λj3=>
  if y11>x1 then
  ((idx y10 y11).bind λz30=>
   (idx y10 (W64 (y11-1))).bind λz31=>
   (zJ1 z30 z31).bind λp32=>
   j3 (decide (p32<0)))
  else
  (j3 false)
def zAr (x1:Int) (x2:Int) (j1:(List zA0)→Option (List zA0)):Nat→(List zA0)→Int→Option (List zA0)
 | 0,_,_=>none
 | n+1,y4,y5=>
  if y5<x2 then
  (jn (λ(y8:(List zA0))=>
   (zAr x1 x2 j1 n y8 (W64 (y5+1)))) λj2=>
   zAu x1 j2 fuel y4 y5)
  else
  (j1 y4)
def zB5 (x0:(List zA0)) (x1:Int) (x2:Int):Option (List zA0):=
 jn (λ(y2:(List zA0))=>
  (some y2)) λj1=>
 zAr x1 x2 j1 fuel x0 (W64 (x1+1))
def zBd (x1:Int) (j2:Unit→Option (List zA0)):Nat→Int→Option (List zA0)
 | 0,_=>none
 | n+1,y10=>
  if y10<x1 then
  (none)
  else
  (j2 ())
def zB4 (x1:Int) (j1:(List zA0)→Int→Option (List zA0)):Nat→(List zA0)→Int→Int→Option (List zA0)
 | 0,_,_,_=>none
 | n+1,y13,y14,y15=>
  if y15≤x1 then
  ((zB5 y13 y14 y15).bind λp18=>
   zB4 x1 j1 n p18 y15 (W64 (y15+20)))
  else
  (j1 y13 y14)
def zD2 (x0:(List zA0)) (x1:Int):Option (List zA0):=
 jn (λ(y2:(List zA0)) (y3:Int)=>
  ((zB5 y2 y3 x1).bind λp5=>
   jn (λ(_:Unit)=>
    (some p5)) λj2=>
   zBd x1 j2 fuel 20)) λj1=>
 zB4 x1 j1 fuel x0 0 20
def zCq (x0:(List zA0)):Option (List zA0):=
 (zD2 x0 (x0.length:Int)).bind λp2=>
 some p2
def zKf (x0:(List zA0)):Option (List zA0):=
 (zCl x0).bind λp3=>
 (zCq p3).bind λp6=>
 some p6
def zFa (p13:(List zA0)) (j1:(List UInt8)→Option ((List UInt8)×Int)):Nat→Int→(List UInt8)→Option ((List UInt8)×Int)
 | 0,_,_=>none
 | n+1,y22,y23=>
  if y22<(p13.length:Int) then
  ((idx p13 y22).bind λz27=>
   (catS ([59]:List UInt8) z27.Key).bind λz31=>
   (catS z31 ([61]:List UInt8)).bind λz32=>
   (catS z32 z27.Val).bind λz33=>
   (zDu y23 z33).bind λz34=>
   zFa p13 j1 n (W64 (y22+1)) z34)
  else
  (j1 y23)
def zKo (x0:(List UInt8)) (x1:(List zA0)):Option ((List UInt8)×Int):=
 (zJl x0 x1).bind λp3=>
 if p3≠0 then
 (some (([]:List UInt8),p3))
 else
 ((zDu ([]:List UInt8) x0).bind λz10=>
  (zKf x1).bind λp13=>
  jn (λ(y16:(List UInt8))=>
   (some (y16,0))) λj1=>
  zFa p13 j1 fuel 0 z10)
def zNl (x0:Bool):Option Int:=
 if x0=true then
 (some 1)
 else
 (some 0)
def zLl (x0:zA8):Option ((List UInt8)×Int):=
 (zF1 x0).bind λp13=>
 if p13≠0 then
 (some (([]:List UInt8),p13))
 else
 ((zKo x0.Name x0.Attrs).bind λp16=>
  (catS p16.1 ([32]:List UInt8)).bind λz19=>
  (zNl x0.Mono).bind λp20=>
  (catS z19 ([toU8 (W64 (48+x0.Kind)),toU8 (W64 (48+x0.Temp)),toU8 (W64 (48+p20))]:List UInt8)).bind λz25=>
  some (z25,0))
def zKa  : Option zA3:=
 some (⟨([]:List UInt8),0⟩:zA3)
def zHf  : Option zA9:=
 some (⟨0,(0:UInt64),(0:UInt64)⟩:zA9)
def zKi  : Option zAj:=
 some (⟨0,(0:UInt64),(⟨0,0⟩:zB)⟩:zAj)
def zIh  : Option zA4:=
 some (⟨0,(⟨0,(0:UInt64),(⟨0,([]:List UInt64)⟩:zAa),(⟨0,([]:List UInt64)⟩:zAa)⟩:zA2)⟩:zA4)
def zGd  : Option zAp:=
 (zHf).bind λp4=>
 (zHf).bind λp7=>
 (zHf).bind λp10=>
 (zHf).bind λp13=>
 (zKi).bind λp16=>
 (zKi).bind λp19=>
 (zIh).bind λp22=>
 some (⟨p4,p7,p10,p13,p16,p19,p22⟩:zAp)
def zNp (x0:zA8) (x1:Int):Option ((Option zAg)×Int):=
 (zLl x0).bind λp13=>
 if p13.2≠0 then
 (some ((none:Option zAg),p13.2))
 else
 ((zKa).bind λp18=>
  (zGd).bind λp21=>
  some ((some (⟨p13.1,x1,0,(-1),p18,p21⟩:zAg)),0))
def zEf (x0:zA3):Option Int:=
 some x0.n
def zGq (x0:zA9):Option zA9:=
 some x0
def zJg (x0:zAj):Option zAj:=
 some x0
def zDb (x0:(List UInt64)):Option (List UInt64):=
 zDu [] x0
def zE1 (x0:zA2):Option zA2:=
 (zDb x0.Pos.Counts).bind λp14=>
 (zDb x0.Neg.Counts).bind λp17=>
 some (⟨x0.Scale,x0.Zero,(⟨x0.Pos.Offset,p14⟩:zAa),(⟨x0.Neg.Offset,p17⟩:zAa)⟩:zA2)
def zIp (x0:zA4):Option zA4:=
 (zE1 x0.last).bind λp12=>
 some (⟨x0.n,p12⟩:zA4)
def zHz (x0:zAp):Option zAp:=
 (zGq x0.ords).bind λp34=>
 (zGq x0.times).bind λp37=>
 (zGq x0.spans).bind λp40=>
 (zGq x0.ints).bind λp43=>
 (zJg x0.re).bind λp46=>
 (zJg x0.im).bind λp49=>
 (zIp x0.hists).bind λp52=>
 some (⟨p34,p37,p40,p43,p46,p49,p52⟩:zAp)
def zOw (x0:Int):Option UInt64:=
 some (((zAf x0)<<<UInt64.ofNat 1)^^^(zAf (shrZ x0 63)))
def zI3  : Option zP1:=
 some (⟨0,7,20,64⟩:zP1)
def zF5 (x0:UInt64) (p1:zP1) (j1:Unit→Option Int):Nat→Int→Option Int
 | 0,_=>none
 | n+1,y4=>
  if y4<4 then
  ((idx ([p1.a0,p1.a1,p1.a2,p1.a3]:List Int) y4).bind λz7=>
   if ((shr64 x0 ((zAf z7).toNat)).toNat:Int)=0 then
   (some y4)
   else
   (zF5 x0 p1 j1 n (W64 (y4+1))))
  else
  (j1 ())
def zJ9 (x0:UInt64):Option Int:=
 (zI3).bind λp1=>
 jn (λ(_:Unit)=>
  (some 3)) λj1=>
 zF5 x0 p1 j1 fuel 0
def zDg (x0:zA3):Option Int:=
 some (W64 ((W64 (8*(x0.b.length:Int)))-x0.n))
def zCy (x1:UInt64) (j2:zA3→Option (Bool×zA3)):Nat→Int→zA3→Option (Bool×zA3)
 | 0,_,_=>none
 | n+1,y10,y11=>
  if y10>0 then
  ((zDg y11).bind λp14=>
   jn (λ(y16:zA3)=>
    ((zDg y16).bind λp18=>
     jn (λ(y21:UInt64)=>
      ((idx y16.b (W64 ((y16.b.length:Int)-1))).bind λz26=>
       (idx y16.b (W64 ((y16.b.length:Int)-1))).bind λz27=>
       zCy x1 j2 n (W64 (y10-(min y10 p18))) (⟨(zLd y16.b (W64 ((y16.b.length:Int)-1)) (z26|||(toU8 ((shl64 y21 ((zAf (W64 (p18-(min y10 p18)))).toNat)).toNat:Int)))),W64 (y16.n+(min y10 p18))⟩:zA3))) λj4=>
     if min y10 p18<64 then
     (j4 ((shr64 x1 ((zAf (W64 (y10-(min y10 p18)))).toNat))&&&((shl64 (1:UInt64) ((zAf (min y10 p18)).toNat))-(1:UInt64))))
     else
     (j4 (shr64 x1 ((zAf (W64 (y10-(min y10 p18)))).toNat))))) λj3=>
   if p14=0 then
   ((zDu y11.b [(0:UInt8)]).bind λz38=>
    j3 (⟨z38,y11.n⟩:zA3))
   else
   (j3 y11))
  else
  (j2 y11)
def zAk (x0:zA3) (x1:UInt64) (x2:Int):Option (Bool×zA3):=
 jn (λ(y5:Bool)=>
  (if y5=true then
   (some (false,x0))
   else
   (jn (λ(y8:zA3)=>
    (some (true,y8))) λj2=>
    zCy x1 j2 fuel x2 x0))) λj1=>
 if (x2<0)∨(x2>64) then
 (j1 true)
 else
 (jn (λ(y46:Bool)=>
  (j1 y46)) λj5=>
  if x2<64 then
  (j5 (decide (((shr64 x1 ((zAf x2).toNat)).toNat:Int)≠0)))
  else
  (j5 false))
def zIa (x0:zA3) (x1:UInt64):Option zA3:=
 (zJ9 x1).bind λp2=>
 (zAk x0 (zAf p2) 2).bind λp4=>
 (zI3).bind λp8=>
 (idx ([p8.a0,p8.a1,p8.a2,p8.a3]:List Int) p2).bind λz10=>
 (zAk p4.2 x1 z10).bind λp11=>
 some p11.2
def zF0 (x0:zA3) (x1:Int):Option zA3:=
 (zOw x1).bind λp2=>
 (zIa x0 p2).bind λp4=>
 some p4
def zGr  : Option zP0:=
 some (⟨0,6,10,16,64⟩:zP0)
def zLk (x0:Int) (x1:Int):Option Bool:=
 if x1=0 then
 (some (decide (x0=0)))
 else
 (if x1=64 then
  (some true)
  else
  (jn (λ(y3:Bool)=>
   (some y3)) λj1=>
   if x0≥shlZ (-1) ((zAf (W64 (x1-1))).toNat) then
   (j1 (decide (x0<shlZ 1 ((zAf (W64 (x1-1))).toNat))))
   else
   (j1 false)))
def zGs (x0:Int) (p1:zP0) (j1:Unit→Option Int):Nat→Int→Option Int
 | 0,_=>none
 | n+1,y4=>
  if y4<5 then
  ((idx ([p1.a0,p1.a1,p1.a2,p1.a3,p1.a4]:List Int) y4).bind λz7=>
   (zLk x0 z7).bind λp8=>
   if p8=true then
   (some y4)
   else
   (zGs x0 p1 j1 n (W64 (y4+1))))
  else
  (j1 ())
def zN2 (x0:Int):Option Int:=
 (zGr).bind λp1=>
 jn (λ(_:Unit)=>
  (some 4)) λj1=>
 zGs x0 p1 j1 fuel 0
def zEy (x0:zA9) (x1:UInt64):Option zA9:=
 jn (λ(y2:zA9)=>
  (some (⟨W64 (y2.n+1),x1,y2.step⟩:zA9))) λj1=>
 if x0.n>0 then
 (j1 (⟨x0.n,x0.last,x1-x0.last⟩:zA9))
 else
 (j1 x0)
def zDw (p20:Int) (j2:zA3→Option (zA3×zA9)):Nat→Int→zA3→Option (zA3×zA9)
 | 0,_,_=>none
 | n+1,y38,y39=>
  if y38<p20 then
  ((zAk y39 (1:UInt64) 1).bind λp42=>
   zDw p20 j2 n (W64 (y38+1)) p42.2)
  else
  (j2 y39)
def zG0 (x0:zA9) (x1:zA3) (x2:Int):Option (zA3×zA9):=
 jn (λ(y3:zA3)=>
  ((zEy x0 (zAf x2)).bind λp5=>
   some (y3,p5))) λj1=>
 if x0.n=0 then
 ((zF0 x1 x2).bind λp10=>
  j1 p10)
 else
 (if x0.n=1 then
  ((zF0 x1 (W64 (((zAf x2)-x0.last).toNat:Int))).bind λp15=>
   j1 p15)
  else
  ((zN2 (W64 ((((zAf x2)-x0.last)-x0.step).toNat:Int))).bind λp20=>
   jn (λ(y22:zA3)=>
    (jn (λ(y24:zA3)=>
     ((zGr).bind λp26=>
      (idx ([p26.a0,p26.a1,p26.a2,p26.a3,p26.a4]:List Int) p20).bind λz28=>
      (zAk y24 (shr64 (shl64 (zAf (W64 ((((zAf x2)-x0.last)-x0.step).toNat:Int))) ((zAf (W64 (64-z28))).toNat)) ((zAf (W64 (64-z28))).toNat)) z28).bind λp29=>
      j1 p29.2)) λj3=>
     if p20<4 then
     ((zAk y22 (0:UInt64) 1).bind λp34=>
      j3 p34.2)
     else
     (j3 y22))) λj2=>
   zDw p20 j2 fuel 0 x1))
def zHl (x0:zA2):Option zFn:=
 some (⟨x0.Scale,x0.Pos.Offset,(x0.Pos.Counts.length:Int),x0.Neg.Offset,(x0.Neg.Counts.length:Int)⟩:zFn)
def zD5 (x0:zA2):Option (List UInt64):=
 (zDu ([x0.Zero]:List UInt64) x0.Pos.Counts).bind λz13=>
 (zDu z13 x0.Neg.Counts).bind λz15=>
 some z15
def zCd (p43:(List UInt64)) (p46:(List UInt64)) (j3:zA3→Option (Int×zA4×zA3)):Nat→Int→zA3→Option (Int×zA4×zA3)
 | 0,_,_=>none
 | n+1,y55,y56=>
  if y55<(p46.length:Int) then
  ((idx p46 y55).bind λz59=>
   (idx p43 y55).bind λz60=>
   (zF0 y56 (W64 ((z59-z60).toNat:Int))).bind λp61=>
   zCd p43 p46 j3 n (W64 (y55+1)) p61)
  else
  (j3 y56)
def zCc (p79:(List UInt64)) (j5:zA3→Option (Int×zA4×zA3)):Nat→Int→zA3→Option (Int×zA4×zA3)
 | 0,_,_=>none
 | n+1,y86,y87=>
  if y86<(p79.length:Int) then
  ((idx p79 y86).bind λz90=>
   (zIa y87 z90).bind λp91=>
   zCc p79 j5 n (W64 (y86+1)) p91)
  else
  (j5 y87)
def zBo (x2:zA2) (j4:zA3→Option (Int×zA4×zA3)):Nat→Int→zA3→Option (Int×zA4×zA3)
 | 0,_,_=>none
 | n+1,y96,y97=>
  if y96<(([x2.Pos,x2.Neg]:List zAa).length:Int) then
  (jn (λ(y101:zA3)=>
   (zBo x2 j4 n (W64 (y96+1)) y101)) λj6=>
   (idx ([x2.Pos,x2.Neg]:List zAa) y96).bind λz103=>
   (zAk y97 (zAf (z103.Counts.length:Int)) 8).bind λp110=>
   if (z103.Counts.length:Int)>0 then
   ((zF0 p110.2 z103.Offset).bind λp115=>
    j6 p115)
   else
   (j6 p110.2))
  else
  (j4 y97)
def zFk (x0:zA4) (x1:zA3) (x2:zA2):Option (Int×zA4×zA3):=
 (zHd x2).bind λp12=>
 if p12≠0 then
 (some (p12,x0,x1))
 else
 (jn (λ(y17:Bool)=>
  (jn (λ(y20:zA3)=>
   ((zE1 x2).bind λp27=>
    some (0,(⟨W64 (x0.n+1),p27⟩:zA4),y20))) λj2=>
   if y17=true then
   ((zAk x1 (1:UInt64) 1).bind λp36=>
    (zD5 x0.last).bind λp43=>
    (zD5 x2).bind λp46=>
    jn (λ(y52:zA3)=>
     (j2 y52)) λj3=>
    zCd p43 p46 j3 fuel 0 p36.2)
   else
   ((zAk x1 (0:UInt64) 1).bind λp65=>
    (zAk p65.2 (zAf (W64 (x2.Scale-(-10)))) 5).bind λp69=>
    jn (λ(y77:zA3)=>
     ((zD5 x2).bind λp79=>
      jn (λ(y83:zA3)=>
       (j2 y83)) λj5=>
      zCc p79 j5 fuel 0 y77)) λj4=>
    zBo x2 j4 fuel 0 p69.2))) λj1=>
  if x0.n>0 then
  ((zHl x2).bind λp124=>
   (zHl x0.last).bind λp126=>
   j1 (decide (p124=p126)))
  else
  (j1 false))
def zH8 (x0:UInt64):Option Int:=
 jn (λ(y1:UInt64) (y2:Int)=>
  (jn (λ(y4:UInt64) (y5:Int)=>
   (jn (λ(y7:UInt64) (y8:Int)=>
    ((idx ([0,1,2,2,3,3,3,3,4,4,4,4,4,4,4,4,5,5,5,5,5,5,5,5,5,5,5,5,5,5,5,5,6,6,6,6,6,6,6,6,6,6,6,6,6,6,6,6,6,6,6,6,6,6,6,6,6,6,6,6,6,6,6,6,7,7,7,7,7,7,7,7,7,7,7,7,7,7,7,7,7,7,7,7,7,7,7,7,7,7,7,7,7,7,7,7,7,7,7,7,7,7,7,7,7,7,7,7,7,7,7,7,7,7,7,7,7,7,7,7,7,7,7,7,7,7,7,7,8,8,8,8,8,8,8,8,8,8,8,8,8,8,8,8,8,8,8,8,8,8,8,8,8,8,8,8,8,8,8,8,8,8,8,8,8,8,8,8,8,8,8,8,8,8,8,8,8,8,8,8,8,8,8,8,8,8,8,8,8,8,8,8,8,8,8,8,8,8,8,8,8,8,8,8,8,8,8,8,8,8,8,8,8,8,8,8,8,8,8,8,8,8,8,8,8,8,8,8,8,8,8,8,8,8,8,8,8,8,8,8,8,8,8,8,8,8,8,8,8,8,8,8,8,8,8,8]:List UInt8) ((toU8 ((y7).toNat:Int)).toNat:Int)).bind λz10=>
     some (W64 (y8+(z10.toNat:Int))))) λj3=>
    if ((y4).toNat:Int)≥256 then
    (j3 (y4>>>UInt64.ofNat 8) (W64 (y5+8)))
    else
    (j3 y4 y5))) λj2=>
   if ((y1).toNat:Int)≥65536 then
   (j2 (y1>>>UInt64.ofNat 16) (W64 (y2+16)))
   else
   (j2 y1 y2))) λj1=>
 if ((x0).toNat:Int)≥4294967296 then
 (j1 (x0>>>UInt64.ofNat 32) 32)
 else
 (j1 x0 0)
def zDk (x0:UInt64):Option Int:=
 (zH8 x0).bind λp1=>
 some (W64 (64-p1))
def zDe (x0:UInt64):Option Int:=
 if ((x0).toNat:Int)=0 then
 (some 64)
 else
 ((idx gt3 ((((x0&&&(0-x0))*(285870213051353865:UInt64))>>>UInt64.ofNat 58).toNat:Int)).bind λz4=>
  some (z4.toNat:Int))
def zB7 (x0:zB):Option Int:=
 some (W64 ((W64 (64-x0.ahead))-x0.size))
def zFf (x0:zB) (x1:UInt64):Option Bool:=
 if ¬(x0=(⟨0,0⟩:zB)) then
 ((zDk x1).bind λp10=>
  if p10≥x0.ahead then
  ((zDe x1).bind λp13=>
   (zB7 x0).bind λp15=>
   some (decide (p13≥p15)))
  else
  (some false))
 else
 (some false)
def zJ8 (x0:UInt64):Option zB:=
 (zDk x0).bind λp6=>
 (zDe x0).bind λp8=>
 some (⟨min p6 31,W64 ((W64 (64-(min p6 31)))-p8)⟩:zB)
def zF (x0:zAj) (x1:zA3) (x2:UInt64):Option (zA3×zAj):=
 jn (λ(y5:zA3) (y6:zAj)=>
  (some (y5,(⟨W64 (y6.n+1),x2,y6.win⟩:zAj)))) λj1=>
 if x0.n=0 then
 ((zAk x1 x2 64).bind λp13=>
  j1 p13.2 x0)
 else
 (if ((x2^^^x0.last).toNat:Int)=0 then
  ((zAk x1 (0:UInt64) 1).bind λp18=>
   j1 p18.2 x0)
  else
  ((zFf x0.win (x2^^^x0.last)).bind λp22=>
   if p22=true then
   ((zAk x1 (2:UInt64) 2).bind λp25=>
    (zB7 x0.win).bind λp30=>
    (zAk p25.2 (shr64 (x2^^^x0.last) ((zAf p30).toNat)) x0.win.size).bind λp32=>
    j1 p32.2 x0)
   else
   ((zJ8 (x2^^^x0.last)).bind λp36=>
    (zAk x1 (3:UInt64) 2).bind λp40=>
    (zAk p40.2 (zAf p36.ahead) 5).bind λp44=>
    (zAk p44.2 (zAf (W64 (p36.size-1))) 6).bind λp48=>
    (zB7 p36).bind λp57=>
    (zAk p48.2 (shr64 (x2^^^x0.last) ((zAf p57).toNat)) p36.size).bind λp59=>
    j1 p59.2 (⟨x0.n,x0.last,p36⟩:zAj))))
def zJ3 (x0:zAp) (x1:zA3) (x2:Int) (x3:zA8):Option (zA9×zA9×zA9×zA9×zAj×zAj×zA4×zA3):=
 (zG0 x0.ords x1 x2).bind λp25=>
 (zG0 x0.times p25.1 x3.Time).bind λp31=>
 jn (λ(y41:zA9) (y42:zA3)=>
  ((zIa y42 (zAf x3.Flags)).bind λp44=>
   if x3.Kind=1 then
   ((zG0 x0.ints p44 x3.Int_).bind λp49=>
    some (p25.2,p31.2,y41,p49.2,x0.re,x0.im,x0.hists,p49.1))
   else
   (if x3.Kind=4 then
    ((zFk x0.hists p44 x3.Hist).bind λp62=>
     some (p25.2,p31.2,y41,x0.ints,x0.re,x0.im,p62.2.1,p62.2.2))
    else
    (if x3.Kind=5 then
     ((zF x0.re p44 x3.Re).bind λp74=>
      (zF x0.im p74.1 x3.Im).bind λp84=>
      some (p25.2,p31.2,y41,x0.ints,p74.2,p84.2,x0.hists,p84.1))
     else
     ((zF x0.re p44 x3.Re).bind λp102=>
      some (p25.2,p31.2,y41,x0.ints,p102.2,x0.im,x0.hists,p102.1)))))) λj1=>
 if x3.Kind≠3 then
 ((zG0 x0.spans p31.1 (W64 (x3.Time-x3.Start))).bind λp119=>
  j1 p119.2 p119.1)
 else
 (j1 x0.spans p31.1)
def zKx  : Option zAe:=
 some (⟨([]:List UInt8)⟩:zAe)
def zJi (x0:UInt64):Option Int:=
 (zH8 x0).bind λp1=>
 if p1>56 then
 (some 8)
 else
 ((quoZ (max (W64 (p1-1)) 0) 7).bind λz4=>
  some z4)
def zD6 (x1:UInt64) (j2:zAe→Option zAe):Nat→Int→zAe→Option zAe
 | 0,_,_=>none
 | n+1,y17,y18=>
  if y17>0 then
  ((zDu y18.b [toU8 ((shr64 x1 ((zAf (W64 ((W64 (8*y17))-8))).toNat)).toNat:Int)]).bind λz23=>
   zD6 x1 j2 n (W64 (y17-1)) (⟨z23⟩:zAe))
  else
  (j2 y18)
def zG3 (x0:zAe) (x1:UInt64):Option zAe:=
 (zJi x1).bind λp2=>
 jn (λ(y5:UInt8)=>
  ((zDu x0.b [y5]).bind λz9=>
   jn (λ(y15:zAe)=>
    (some y15)) λj2=>
   zD6 x1 j2 fuel p2 (⟨z9⟩:zAe))) λj1=>
 if p2<8 then
 (j1 ((shl8 (255:UInt8) ((zAf (W64 (8-p2))).toNat))|||(toU8 ((shr64 x1 ((zAf (W64 (8*p2))).toNat)).toNat:Int))))
 else
 (j1 (shl8 (255:UInt8) ((zAf (W64 (8-p2))).toNat)))
def zHv (x0:zAe) (x1:(List UInt8)):Option zAe:=
 (zG3 x0 (zAf (x1.length:Int))).bind λp2=>
 (zDu p2.b x1).bind λz8=>
 some (⟨z8⟩:zAe)
def zGy (x0:zAg):Option zAe:=
 (zKx).bind λp3=>
 (zHv p3 x0.key).bind λp16=>
 (zG3 p16 (zAf x0.n)).bind λp20=>
 (zEf x0.w).bind λp24=>
 (zG3 p20 (zAf p24)).bind λp26=>
 some p26
def zK2 (x0:zAe):Option Int:=
 some (x0.b.length:Int)
def zI (x0:zAg):Option Int:=
 (zGy x0).bind λp14=>
 (zK2 p14).bind λp17=>
 (zEf x0.w).bind λp19=>
 (quoZ (W64 (p19+7)) 8).bind λz21=>
 some (W64 (p17+z21))
def zI0 (x0:zA3) (x1:Int):Option (Bool×zA3):=
 jn (λ(y5:Bool)=>
  (if y5=true then
   (some (false,x0))
   else
   ((quoZ (W64 (x1+7)) 8).bind λz10=>
    (zNt x0.b 0 z10).bind λz11=>
    (remZ x1 8).bind λz16=>
    jn (λ(y19:zA3)=>
     (some (true,(⟨y19.b,x1⟩:zA3)))) λj2=>
    if z16>0 then
    ((idx z11 (W64 ((z11.length:Int)-1))).bind λz31=>
     (idx z11 (W64 ((z11.length:Int)-1))).bind λz32=>
     j2 (⟨(zLd z11 (W64 ((z11.length:Int)-1)) (z31&&&(shl8 (255:UInt8) ((zAf (W64 (8-z16))).toNat)))),x0.n⟩:zA3))
    else
    (j2 (⟨z11,x0.n⟩:zA3))))) λj1=>
 if x1<0 then
 (j1 true)
 else
 (j1 (decide (x1>x0.n)))
def zIi (x0:zAg) (x1:Int) (x2:zA8):Option (Int×zAg):=
 (zLl x2).bind λp15=>
 if p15.2≠0 then
 (some (p15.2,x0))
 else
 (if p15.1≠x0.key then
  (some (14,x0))
  else
  (if (x1<0)∨(x1>4503599627370496) then
   (some (1,x0))
   else
   (if x1≤x0.last then
    (some (9,x0))
    else
    (if x0.n=128 then
     (some (6,x0))
     else
     (jn (λ(y44:Int) (y45:zAp)=>
      ((zJ3 y45 x0.w x1 x2).bind λp66=>
       (zI (⟨x0.key,x0.most,W64 (x0.n+1),x0.last,p66.2.2.2.2.2.2.2,x0.rows⟩:zAg)).bind λp86=>
       if p86>x0.most then
       ((zI0 p66.2.2.2.2.2.2.2 y44).bind λp102=>
        some (6,(⟨x0.key,x0.most,W64 ((W64 (x0.n+1))-1),x0.last,p102.2,x0.rows⟩:zAg)))
       else
       (some (0,(⟨x0.key,x0.most,W64 (x0.n+1),x1,p66.2.2.2.2.2.2.2,(⟨p66.1,p66.2.1,p66.2.2.1,p66.2.2.2.1,p66.2.2.2.2.1,p66.2.2.2.2.2.1,p66.2.2.2.2.2.2.1⟩:zAp)⟩:zAg))))) λj1=>
      (zEf x0.w).bind λp133=>
      (zHz x0.rows).bind λp135=>
      j1 p133 p135)))))
def zEe (x0:(List UInt8)):Option (List UInt8):=
 zDu [] x0
def zH5 (x0:zA3):Option (List UInt8):=
 (zEe x0.b).bind λp8=>
 some p8
def zK1 (x0:zAe) (x1:(List UInt8)):Option zAe:=
 (zDu x0.b x1).bind λz5=>
 some (⟨z5⟩:zAe)
def zJ4 (x0:zAe):Option (List UInt8):=
 (zEe x0.b).bind λp8=>
 some p8
def zGe (x0:zAg):Option (List UInt8):=
 (zGy x0).bind λp3=>
 (zH5 x0.w).bind λp16=>
 (zK1 p3 p16).bind λp19=>
 (zJ4 p19).bind λp27=>
 some p27
def zFd (x0:(List zAc)) (j1:(Option zAg)→Option ((List UInt8)×Int)):Nat→Int→(Option zAg)→Option ((List UInt8)×Int)
 | 0,_,_=>none
 | n+1,y32,y33=>
  if y32<(x0.length:Int) then
  ((idx x0 y32).bind λz36=>
   (y33).bind λz49=>
   (zIi z49 z36.Ord z36.Point).bind λp48=>
   if p48.1≠0 then
   (some (([]:List UInt8),p48.1))
   else
   (zFd x0 j1 n (W64 (y32+1)) (some p48.2)))
  else
  (j1 y33)
def zMn (x0:(List zAc)):Option ((List UInt8)×Int):=
 if (x0.length:Int)=0 then
 (some (([]:List UInt8),7))
 else
 ((idx x0 0).bind λz10=>
  (zNp z10.Point 4611686018427387904).bind λp19=>
  if p19.2≠0 then
  (some (([]:List UInt8),p19.2))
  else
  (jn (λ(y25:(Option zAg))=>
   ((y25).bind λz28=>
    (zGe z28).bind λp27=>
    some (p27,0))) λj1=>
   zFd x0 j1 fuel 0 p19.1))
def zNz (x0:(List UInt8)):Option zAb:=
 (zEe x0).bind λp3=>
 some (⟨p3,0,0⟩:zAb)
def zE5 (x0:zAb):Option Int:=
 some (W64 ((x0.b.length:Int)-x0.at_))
def zO (x0:UInt8):Option Int:=
 (idx ([0,1,2,2,3,3,3,3,4,4,4,4,4,4,4,4,5,5,5,5,5,5,5,5,5,5,5,5,5,5,5,5,6,6,6,6,6,6,6,6,6,6,6,6,6,6,6,6,6,6,6,6,6,6,6,6,6,6,6,6,6,6,6,6,7,7,7,7,7,7,7,7,7,7,7,7,7,7,7,7,7,7,7,7,7,7,7,7,7,7,7,7,7,7,7,7,7,7,7,7,7,7,7,7,7,7,7,7,7,7,7,7,7,7,7,7,7,7,7,7,7,7,7,7,7,7,7,7,8,8,8,8,8,8,8,8,8,8,8,8,8,8,8,8,8,8,8,8,8,8,8,8,8,8,8,8,8,8,8,8,8,8,8,8,8,8,8,8,8,8,8,8,8,8,8,8,8,8,8,8,8,8,8,8,8,8,8,8,8,8,8,8,8,8,8,8,8,8,8,8,8,8,8,8,8,8,8,8,8,8,8,8,8,8,8,8,8,8,8,8,8,8,8,8,8,8,8,8,8,8,8,8,8,8,8,8,8,8,8,8,8,8,8,8,8,8,8,8,8,8,8,8,8,8,8,8]:List UInt8) ((x0).toNat:Int)).bind λz1=>
 some (z1.toNat:Int)
def zDp (x0:UInt8):Option Int:=
 (zO x0).bind λp1=>
 some (W64 (8-p1))
def zMh (x0:zAb) (x1:Int):Option zAb:=
 if x0.e=0 then
 (some (⟨x0.b,x0.at_,x1⟩:zAb))
 else
 (some x0)
def zD7 (z39:(List UInt8)) (j3:UInt64→Option (UInt64×zAb)):Nat→UInt64→Int→Option (UInt64×zAb)
 | 0,_,_=>none
 | n+1,y60,y61=>
  if y61<(z39.length:Int) then
  ((idx z39 y61).bind λz64=>
   zD7 z39 j3 n ((y60<<<UInt64.ofNat 8)|||(zAf ((z64).toNat:Int))) (W64 (y61+1)))
  else
  (j3 y60)
def zIe (x0:zAb):Option (UInt64×zAb):=
 jn (λ(_:Unit)=>
  ((zMh x0 2).bind λp4=>
   some ((0:UInt64),p4))) λj1=>
 if x0.e≠0 then
 (none)
 else
 ((zE5 x0).bind λp11=>
  if p11=0 then
  (none)
  else
  ((idx x0.b x0.at_).bind λz21=>
   (zDp (~~~ z21)).bind λp24=>
   (zE5 x0).bind λp26=>
   if p24≥p26 then
   (none)
   else
   (jn (λ(y34:UInt64)=>
    ((zNt x0.b (W64 (x0.at_+1)) (W64 ((W64 (x0.at_+1))+p24))).bind λz39=>
     jn (λ(y46:UInt64)=>
      ((zJi y46).bind λp48=>
       if p48≠p24 then
       (none)
       else
       (some (y46,(⟨x0.b,W64 (x0.at_+(W64 (1+p24))),x0.e⟩:zAb))))) λj3=>
     zD7 z39 j3 fuel y34 0)) λj2=>
    if p24<8 then
    ((idx x0.b x0.at_).bind λz70=>
     j2 (zAf ((z70&&&(shr8 (127:UInt8) ((zAf p24).toNat))).toNat:Int)))
    else
    (j2 (0:UInt64)))))
def zCe (x0:zAb) (x1:Int):Option (Int×zAb):=
 (zIe x0).bind λp4=>
 if (p4.2.e=0)∧((x1<0)∨(((p4.1).toNat:Int)>((zAf x1).toNat:Int))) then
 (none)
 else
 (some (W64 ((p4.1).toNat:Int),p4.2))
def zG4 (x0:zAb) (x1:Int):Option ((List UInt8)×zAb):=
 if x0.e≠0 then
 (none)
 else
 (if x1<0 then
  (none)
  else
  ((zE5 x0).bind λp6=>
   if x1>p6 then
   (none)
   else
   ((zNt x0.b (W64 ((W64 (x0.at_+x1))-x1)) (W64 (x0.at_+x1))).bind λz18=>
    (zEe z18).bind λp20=>
    some (p20,(⟨x0.b,W64 (x0.at_+x1),x0.e⟩:zAb)))))
def zFg (x0:zAb) (x1:Int):Option ((List UInt8)×zAb):=
 (zCe x0 x1).bind λp4=>
 (zG4 p4.2 p4.1).bind λp12=>
 if p12.2.e≠0 then
 (none)
 else
 (some (p12.1,p12.2))
def zGt (x0:zAb):Option Int:=
 jn (λ(y8:Bool)=>
  (if y8=true then
   (none)
   else
   (some x0.e))) λj1=>
 if x0.e=0 then
 ((zE5 x0).bind λp12=>
  j1 (decide (p12>0)))
 else
 (none)
def zEk (x0:(List UInt8)) (x1:UInt8):Option Int:=
 some (Lib.indexByte x0 x1)
def zE3 (x0:(List UInt8)) (x1:(List UInt8)):Option Int:=
 if ((x1.length:Int)=0)∨(x1=x0) then
 (some 0)
 else
 (if (x1.length:Int)=1 then
  ((idx x1 0).bind λz5=>
   (zEk x0 z5).bind λp6=>
   some p6)
  else
  (if (x1.length:Int)≥(x0.length:Int) then
   (some (-1))
   else
   (none)))
def zGp (x0:(List UInt8)) (x1:(List UInt8)):Option ((List UInt8)×(List UInt8)×Bool):=
 (zE3 x0 x1).bind λp1=>
 if p1≥0 then
 ((zNt x0 0 p1).bind λz5=>
  (zNt x0 (W64 (p1+(x1.length:Int))) ((x0).length)).bind λz6=>
  some (z5,z6,true))
 else
 (some (x0,([]:List UInt8),false))
def zHg (x0:(List UInt8)) (x1:(List UInt8)):Option ((List UInt8)×(List UInt8)×Bool):=
 (zGp x0 x1).bind λp1=>
 some (p1.1,p1.2.1,p1.2.2)
def zMj (x0:(List UInt8)):Option (zA0×Int):=
 (zHg x0 ([61]:List UInt8)).bind λp4=>
 jn (λ(y6:Bool)=>
  (jn (λ(y8:Bool)=>
   (if y8=true then
    (some ((⟨([]:List UInt8),([]:List UInt8)⟩:zA0),3))
    else
    (some ((⟨p4.1,p4.2.1⟩:zA0),0)))) λj2=>
   if y6=true then
   (j2 true)
   else
   ((zH9 p4.2.1).bind λp16=>
    j2 (!p16)))) λj1=>
 if (!p4.2.2)=true then
 (j1 true)
 else
 ((zG2 p4.1).bind λp19=>
  j1 (!p19))
def zEd (x0:(List zA0)) (x1:(List UInt8)) (j1:Unit→Option Int):Nat→Int→Option Int
 | 0,_=>none
 | n+1,y7=>
  if y7<(x0.length:Int) then
  ((idx x0 y7).bind λz10=>
   if z10.Key=x1 then
   (some 8)
   else
   (zEd x0 x1 j1 n (W64 (y7+1))))
  else
  (j1 ())
def zJj (x0:(List zA0)) (x1:(List UInt8)):Option Int:=
 jn (λ(_:Unit)=>
  ((idx x0 (W64 ((x0.length:Int)-1))).bind λz4=>
   if (Op.bytesLess x1 z4.Key)=true then
   (some 9)
   else
   (some 0))) λj1=>
 zEd x0 x1 j1 fuel 0
def zDs (j1:(List zA0)→Option ((List UInt8)×(List zA0)×Int×Int)):Nat→(List zA0)→Int→(List UInt8)→Bool→Option ((List UInt8)×(List zA0)×Int×Int)
 | 0,_,_,_,_=>none
 | n+1,y12,y15,y16,y17=>
  if y17=true then
  ((zHg y16 ([59]:List UInt8)).bind λp22=>
   (zMj p22.1).bind λp24=>
   jn (λ(y29:Int)=>
    (jn (λ(y33:Int)=>
     (if y33≠0 then
      (some (([]:List UInt8),([]:List zA0),y15,y33))
      else
      ((zDu y12 [p24.1]).bind λz38=>
       zDs j1 n z38 (W64 (y15+(W64 ((p22.1.length:Int)+1)))) p22.2.1 p22.2.2))) λj3=>
     if (y29=0)∧((y12.length:Int)>0) then
     ((zJj y12 p24.1.Key).bind λp41=>
      j3 p41)
     else
     (j3 y29))) λj2=>
   if (y12.length:Int)=4 then
   (j2 4)
   else
   (j2 p24.2))
  else
  (j1 y12)
def zLa (x0:(List UInt8)):Option ((List UInt8)×(List zA0)×Int×Int):=
 (zHg x0 ([59]:List UInt8)).bind λp1=>
 (zG2 p1.1).bind λp3=>
 if (!p3)=true then
 (some (([]:List UInt8),([]:List zA0),0,3))
 else
 (jn (λ(y8:(List zA0))=>
  (some (p1.1,y8,0,0))) λj1=>
  zDs j1 fuel ([]:List zA0) (W64 ((p1.1.length:Int)+1)) p1.2.1 p1.2.2)
def zIz (x0:(List UInt8)):Option (zA8×Int):=
 (zHg x0 ([32]:List UInt8)).bind λp4=>
 (zLa p4.1).bind λp6=>
 jn (λ(y13:Bool)=>
  (if y13=true then
   (some ((⟨([]:List UInt8),([]:List zA0),0,0,false,0,0,0,(0:UInt64),(0:UInt64),(⟨0,(0:UInt64),(⟨0,([]:List UInt64)⟩:zAa),(⟨0,([]:List UInt64)⟩:zAa)⟩:zA2),0⟩:zA8),3))
   else
   ((idx p4.2.1 0).bind λz31=>
    (idx p4.2.1 1).bind λz32=>
    (idx p4.2.1 2).bind λz33=>
    jn (λ(y46:zA8)=>
     ((zF1 y46).bind λp54=>
      if p54≠0 then
      (some ((⟨([]:List UInt8),([]:List zA0),0,0,false,0,0,0,(0:UInt64),(0:UInt64),(⟨0,(0:UInt64),(⟨0,([]:List UInt64)⟩:zAa),(⟨0,([]:List UInt64)⟩:zAa)⟩:zA2),0⟩:zA8),3))
      else
      (some ((⟨p6.1,p6.2.1,W64 ((z31.toNat:Int)-48),W64 ((z32.toNat:Int)-48),decide (((z33).toNat:Int)=49),0,0,0,(0:UInt64),(0:UInt64),(⟨0,(0:UInt64),(⟨0,([]:List UInt64)⟩:zAa),(⟨0,([]:List UInt64)⟩:zAa)⟩:zA2),0⟩:zA8),0)))) λj2=>
    if W64 ((z31.toNat:Int)-48)=3 then
    (j2 (⟨p6.1,p6.2.1,W64 ((z31.toNat:Int)-48),W64 ((z32.toNat:Int)-48),decide (((z33).toNat:Int)=49),1,1,0,(0:UInt64),(0:UInt64),(⟨0,(0:UInt64),(⟨0,([]:List UInt64)⟩:zAa),(⟨0,([]:List UInt64)⟩:zAa)⟩:zA2),0⟩:zA8))
    else
    (j2 (⟨p6.1,p6.2.1,W64 ((z31.toNat:Int)-48),W64 ((z32.toNat:Int)-48),decide (((z33).toNat:Int)=49),0,1,0,(0:UInt64),(0:UInt64),(⟨0,(0:UInt64),(⟨0,([]:List UInt64)⟩:zAa),(⟨0,([]:List UInt64)⟩:zAa)⟩:zA2),0⟩:zA8))))) λj1=>
 if (((!p4.2.2)=true)∨(p6.2.2.2≠0))∨((p4.2.1.length:Int)≠3) then
 (j1 true)
 else
 ((idx p4.2.1 2).bind λz97=>
  jn (λ(y98:Bool)=>
   (j1 y98)) λj3=>
  if ((z97).toNat:Int)≠48 then
  ((idx p4.2.1 2).bind λz101=>
   j3 (decide (((z101).toNat:Int)≠49)))
  else
  (j3 false))
def zHa (x0:(List UInt8)) (x1:Int):Option ((Option zA)×Int):=
 if x1<0 then
 (some ((none:Option zA),1))
 else
 ((quoZ x1 8).bind λz6=>
  jn (λ(y7:Bool)=>
   (if y7=true then
    (none)
    else
    ((quoZ (W64 (x1+7)) 8).bind λz10=>
     if (x0.length:Int)>z10 then
     (none)
     else
     ((remZ x1 8).bind λz12=>
      jn (λ(y13:Bool)=>
       (if y13=true then
        (none)
        else
        ((zEe x0).bind λp16=>
         some ((some (⟨p16,x1,0⟩:zA)),0)))) λj2=>
      if z12>0 then
      ((quoZ x1 8).bind λz30=>
       (idx x0 z30).bind λz31=>
       (remZ x1 8).bind λz33=>
       j2 (decide (((shl8 z31 ((zAf z33).toNat)).toNat:Int)≠0)))
      else
      (j2 false))))) λj1=>
  if (x0.length:Int)<z6 then
  (none)
  else
  ((quoZ x1 8).bind λz35=>
   jn (λ(y36:Bool)=>
    (j1 y36)) λj3=>
   if (x0.length:Int)=z35 then
   ((remZ x1 8).bind λz39=>
    j3 (decide (z39>0)))
   else
   (j3 false)))
def zId (x0:zA8):Option zA8:=
 (zCl x0.Attrs).bind λp16=>
 (zE1 x0.Hist).bind λp21=>
 some (⟨x0.Name,p16,x0.Kind,x0.Temp,x0.Mono,x0.Start,x0.Time,x0.Int_,x0.Re,x0.Im,p21,x0.Flags⟩:zA8)
def zC1 (x0:zA):Option Int:=
 some (W64 (x0.n-x0.at_))
def zDa (x0:zA) (j2:UInt64→Option (UInt64×Bool)):Nat→Int→UInt64→Int→Option (UInt64×Bool)
 | 0,_,_,_=>none
 | n+1,y15,y16,y17=>
  if y15>0 then
  ((remZ y17 8).bind λz20=>
   (quoZ y17 8).bind λz21=>
   (idx x0.b z21).bind λz22=>
   zDa x0 j2 n (W64 (y15-(min y15 (W64 (8-z20))))) ((shl64 y16 ((zAf (min y15 (W64 (8-z20)))).toNat))|||(zAf (((shr8 z22 ((zAf (W64 ((W64 (8-z20))-(min y15 (W64 (8-z20)))))).toNat))&&&((shl8 (1:UInt8) ((zAf (min y15 (W64 (8-z20)))).toNat))-(1:UInt8))).toNat:Int))) (W64 (y17+(min y15 (W64 (8-z20))))))
  else
  (j2 y16)
def zD1 (x0:zA) (x1:Int):Option (UInt64×Bool):=
 jn (λ(y5:Bool)=>
  (if y5=true then
   (some ((0:UInt64),false))
   else
   (jn (λ(y13:UInt64)=>
    (some (y13,true))) λj2=>
    zDa x0 j2 fuel x1 (0:UInt64) x0.at_))) λj1=>
 if (x1<0)∨(x1>64) then
 (j1 true)
 else
 ((zC1 x0).bind λp25=>
  j1 (decide (x1>p25)))
def zCj (x0:zA) (x1:Int):Option (Bool×zA):=
 jn (λ(y3:Bool)=>
  (if y3=true then
   (some (false,x0))
   else
   (some (true,(⟨x0.b,x0.n,W64 (x0.at_+x1)⟩:zA))))) λj1=>
 if x1<0 then
 (j1 true)
 else
 ((zC1 x0).bind λp15=>
  j1 (decide (x1>p15)))
def zNi (x0:zA) (x1:Int):Option UInt64:=
 (zD1 x0 64).bind λp3=>
 (zCj x0 64).bind λp13=>
 (zD1 p13.2 x1).bind λp21=>
 some ((shl64 p3.1 ((zAf x1).toNat))|||p21.1)
def zLe (x0:zA):Option (UInt64×Int×zA):=
 (zD1 x0 2).bind λp2=>
 if (!p2.2)=true then
 (some ((0:UInt64),2,x0))
 else
 ((zI3).bind λp5=>
  (idx ([p5.a0,p5.a1,p5.a2,p5.a3]:List Int) ((p2.1).toNat:Int)).bind λz7=>
  (zC1 x0).bind λp8=>
  if W64 (2+z7)>p8 then
  (some ((0:UInt64),2,x0))
  else
  ((zD1 x0 (min (W64 (2+z7)) 64)).bind λp11=>
   jn (λ(y14:UInt64)=>
    ((zJ9 y14).bind λp16=>
     if p16≠W64 ((p2.1).toNat:Int) then
     (some ((0:UInt64),3,x0))
     else
     ((zCj x0 (W64 (2+z7))).bind λp19=>
      some (y14,0,p19.2)))) λj1=>
   if z7<64 then
   (j1 (p11.1&&&((shl64 (1:UInt64) ((zAf z7).toNat))-(1:UInt64))))
   else
   ((zNi x0 2).bind λp24=>
    j1 p24)))
def zN5 (x0:UInt64):Option Int:=
 some (xorZ (W64 ((x0>>>UInt64.ofNat 1).toNat:Int)) (IntKind.i64.wrap (0-(W64 ((x0&&&(1:UInt64)).toNat:Int)))))
def zJh (x0:zA):Option (Int×Int×zA):=
 (zLe x0).bind λp2=>
 (zN5 p2.1).bind λp6=>
 some (p6,p2.2.1,p2.2.2)
def zDh (x0:zA) (x1:Int):Option (UInt64×Bool×zA):=
 (zD1 x0 x1).bind λp2=>
 jn (λ(y4:zA)=>
  (some (p2.1,p2.2,y4))) λj1=>
 if p2.2=true then
 (j1 (⟨x0.b,x0.n,W64 (x0.at_+x1)⟩:zA))
 else
 (j1 x0)
def zC (x0:zA):Option Int:=
 some x0.at_
def zG (x0:zA) (j1:Int→zA→Option (Int×Int×zA)):Nat→Int→zA→Option (Int×Int×zA)
 | 0,_,_=>none
 | n+1,y39,y40=>
  if y39<4 then
  ((zDh y40 1).bind λp43=>
   if (!p43.2.1)=true then
   (some (0,2,x0))
   else
   (if ((p43.1).toNat:Int)=0 then
    (j1 y39 p43.2.2)
    else
    (zG x0 j1 n (W64 (y39+1)) p43.2.2)))
  else
  (j1 y39 y40)
def zNj (x0:zA):Option (Int×Int×zA):=
 jn (λ(y16:Int) (y17:zA)=>
  ((zGr).bind λp19=>
   (idx ([p19.a0,p19.a1,p19.a2,p19.a3,p19.a4]:List Int) y16).bind λz21=>
   (zDh y17 z21).bind λp22=>
   if (!p22.2.1)=true then
   (some (0,2,x0))
   else
   ((zN2 (shrZ (W64 ((shl64 p22.1 ((zAf (W64 (64-z21))).toNat)).toNat:Int)) ((zAf (W64 (64-z21))).toNat))).bind λp27=>
    if p27≠y16 then
    (some (0,3,x0))
    else
    ((zC p22.2.2).bind λp30=>
     (zC x0).bind λp32=>
     (zCj x0 (W64 (p30-p32))).bind λp34=>
     some (shrZ (W64 ((shl64 p22.1 ((zAf (W64 (64-z21))).toNat)).toNat:Int)) ((zAf (W64 (64-z21))).toNat),0,p34.2))))) λj1=>
 zG x0 j1 fuel 0 x0
def zKe (x0:zA9) (x1:zA):Option (Int×Int×zA×zA9):=
 jn (λ(y3:UInt64) (y4:zA)=>
  ((zEy x0 y3).bind λp6=>
   some (W64 ((y3).toNat:Int),0,y4,p6))) λj1=>
 if x0.n<2 then
 ((zJh x1).bind λp11=>
  if p11.2.1≠0 then
  (some (0,p11.2.1,p11.2.2,x0))
  else
  (j1 (x0.last+(zAf p11.1)) p11.2.2))
 else
 ((zNj x1).bind λp16=>
  if p16.2.1≠0 then
  (some (0,p16.2.1,p16.2.2,x0))
  else
  (j1 ((x0.last+x0.step)+(zAf p16.1)) p16.2.2))
def zHr (x0:zA6) (x1:Int) (x2:Int):Option (Int×zA6):=
 if x0.e=0 then
 (some (x1,(⟨x0.r,x0.rows,x2⟩:zA6)))
 else
 (none)
def zK9 (x0_e:Int) (x1:Int) (x2:Int):Option (Int×Int):=
 if x0_e=0 then
 (some (x1,x2))
 else
 (none)
def zCx (x0_r:zA) (x0_e:Int) (x1:zA9):Option (Int×zA×Int×zA9):=
 if x0_e≠0 then
 (none)
 else
 ((zKe x1 x0_r).bind λp5=>
  (zK9 x0_e p5.1 p5.2.1).bind λp10=>
  some (p10.1,p5.2.2.1,p10.2,p5.2.2.2))
def zK8 (x0:zA6) (x1:UInt64) (x2:Int):Option (UInt64×zA6):=
 if x0.e=0 then
 (some (x1,(⟨x0.r,x0.rows,x2⟩:zA6)))
 else
 (none)
def zFo (x0:zA6):Option (UInt64×zA6):=
 if x0.e≠0 then
 (none)
 else
 ((zLe x0.r).bind λp12=>
  (zK8 (⟨p12.2.2,x0.rows,x0.e⟩:zA6) p12.1 p12.2.1).bind λp16=>
  some (p16.1,p16.2))
def zC2 (x0:zA1) (x1:Int):Option (Int×zA1):=
 if x0.e≠0 then
 (some (0,x0))
 else
 ((zDh x0.r x1).bind λp7=>
  jn (λ(y13:zA1)=>
   (some (W64 ((p7.1).toNat:Int),y13))) λj1=>
  if (!p7.2.1)=true then
  (j1 (⟨p7.2.2,2⟩:zA1))
  else
  (j1 (⟨p7.2.2,x0.e⟩:zA1)))
def zCs (x0:zA1):Option (Int×zA1):=
 if x0.e≠0 then
 (some (0,x0))
 else
 ((zJh x0.r).bind λp7=>
  some (p7.1,(⟨p7.2.2,p7.2.1⟩:zA1)))
def zEu (x0:zA1):Option (zAa×zA1):=
 (zC2 x0 8).bind λp5=>
 jn (λ(y15:zA1)=>
  (if (y15.e≠0)∨(p5.1=0) then
   (some ((⟨0,([]:List UInt64)⟩:zAa),y15))
   else
   ((zCs y15).bind λp33=>
    (mkL p5.1 ((0:UInt64):UInt64)).bind λz37=>
    some ((⟨p33.1,z37⟩:zAa),p33.2)))) λj1=>
 if (p5.2.e=0)∧(p5.1>160) then
 (j1 (⟨p5.2.r,4⟩:zA1))
 else
 (j1 p5.2)
def zE0 (x0:zA1):Option (UInt64×zA1):=
 if x0.e≠0 then
 (some ((0:UInt64),x0))
 else
 ((zLe x0.r).bind λp7=>
  some (p7.1,(⟨p7.2.2,p7.2.1⟩:zA1)))
def zCw (p117:(List UInt64)) (y169:zA2) (j8:zA1→zA2→Option (zA2×Int×zA4×zA)):Nat→Int→zA1→zA2→Int→Option (zA2×Int×zA4×zA)
 | 0,_,_,_,_=>none
 | n+1,y187,y188,y189,y194=>
  if y187<(y169.Neg.Counts.length:Int) then
  (jn (λ(y200:UInt64) (y201:zA1) (y202:Int)=>
   ((idx y189.Neg.Counts y187).bind λz222=>
    zCw p117 y169 j8 n (W64 (y187+1)) y201 (⟨y189.Scale,y189.Zero,y189.Pos,(⟨y189.Neg.Offset,(zLd y189.Neg.Counts y187 y200)⟩:zAa)⟩:zA2) y202)) λj9=>
   jn (λ(y206:UInt64) (y207:zA1)=>
    (jn (λ(y216:UInt64)=>
     (j9 y216 y207 (W64 (y194+1)))) λj11=>
     if y194<(p117.length:Int) then
     ((idx p117 y194).bind λz221=>
      j11 (y206+z221))
     else
     (j11 y206))) λj10=>
   (zCs y188).bind λp209=>
   j10 (zAf p209.1) p209.2)
  else
  (j8 y188 y189)
def zCv (p111:zA2) (p117:(List UInt64)) (j7:zA1→zA2→Int→Option (zA2×Int×zA4×zA)):Nat→Int→zA1→zA2→Int→Option (zA2×Int×zA4×zA)
 | 0,_,_,_,_=>none
 | n+1,y227,y228,y229,y234=>
  if y227<(p111.Pos.Counts.length:Int) then
  (jn (λ(y240:UInt64) (y241:zA1) (y242:Int)=>
   ((idx y229.Pos.Counts y227).bind λz262=>
    zCv p111 p117 j7 n (W64 (y227+1)) y241 (⟨y229.Scale,y229.Zero,(⟨y229.Pos.Offset,(zLd y229.Pos.Counts y227 y240)⟩:zAa),y229.Neg⟩:zA2) y242)) λj12=>
   jn (λ(y246:UInt64) (y247:zA1)=>
    (jn (λ(y256:UInt64)=>
     (j12 y256 y247 (W64 (y234+1)))) λj14=>
     if y234<(p117.length:Int) then
     ((idx p117 y234).bind λz261=>
      j14 (y246+z261))
     else
     (j14 y246))) λj13=>
   (zCs y228).bind λp249=>
   j13 (zAf p249.1) p249.2)
  else
  (j7 y228 y229 y234)
def zCu (y327:zA2) (j19:zA1→zA2→Option (zA2×Int×zA4×zA)):Nat→Int→zA1→zA2→Int→Option (zA2×Int×zA4×zA)
 | 0,_,_,_,_=>none
 | n+1,y345,y346,y347,y352=>
  if y345<(y327.Neg.Counts.length:Int) then
  (jn (λ(y358:UInt64) (y359:zA1) (y360:Int)=>
   ((idx y347.Neg.Counts y345).bind λz375=>
    zCu y327 j19 n (W64 (y345+1)) y359 (⟨y347.Scale,y347.Zero,y347.Pos,(⟨y347.Neg.Offset,(zLd y347.Neg.Counts y345 y358)⟩:zAa)⟩:zA2) y360)) λj20=>
   (zE0 y346).bind λp362=>
   jn (λ(y369:UInt64)=>
    (j20 y369 p362.2 (W64 (y352+1)))) λj21=>
   if y352<0 then
   ((idx ([]:List UInt64) y352).bind λz374=>
    none)
   else
   (j21 p362.1))
  else
  (j19 y346 y347)
def zCt (p271:(zAa×zA1)) (j18:zA1→zA2→Int→Option (zA2×Int×zA4×zA)):Nat→Int→zA1→zA2→Int→Option (zA2×Int×zA4×zA)
 | 0,_,_,_,_=>none
 | n+1,y380,y381,y382,y387=>
  if y380<(p271.1.Counts.length:Int) then
  (jn (λ(y393:UInt64) (y394:zA1) (y395:Int)=>
   ((idx y382.Pos.Counts y380).bind λz410=>
    zCt p271 j18 n (W64 (y380+1)) y394 (⟨y382.Scale,y382.Zero,(⟨y382.Pos.Offset,(zLd y382.Pos.Counts y380 y393)⟩:zAa),y382.Neg⟩:zA2) y395)) λj22=>
   (zE0 y381).bind λp397=>
   jn (λ(y404:UInt64)=>
    (j22 y404 p397.2 (W64 (y387+1)))) λj23=>
   if y387<0 then
   ((idx ([]:List UInt64) y387).bind λz409=>
    none)
   else
   (j23 p397.1))
  else
  (j18 y381 y382 y387)
def zFl (x0:zA4) (x1:zA):Option (zA2×Int×zA4×zA):=
 (zC2 (⟨x1,0⟩:zA1) 1).bind λp20=>
 jn (λ(y36:zA1) (y37:zA2)=>
  (jn (λ(y49:zA1)=>
   (if y49.e≠0 then
    (some ((⟨0,(0:UInt64),(⟨0,([]:List UInt64)⟩:zAa),(⟨0,([]:List UInt64)⟩:zAa)⟩:zA2),y49.e,x0,x1))
    else
    ((zC y49.r).bind λp65=>
     (zC x1).bind λp67=>
     (zCj x1 (W64 (p65-p67))).bind λp69=>
     (zE1 y37).bind λp78=>
     some (y37,0,(⟨W64 (x0.n+1),p78⟩:zA4),p69.2)))) λj2=>
   if y36.e=0 then
   ((zHd y37).bind λp90=>
    j2 (⟨y36.r,p90⟩:zA1))
   else
   (j2 y36))) λj1=>
 if p20.1=1 then
 (if x0.n=0 then
  (some ((⟨0,(0:UInt64),(⟨0,([]:List UInt64)⟩:zAa),(⟨0,([]:List UInt64)⟩:zAa)⟩:zA2),3,x0,x1))
  else
  ((zE1 x0.last).bind λp111=>
   (zD5 x0.last).bind λp117=>
   jn (λ(y124:zA1) (y125:zA2)=>
    (j1 y124 y125)) λj3=>
   jn (λ(y142:UInt64) (y143:zA1) (y144:Int)=>
    (jn (λ(y168:zA1) (y169:zA2) (y174:Int)=>
     (jn (λ(y178:zA1) (y179:zA2)=>
      (j3 y178 y179)) λj8=>
      zCw p117 y169 j8 fuel 0 y168 y169 y174)) λj7=>
     zCv p111 p117 j7 fuel 0 y143 (⟨p111.Scale,y142,p111.Pos,p111.Neg⟩:zA2) y144)) λj4=>
   jn (λ(y148:UInt64) (y149:zA1)=>
    (jn (λ(y158:UInt64)=>
     (j4 y158 y149 1)) λj6=>
     if 0<(p117.length:Int) then
     ((idx p117 0).bind λz163=>
      j6 (y148+z163))
     else
     (j6 y148))) λj5=>
   (zCs p20.2).bind λp151=>
   j5 (zAf p151.1) p151.2))
 else
 ((zC2 p20.2 5).bind λp265=>
  (zEu p265.2).bind λp271=>
  (zEu p271.2).bind λp278=>
  jn (λ(y287:zA1) (y288:zA2)=>
   (jn (λ(y419:zA1)=>
    (jn (λ(y424:Bool)=>
     (if y424=true then
      (j1 (⟨y419.r,3⟩:zA1) y288)
      else
      (j1 y419 y288))) λj25=>
     if y419.e=0 then
     (if x0.n>0 then
      ((zHl y288).bind λp441=>
       (zHl x0.last).bind λp443=>
       j25 (decide (p441=p443)))
      else
      (j25 false))
     else
     (j25 false))) λj24=>
    if y287.e=0 then
    ((zHd y288).bind λp457=>
     j24 (⟨y287.r,p457⟩:zA1))
    else
    (j24 y287))) λj15=>
  jn (λ(y305:UInt64) (y306:zA1) (y307:Int)=>
   (jn (λ(y326:zA1) (y327:zA2) (y332:Int)=>
    (jn (λ(y336:zA1) (y337:zA2)=>
     (j15 y336 y337)) λj19=>
     zCu y327 j19 fuel 0 y326 y327 y332)) λj18=>
    zCt p271 j18 fuel 0 y306 (⟨W64 (p265.1+(-10)),y305,p271.1,p278.1⟩:zA2) y307)) λj16=>
  (zE0 p278.2).bind λp309=>
  jn (λ(y316:UInt64)=>
   (j16 y316 p309.2 1)) λj17=>
  if 0<0 then
  ((idx ([]:List UInt64) 0).bind λz321=>
   none)
  else
  (j17 p309.1))
def zHm (x0:zA6) (x1:zA2) (x2:Int):Option (zA2×zA6):=
 if x0.e=0 then
 (some (x1,(⟨x0.r,x0.rows,x2⟩:zA6)))
 else
 (none)
def zD4 (x0:zA) (x1:Int) (x2:Int):Option (UInt64×zA×Int):=
 (zDh x0 x2).bind λp3=>
 jn (λ(y10:Int)=>
  (some (p3.1,p3.2.2,y10))) λj1=>
 if ((!p3.2.1)=true)∧(x1=0) then
 (j1 2)
 else
 (j1 x1)
def zHq (x0:zAj) (x1:zA) (x2:Int):Option (UInt64×zA×zAj×Int):=
 if x0.n=0 then
 ((zD4 x1 x2 64).bind λp7=>
  some (p7.1,p7.2.1,x0,p7.2.2))
 else
 ((zD4 x1 x2 1).bind λp12=>
  if ((p12.1).toNat:Int)=0 then
  (some ((0:UInt64),p12.2.1,x0,p12.2.2))
  else
  ((zD4 p12.2.1 p12.2.2 1).bind λp18=>
   if ((p18.1).toNat:Int)=0 then
   (jn (λ(y25:Bool)=>
    (jn (λ(y28:Int)=>
     ((zD4 p18.2.1 y28 x0.win.size).bind λp35=>
      (zB7 x0.win).bind λp40=>
      (remZ p40 64).bind λz42=>
      jn (λ(y48:Int)=>
       (some (shl64 p35.1 ((zAf z42).toNat),p35.2.1,x0,y48))) λj3=>
      if (((shl64 p35.1 ((zAf z42).toNat)).toNat:Int)=0)∧(p35.2.2=0) then
      (j3 3)
      else
      (j3 p35.2.2))) λj2=>
     if y25=true then
     (j2 3)
     else
     (j2 p18.2.2))) λj1=>
    if x0.win=(⟨0,0⟩:zB) then
    (j1 (decide (p18.2.2=0)))
    else
    (j1 false))
   else
   ((zD4 p18.2.1 p18.2.2 5).bind λp58=>
    (zD4 p58.2.1 p58.2.2 6).bind λp66=>
    jn (λ(y74:Bool)=>
     (jn (λ(y77:Int)=>
      ((zD4 p66.2.1 y77 (W64 ((W64 ((p66.1).toNat:Int))+1))).bind λp79=>
       if p79.2.2≠0 then
       (some ((0:UInt64),p79.2.1,x0,p79.2.2))
       else
       ((zB7 (⟨W64 ((p58.1).toNat:Int),W64 ((W64 ((p66.1).toNat:Int))+1)⟩:zB)).bind λp85=>
        jn (λ(y88:Bool)=>
         (jn (λ(y91:Int)=>
          (some (shl64 p79.1 ((zAf p85).toNat),p79.2.1,(⟨x0.n,x0.last,(⟨W64 ((p58.1).toNat:Int),W64 ((W64 ((p66.1).toNat:Int))+1)⟩:zB)⟩:zAj),y91))) λj7=>
          if y88=true then
          (j7 3)
          else
          (j7 p79.2.2))) λj6=>
        if ((shl64 p79.1 ((zAf p85).toNat)).toNat:Int)=0 then
        (j6 true)
        else
        ((zJ8 (shl64 p79.1 ((zAf p85).toNat))).bind λp106=>
         if ¬(p106=(⟨W64 ((p58.1).toNat:Int),W64 ((W64 ((p66.1).toNat:Int))+1)⟩:zB)) then
         (j6 true)
         else
         ((zFf x0.win (shl64 p79.1 ((zAf p85).toNat))).bind λp111=>
          j6 p111))))) λj5=>
      if y74=true then
      (j5 3)
      else
      (j5 p66.2.2))) λj4=>
    if p66.2.2=0 then
    ((zB7 (⟨W64 ((p58.1).toNat:Int),W64 ((W64 ((p66.1).toNat:Int))+1)⟩:zB)).bind λp119=>
     j4 (decide (p119<0)))
    else
    (j4 false))))
def zL4 (x0:zAj) (x1:zA):Option (UInt64×Int×zA×zAj):=
 jn (λ(y6:zAj) (y8:zA)=>
  ((zHq y6 y8 0).bind λp14=>
   if p14.2.2.2≠0 then
   (some ((0:UInt64),p14.2.2.2,x1,x0))
   else
   ((zC p14.2.1).bind λp31=>
    (zC x1).bind λp33=>
    (zCj x1 (W64 (p31-p33))).bind λp35=>
    some (p14.2.2.1.last^^^p14.1,0,p35.2,(⟨W64 (p14.2.2.1.n+1),p14.2.2.1.last^^^p14.1,p14.2.2.1.win⟩:zAj))))) λj1=>
 j1 x0 x1
def zB1 (x0:Bool) (x1:Int) (x2_:zA6):Option zA6:=
 if x0=true then
 ((zHr x2_ 0 x1).bind λp4=>
  some p4.2)
 else
 (some x2_)
def zIr (x0_e:Int) (x1:UInt64) (x2:Int):Option (UInt64×Int):=
 if x0_e=0 then
 (some (x1,x2))
 else
 (none)
def zBw (x0_r:zA) (x0_e:Int) (x1:zAj):Option (UInt64×zA×Int×zAj):=
 if x0_e≠0 then
 (none)
 else
 ((zL4 x1 x0_r).bind λp7=>
  (zIr x0_e p7.1 p7.2.1).bind λp16=>
  some (p16.1,p7.2.2.1,p16.2,p7.2.2.2))
def zGc (x0:zA6) (x1:zA8) (x2:Int):Option (zAc×zA6):=
 (zCx x0.r x0.e x0.rows.ords).bind λp31=>
 (zCx p31.2.1 p31.2.2.1 x0.rows.times).bind λp38=>
 jn (λ(y45:Int) (y46:zA6)=>
  ((zFo y46).bind λp48=>
   jn (λ(y52:zA6) (y53:zA8)=>
    ((zB1 (decide ((p31.1<0)∨(p31.1>4503599627370496))) 1 y52).bind λp63=>
     (zB1 (decide (p31.1≤x2)) 9 p63).bind λp68=>
     (zB1 (decide ((p38.1<0)∨(p38.1>4503599627370496))) 1 p68).bind λp75=>
     (zB1 (decide ((y53.Kind≠3)∧((y45<1)∨(y45>p38.1)))) 1 p75).bind λp84=>
     if p84.e≠0 then
     (none)
     else
     ((zF1 (⟨y53.Name,y53.Attrs,y53.Kind,y53.Temp,y53.Mono,W64 (p38.1-y45),p38.1,y53.Int_,y53.Re,y53.Im,y53.Hist,W64 ((minU p48.1 (1048576:UInt64)).toNat:Int)⟩:zA8)).bind λp118=>
      (zHr p84 0 p118).bind λp120=>
      some ((⟨p31.1,(⟨y53.Name,y53.Attrs,y53.Kind,y53.Temp,y53.Mono,W64 (p38.1-y45),p38.1,y53.Int_,y53.Re,y53.Im,y53.Hist,W64 ((minU p48.1 (1048576:UInt64)).toNat:Int)⟩:zA8)⟩:zAc),p120.2)))) λj2=>
   if x1.Kind=1 then
   ((zCx p48.2.r p48.2.e p48.2.rows.ints).bind λp139=>
    j2 (⟨p139.2.1,(⟨p48.2.rows.ords,p48.2.rows.times,p48.2.rows.spans,p139.2.2.2,p48.2.rows.re,p48.2.rows.im,p48.2.rows.hists⟩:zAp),p139.2.2.1⟩:zA6) (⟨x1.Name,x1.Attrs,x1.Kind,x1.Temp,x1.Mono,x1.Start,x1.Time,p139.1,x1.Re,x1.Im,x1.Hist,x1.Flags⟩:zA8))
   else
   (if x1.Kind=4 then
    (if p48.2.e=0 then
     (jn (λ(y171:zA2) (y173:Int) (y174:zA6)=>
      ((zHm y174 y171 y173).bind λp179=>
       j2 p179.2 (⟨x1.Name,x1.Attrs,x1.Kind,x1.Temp,x1.Mono,x1.Start,x1.Time,x1.Int_,x1.Re,x1.Im,p179.1,x1.Flags⟩:zA8))) λj3=>
      (zFl p48.2.rows.hists p48.2.r).bind λp212=>
      j3 p212.1 p212.2.1 (⟨p212.2.2.2,(⟨p48.2.rows.ords,p48.2.rows.times,p48.2.rows.spans,p48.2.rows.ints,p48.2.rows.re,p48.2.rows.im,p212.2.2.1⟩:zAp),p48.2.e⟩:zA6))
     else
     (none))
    else
    (if x1.Kind=5 then
     ((zBw p48.2.r p48.2.e p48.2.rows.re).bind λp273=>
      (zBw p273.2.1 p273.2.2.1 p48.2.rows.im).bind λp284=>
      j2 (⟨p284.2.1,(⟨p48.2.rows.ords,p48.2.rows.times,p48.2.rows.spans,p48.2.rows.ints,p273.2.2.2,p284.2.2.2,p48.2.rows.hists⟩:zAp),p284.2.2.1⟩:zA6) (⟨x1.Name,x1.Attrs,x1.Kind,x1.Temp,x1.Mono,x1.Start,x1.Time,x1.Int_,p273.1,p284.1,x1.Hist,x1.Flags⟩:zA8))
     else
     ((zBw p48.2.r p48.2.e p48.2.rows.re).bind λp321=>
      j2 (⟨p321.2.1,(⟨p48.2.rows.ords,p48.2.rows.times,p48.2.rows.spans,p48.2.rows.ints,p321.2.2.2,p48.2.rows.im,p48.2.rows.hists⟩:zAp),p321.2.2.1⟩:zA6) (⟨x1.Name,x1.Attrs,x1.Kind,x1.Temp,x1.Mono,x1.Start,x1.Time,x1.Int_,p321.1,x1.Im,x1.Hist,x1.Flags⟩:zA8)))))) λj1=>
 if x1.Kind≠3 then
 ((zCx p38.2.1 p38.2.2.1 x0.rows.spans).bind λp347=>
  j1 p347.1 (⟨p347.2.1,(⟨p31.2.2.2,p38.2.2.2,p347.2.2.2,x0.rows.ints,x0.rows.re,x0.rows.im,x0.rows.hists⟩:zAp),p347.2.2.1⟩:zA6))
 else
 (j1 0 (⟨p38.2.1,(⟨p31.2.2.2,p38.2.2.2,x0.rows.spans,x0.rows.ints,x0.rows.re,x0.rows.im,x0.rows.hists⟩:zAp),p38.2.2.1⟩:zA6))
def zI8 (p14:(Int×zAb)) (p31:(zA8×Int)) (j1:(List zAc)→zA6→Option ((List zAc)×Int)):Nat→(List zAc)→Int→Int→zA6→Option ((List zAc)×Int)
 | 0,_,_,_,_=>none
 | n+1,y81,y84,y85,y86=>
  if y85<p14.1 then
  ((zId p31.1).bind λp91=>
   (zGc y86 p91 y84).bind λp96=>
   if p96.2.e≠0 then
   (none)
   else
   ((zDu y81 [p96.1]).bind λz128=>
    zI8 p14 p31 j1 n z128 p96.1.Ord (W64 (y85+1)) p96.2))
  else
  (j1 y81 y86)
def zQw (x0:(List UInt8)):Option ((List zAc)×Int):=
 (zNz x0).bind λp7=>
 (zFg p7 420).bind λp10=>
 (zCe p10.2 128).bind λp14=>
 (zCe p14.2 16777216).bind λp18=>
 (quoZ (W64 (p18.1+7)) 8).bind λz22=>
 (zG4 p18.2 z22).bind λp23=>
 (zGt p23.2).bind λp28=>
 if p28≠0 then
 (none)
 else
 ((zIz p10.1).bind λp31=>
  if p31.2≠0 then
  (none)
  else
  ((zHa p23.1 p18.1).bind λp40=>
   if p40.2≠0 then
   (none)
   else
   ((zGd).bind λp46=>
    (p40.1).bind λz55=>
    jn (λ(y63:(List zAc)) (y66:zA6)=>
     ((zC1 y66.r).bind λp77=>
      if p77>0 then
      (none)
      else
      (some (y63,0)))) λj1=>
    zI8 p14 p31 j1 fuel ([]:List zAc) (-1) 0 (⟨z55,p46,0⟩:zA6))))
def zHk  : Option Bool:=
 (zMn ([(⟨0,(⟨([120]:List UInt8),[],3,0,false,10,10,0,(0:UInt64),(0:UInt64),(⟨0,(0:UInt64),(⟨0,[]⟩:zAa),(⟨0,[]⟩:zAa)⟩:zA2),0⟩:zA8)⟩:zAc)]:List zAc)).bind λp11=>
 (zQw p11.1).bind λp14=>
 jn (λ(y21:Bool)=>
  (jn (λ(y27:Bool)=>
   (some y27)) λj2=>
   if ((y21=true)∧(p14.2=0))∧((p14.1.length:Int)=1) then
   ((idx p14.1 0).bind λz30=>
    j2 (decide (z30.Point.Time=10)))
   else
   (none))) λj1=>
 if (p11.2=0)∧((p11.1.length:Int)=18) then
 ((zNt p11.1 0 8).bind λz39=>
  j1 (decide (z39=([5,120,32,51,48,48,1,77]:List UInt8))))
 else
 (none)
def zCa (x0:(List zA0)) (j1:Unit→Option Bool):Nat→Int→Option Bool
 | 0,_=>none
 | n+1,y5=>
  if y5<(x0.length:Int) then
  ((idx x0 y5).bind λz8=>
   jn (λ(y10:Bool)=>
    (if y10=true then
     (some false)
     else
     (zCa x0 j1 n (W64 (y5+1))))) λj2=>
   if (z8.Key.length:Int)>100 then
   (j2 true)
   else
   ((idx x0 y5).bind λz14=>
    j2 (decide ((z14.Val.length:Int)>100))))
  else
  (j1 ())
def zFs (x0:(List zA0)):Option Bool:=
 if (x0.length:Int)>20 then
 (some false)
 else
 (jn (λ(_:Unit)=>
  (some true)) λj1=>
  zCa x0 j1 fuel 0)
def zHj (x0:zA2):Option Bool:=
 some (decide (((x0.Pos.Counts.length:Int)≤300)∧((x0.Neg.Counts.length:Int)≤300)))
def zDj (x0:zA8):Option Bool:=
 jn (λ(y13:Bool)=>
  (jn (λ(y15:Bool)=>
   (some y15)) λj2=>
   if y13=true then
   ((zHj x0.Hist).bind λp18=>
    j2 p18)
   else
   (j2 false))) λj1=>
 if (x0.Name.length:Int)≤100 then
 ((zFs x0.Attrs).bind λp21=>
  j1 p21)
 else
 (j1 false)
def zC8 (x0:(List zAc)) (j1:Unit→Option Bool):Nat→Int→Option Bool
 | 0,_=>none
 | n+1,y5=>
  if y5<(x0.length:Int) then
  ((idx x0 y5).bind λz8=>
   (zDj z8.Point).bind λp17=>
   if (!p17)=true then
   (some false)
   else
   (zC8 x0 j1 n (W64 (y5+1))))
  else
  (j1 ())
def zFq (x0:(List zAc)) (x1:Int):Option Bool:=
 if (x0.length:Int)>x1 then
 (some false)
 else
 (jn (λ(_:Unit)=>
  (some true)) λj1=>
  zC8 x0 j1 fuel 0)
def zCh (x0:(List UInt8)) (j1:Unit→Option Bool):Nat→Int→Option Bool
 | 0,_=>none
 | n+1,y5=>
  if y5<(x0.length:Int) then
  ((idx x0 y5).bind λz8=>
   if (¬((((z8).toNat:Int)≥97)∧(((z8).toNat:Int)≤122)))∧((y5=0)∨(¬((((((z8).toNat:Int)≥48)∧(((z8).toNat:Int)≤57))∨(((z8).toNat:Int)=95))∨(((z8).toNat:Int)=46)))) then
   (some false)
   else
   (zCh x0 j1 n (W64 (y5+1))))
  else
  (j1 ())
def zDo (x0:(List UInt8)):Option Bool:=
 if ((x0.length:Int)<1)∨((x0.length:Int)>32) then
 (some false)
 else
 (jn (λ(_:Unit)=>
  (some true)) λj1=>
  zCh x0 j1 fuel 0)
def zC9 (x0:(List UInt8)) (j1:Unit→Option Bool):Nat→Int→Option Bool
 | 0,_=>none
 | n+1,y5=>
  if y5<(x0.length:Int) then
  ((idx x0 y5).bind λz8=>
   if ((((((z8).toNat:Int)≤32)∨(((z8).toNat:Int)≥127))∨(((z8).toNat:Int)=61))∨(((z8).toNat:Int)=59))∨(((z8).toNat:Int)=44) then
   (some false)
   else
   (zC9 x0 j1 n (W64 (y5+1))))
  else
  (j1 ())
def zE9 (x0:(List UInt8)):Option Bool:=
 if ((x0.length:Int)<1)∨((x0.length:Int)>32) then
 (some false)
 else
 (jn (λ(_:Unit)=>
  (some true)) λj1=>
  zC9 x0 j1 fuel 0)
def zBg (x1:(List zA0)) (y8:Int) (j3:Unit→Option Int):Nat→Int→Option Int
 | 0,_=>none
 | n+1,y19=>
  if y19<y8 then
  ((idx x1 y19).bind λz23=>
   (idx x1 y8).bind λz26=>
   if z23.Key=z26.Key then
   (some 8)
   else
   (zBg x1 y8 j3 n (W64 (y19+1))))
  else
  (j3 ())
def zCb (x1:(List zA0)) (j1:Unit→Option Int):Nat→Int→Option Int
 | 0,_=>none
 | n+1,y8=>
  if y8<(x1.length:Int) then
  ((idx x1 y8).bind λz11=>
   (zDo z11.Key).bind λp13=>
   jn (λ(y15:Bool)=>
    (if y15=true then
     (some 3)
     else
     (jn (λ(_:Unit)=>
      (zCb x1 j1 n (W64 (y8+1)))) λj3=>
      zBg x1 y8 j3 fuel 0))) λj2=>
   if (!p13)=true then
   (j2 true)
   else
   ((idx x1 y8).bind λz31=>
    (zE9 z31.Val).bind λp33=>
    j2 (!p33)))
  else
  (j1 ())
def zEa (x0:(List UInt8)) (x1:(List zA0)):Option Int:=
 (zDo x0).bind λp3=>
 if (!p3)=true then
 (some 3)
 else
 (if (x1.length:Int)>4 then
  (some 4)
  else
  (jn (λ(_:Unit)=>
   (some 0)) λj1=>
   zCb x1 j1 fuel 0))
def zBq (x0:zAa) (x1:zAa) (j1:Unit→Option Bool):Nat→Int→Option Bool
 | 0,_=>none
 | n+1,y17=>
  if y17<(x0.Counts.length:Int) then
  ((idx x0.Counts y17).bind λz21=>
   (idx x1.Counts y17).bind λz24=>
   if ((z21).toNat:Int)≠((z24).toNat:Int) then
   (some false)
   else
   (zBq x0 x1 j1 n (W64 (y17+1))))
  else
  (j1 ())
def zDl (x0:zAa) (x1:zAa):Option Bool:=
 if (x0.Offset≠x1.Offset)∨((x0.Counts.length:Int)≠(x1.Counts.length:Int)) then
 (some false)
 else
 (jn (λ(_:Unit)=>
  (some true)) λj1=>
  zBq x0 x1 j1 fuel 0)
def zEq (x0:zA2) (x1:zA2):Option Bool:=
 jn (λ(y21:Bool)=>
  (jn (λ(y23:Bool)=>
   (some y23)) λj2=>
   if y21=true then
   ((zDl x0.Neg x1.Neg).bind λp26=>
    j2 p26)
   else
   (j2 false))) λj1=>
 if (x0.Scale=x1.Scale)∧(((x0.Zero).toNat:Int)=((x1.Zero).toNat:Int)) then
 ((zDl x0.Pos x1.Pos).bind λp29=>
  j1 p29)
 else
 (j1 false)
def zGi (x0:zA2):Option Bool:=
 (zEq x0 (⟨0,(0:UInt64),(⟨0,[]⟩:zAa),(⟨0,[]⟩:zAa)⟩:zA2)).bind λp10=>
 some p10
def zFi (x0:UInt64):Option Bool:=
 (quo64 x0 (4503599627370496:UInt64)).bind λz1=>
 (rem64 z1 (2048:UInt64)).bind λz2=>
 some (decide (((z2).toNat:Int)≠2047))
def zDz (x0:UInt64):Option Bool:=
 (quo64 x0 (4503599627370496:UInt64)).bind λz1=>
 (rem64 z1 (2048:UInt64)).bind λz2=>
 jn (λ(y3:Bool)=>
  (some y3)) λj1=>
 if ((z2).toNat:Int)=2047 then
 ((rem64 x0 (4503599627370496:UInt64)).bind λz6=>
  j1 (decide (((z6).toNat:Int)≠0)))
 else
 (j1 false)
def zGk (x0:UInt64) (x1:UInt64):Option Bool:=
 (zDz x0).bind λp1=>
 jn (λ(y3:Bool)=>
  (if y3=true then
   (some false)
   else
   ((rem64 x0 (9223372036854775808:UInt64)).bind λz6=>
    (rem64 x1 (9223372036854775808:UInt64)).bind λz7=>
    if (((z6).toNat:Int)=0)∧(((z7).toNat:Int)=0) then
    (some false)
    else
    (if (((x0).toNat:Int)≥9223372036854775808)∧(((x1).toNat:Int)≥9223372036854775808) then
     (some (decide (((z6).toNat:Int)>((z7).toNat:Int))))
     else
     (if (((x0).toNat:Int)<9223372036854775808)∧(((x1).toNat:Int)<9223372036854775808) then
      (some (decide (((z6).toNat:Int)<((z7).toNat:Int))))
      else
      (some (decide (((x0).toNat:Int)≥9223372036854775808)))))))) λj1=>
 if p1=true then
 (j1 true)
 else
 ((zDz x1).bind λp18=>
  j1 p18)
def zEp (x0:zAa):Option Int:=
 if (x0.Counts.length:Int)>160 then
 (some 4)
 else
 (if (x0.Counts.length:Int)=0 then
  (if x0.Offset≠0 then
   (some 3)
   else
   (some 0))
  else
  ((idx x0.Counts 0).bind λz10=>
   jn (λ(y12:Bool)=>
    (if y12=true then
     (some 3)
     else
     (jn (λ(y17:Bool)=>
      (if y17=true then
       (some 1)
       else
       (some 0))) λj2=>
      if (x0.Offset<(-1073741824))∨(x0.Offset>1073741824) then
      (j2 true)
      else
      (j2 (decide (W64 ((W64 (x0.Offset+(x0.Counts.length:Int)))-1)>1073741824)))))) λj1=>
   if ((z10).toNat:Int)=0 then
   (j1 true)
   else
   ((idx x0.Counts (W64 ((x0.Counts.length:Int)-1))).bind λz22=>
    j1 (decide (((z22).toNat:Int)=0)))))
def zCm (x1:(List UInt64)) (j1:UInt64→Option (UInt64×Bool)):Nat→UInt64→Int→Option (UInt64×Bool)
 | 0,_,_=>none
 | n+1,y5,y6=>
  if y6<(x1.length:Int) then
  ((idx x1 y6).bind λz9=>
   if ((z9).toNat:Int)>(((18446744073709551615:UInt64)-y5).toNat:Int) then
   (some ((0:UInt64),false))
   else
   ((idx x1 y6).bind λz12=>
    zCm x1 j1 n (y5+z12) (W64 (y6+1))))
  else
  (j1 y5)
def zF7 (x0:UInt64) (x1:(List UInt64)):Option (UInt64×Bool):=
 jn (λ(y3:UInt64)=>
  (some (y3,true))) λj1=>
 zCm x1 j1 fuel x0 0
def zFu (x0:zA2):Option (UInt64×Bool):=
 (zF7 x0.Zero x0.Pos.Counts).bind λp10=>
 if (!p10.2)=true then
 (some ((0:UInt64),false))
 else
 ((zF7 p10.1 x0.Neg.Counts).bind λp13=>
  some (p13.1,p13.2))
def zFv (x0:zA2):Option Int:=
 if (x0.Scale<(-10))∨(x0.Scale>20) then
 (some 1)
 else
 ((zEp x0.Pos).bind λp13=>
  if p13≠0 then
  (some p13)
  else
  ((zEp x0.Neg).bind λp16=>
   if p16≠0 then
   (some p16)
   else
   ((zFu x0).bind λp19=>
    if (!p19.2)=true then
    (some 4)
    else
    (some 0))))
def zE8 (x0:zA8):Option Int:=
 (zEa x0.Name x0.Attrs).bind λp13=>
 if p13≠0 then
 (some p13)
 else
 (if (x0.Kind<1)∨(x0.Kind>5) then
  (some 14)
  else
  (if ((x0.Kind=3)∧(x0.Temp≠0))∨(((x0.Kind≠3)∧(x0.Temp≠1))∧(x0.Temp≠2)) then
   (some 14)
   else
   (if ((x0.Mono=true)∧(x0.Kind≠1))∧(x0.Kind≠2) then
    (some 1)
    else
    (if (((x0.Start<0)∨(x0.Time>4503599627370496))∨((x0.Kind=3)∧(x0.Start≠x0.Time)))∨((x0.Kind≠3)∧(x0.Start≥x0.Time)) then
     (some 1)
     else
     (jn (λ(y50:Bool)=>
      (if y50=true then
       (some 3)
       else
       (if ((((x0.Kind=1)∨(x0.Kind=4))∧(((x0.Re).toNat:Int)≠0))∨(x0.Flags<0))∨(x0.Flags>31) then
        (some 3)
        else
        (jn (λ(y64:Bool)=>
         (if y64=true then
          (some 11)
          else
          (jn (λ(y69:Bool)=>
           (if (y69=true)∨(((x0.Mono=true)∧(x0.Kind=1))∧(x0.Int_<0)) then
            (some 1)
            else
            (if x0.Kind=4 then
             ((zFv x0.Hist).bind λp79=>
              some p79)
             else
             (some 0)))) λj3=>
           if (x0.Mono=true)∧(x0.Kind=2) then
           ((zGk x0.Re (0:UInt64)).bind λp82=>
            j3 p82)
           else
           (j3 false)))) λj2=>
         if (x0.Mono=true)∧(x0.Kind=2) then
         ((zFi x0.Re).bind λp85=>
          j2 (!p85))
         else
         (j2 false))))) λj1=>
      if ((x0.Kind≠1)∧(x0.Int_≠0))∨((x0.Kind≠5)∧(((x0.Im).toNat:Int)≠0)) then
      (j1 true)
      else
      (jn (λ(y88:Bool)=>
       (j1 y88)) λj4=>
       if x0.Kind≠4 then
       ((zGi x0.Hist).bind λp91=>
        j4 (!p91))
       else
       (j4 false)))))))
def zBb (x0:(List zA0)) (y7:(List zA0)) (y10:Int) (j2:Int→Option (List zA0)):Nat→Int→Option (List zA0)
 | 0,_=>none
 | n+1,y33=>
  jn (λ(y35:Bool)=>
   (if y35=true then
    (zBb x0 y7 y10 j2 n (W64 (y33-1)))
    else
    (j2 y33))) λj3=>
  if y33>0 then
  ((idx y7 (W64 (y33-1))).bind λz40=>
   (idx x0 y10).bind λz41=>
   j3 (Op.bytesLess z41.Key z40.Key))
  else
  (j3 false)
def zC0 (x0:(List zA0)) (j1:(List zA0)→Option (List zA0)):Nat→(List zA0)→Int→Option (List zA0)
 | 0,_,_=>none
 | n+1,y7,y10=>
  if y10<(x0.length:Int) then
  (jn (λ(y15:Int)=>
   ((zNt y7 0 y15).bind λz17=>
    (zDu ([]:List zA0) z17).bind λz21=>
    (idx x0 y10).bind λz25=>
    (zDu z21 [z25]).bind λz27=>
    (zNt y7 y15 ((y7).length)).bind λz29=>
    (zDu z27 z29).bind λz31=>
    zC0 x0 j1 n z31 (W64 (y10+1)))) λj2=>
   zBb x0 y7 y10 j2 fuel (y7.length:Int))
  else
  (j1 y7)
def zDc (x0:(List zA0)):Option (List zA0):=
 jn (λ(y3:(List zA0))=>
  (some y3)) λj1=>
 zC0 x0 j1 fuel ([]:List zA0) 0
def zBy (p6:(List zA0)) (j1:(List UInt8)→Option ((List UInt8)×Int)):Nat→(List UInt8)→Int→Option ((List UInt8)×Int)
 | 0,_,_=>none
 | n+1,y11,y12=>
  if y12<(p6.length:Int) then
  ((catS y11 ([59]:List UInt8)).bind λz16=>
   (idx p6 y12).bind λz17=>
   (catS z16 z17.Key).bind λz18=>
   (catS z18 ([61]:List UInt8)).bind λz19=>
   (idx p6 y12).bind λz20=>
   (catS z19 z20.Val).bind λz21=>
   zBy p6 j1 n z21 (W64 (y12+1)))
  else
  (j1 y11)
def zEo (x0:(List UInt8)) (x1:(List zA0)):Option ((List UInt8)×Int):=
 (zEa x0 x1).bind λp3=>
 if p3≠0 then
 (some (([]:List UInt8),p3))
 else
 ((zDc x1).bind λp6=>
  jn (λ(y9:(List UInt8))=>
   (some (y9,0))) λj1=>
  zBy p6 j1 fuel x0 0)
def zE7 (x0:Int):Option (List UInt8):=
 some ([toU8 (W64 (48+x0))]:List UInt8)
def zGv (x0:Bool):Option Int:=
 if x0=true then
 (some 1)
 else
 (some 0)
def zF6 (x0:zA8):Option ((List UInt8)×Int):=
 (zE8 x0).bind λp13=>
 if p13≠0 then
 (some (([]:List UInt8),p13))
 else
 ((zEo x0.Name x0.Attrs).bind λp16=>
  (catS p16.1 ([32]:List UInt8)).bind λz19=>
  (zE7 x0.Kind).bind λp20=>
  (catS z19 p20).bind λz22=>
  (zE7 x0.Temp).bind λp23=>
  (catS z22 p23).bind λz25=>
  (zGv x0.Mono).bind λp26=>
  (zE7 p26).bind λp28=>
  (catS z25 p28).bind λz30=>
  some (z30,0))
def zBm (x0:Int):Option UInt64:=
 if x0≥0 then
 (some ((2:UInt64)*(zAf x0)))
 else
 (some (((2:UInt64)*(zAf (W64 ((-1)-x0))))+(1:UInt64)))
def zEs (x0:Int):Option Int:=
 (idx ([0,7,20,64]:List Int) x0).bind λz4=>
 some z4
def zBr (x0:Int) (j1:UInt64→Option UInt64):Nat→UInt64→Int→Option UInt64
 | 0,_,_=>none
 | n+1,y3,y4=>
  if y4<x0 then
  (zBr x0 j1 n ((2:UInt64)*y3) (W64 (y4+1)))
  else
  (j1 y3)
def zD0 (x0:Int):Option UInt64:=
 jn (λ(y1:UInt64)=>
  (some y1)) λj1=>
 zBr x0 j1 fuel (1:UInt64) 0
def zB8 (x0:UInt64) (j1:Unit→Option Int):Nat→Int→Option Int
 | 0,_=>none
 | n+1,y2=>
  if y2<3 then
  ((zEs y2).bind λp5=>
   (zD0 p5).bind λp7=>
   if ((x0).toNat:Int)<((p7).toNat:Int) then
   (some y2)
   else
   (zB8 x0 j1 n (W64 (y2+1))))
  else
  (j1 ())
def zFw (x0:UInt64):Option Int:=
 jn (λ(_:Unit)=>
  (some 3)) λj1=>
 zB8 x0 j1 fuel 0
def zC7 (x1:Int) (j1:UInt64→(List Int)→Option ((List Int)×Bool)):Nat→UInt64→(List Int)→Int→Option ((List Int)×Bool)
 | 0,_,_,_=>none
 | n+1,y11,y12,y15=>
  if y15<x1 then
  ((rem64 y11 (2:UInt64)).bind λz20=>
   (zDu ([W64 ((z20).toNat:Int)]:List Int) y12).bind λz24=>
   (quo64 y11 (2:UInt64)).bind λz26=>
   zC7 x1 j1 n z26 z24 (W64 (y15+1)))
  else
  (j1 y11 y12)
def zB0 (x0:UInt64) (x1:Int):Option ((List Int)×Bool):=
 if (x1<0)∨(x1>64) then
 (some (([]:List Int),false))
 else
 (jn (λ(y6:UInt64) (y7:(List Int))=>
  (some (y7,decide (((y6).toNat:Int)=0)))) λj1=>
  zC7 x1 j1 fuel x0 ([]:List Int) 0)
def zAv (x0:UInt64):Option (List Int):=
 (zFw x0).bind λp1=>
 (zB0 (zAf p1) 2).bind λp3=>
 (zEs p1).bind λp6=>
 (zB0 x0 p6).bind λp8=>
 (zDu p3.1 p8.1).bind λz11=>
 some z11
def zBc (x0:Int):Option Int:=
 (idx ([0,6,10,16,64]:List Int) x0).bind λz4=>
 some z4
def zBf (x0:Int) (j1:Unit→Option Int):Nat→Int→Option Int
 | 0,_=>none
 | n+1,y3=>
  if y3<4 then
  ((zBc y3).bind λp6=>
   (zD0 (W64 (p6-1))).bind λp8=>
   if (x0≥W64 (0-(W64 ((p8).toNat:Int))))∧(x0<W64 ((p8).toNat:Int)) then
   (some y3)
   else
   (zBf x0 j1 n (W64 (y3+1))))
  else
  (j1 ())
def zGw (x0:Int):Option Int:=
 if x0=0 then
 (some 0)
 else
 (jn (λ(_:Unit)=>
  (some 4)) λj1=>
  zBf x0 j1 fuel 1)
def zBz (p1:Int) (j1:(List Int)→Option (List Int)):Nat→(List Int)→Int→Option (List Int)
 | 0,_,_=>none
 | n+1,y29,y32=>
  if y32<p1 then
  ((zDu y29 [1]).bind λz37=>
   zBz p1 j1 n z37 (W64 (y32+1)))
  else
  (j1 y29)
def zEt (x0:Int):Option (List Int):=
 (zGw x0).bind λp1=>
 jn (λ(y3:(List Int))=>
  (jn (λ(y7:(List Int))=>
   (jn (λ(y11:UInt64)=>
    ((zBc p1).bind λp13=>
     (zB0 y11 p13).bind λp15=>
     (zDu y7 p15.1).bind λz18=>
     some z18)) λj3=>
    if p1<4 then
    ((zBc p1).bind λp21=>
     (zD0 p21).bind λp23=>
     (rem64 (zAf x0) p23).bind λz25=>
     j3 z25)
    else
    (j3 (zAf x0)))) λj2=>
   if p1<4 then
   ((zDu y3 [0]).bind λz27=>
    j2 z27)
   else
   (j2 y3))) λj1=>
 zBz p1 j1 fuel ([]:List Int) 0
def zCo (x0:(List Int)) (j1:(List Int)→Option (List Int)):Nat→(List Int)→Int→Option (List Int)
 | 0,_,_=>none
 | n+1,y7,y10=>
  if y10<(x0.length:Int) then
  (jn (λ(y15:(List Int))=>
   (zCo x0 j1 n y15 (W64 (y10+1)))) λj2=>
   if y10=0 then
   ((idx x0 0).bind λz20=>
    (zBm z20).bind λp22=>
    (zAv p22).bind λp24=>
    (zDu y7 p24).bind λz27=>
    j2 z27)
   else
   (if y10=1 then
    ((idx x0 1).bind λz31=>
     (idx x0 0).bind λz34=>
     (zBm (W64 (((zAf z31)-(zAf z34)).toNat:Int))).bind λp37=>
     (zAv p37).bind λp39=>
     (zDu y7 p39).bind λz42=>
     j2 z42)
    else
    ((idx x0 y10).bind λz45=>
     (idx x0 (W64 (y10-1))).bind λz48=>
     (idx x0 (W64 (y10-2))).bind λz51=>
     (zEt (W64 ((((zAf z45)-((2:UInt64)*(zAf z48)))+(zAf z51)).toNat:Int))).bind λp54=>
     (zDu y7 p54).bind λz57=>
     j2 z57)))
  else
  (j1 y7)
def zF9 (x0:(List Int)):Option (List Int):=
 jn (λ(y3:(List Int))=>
  (some y3)) λj1=>
 zCo x0 j1 fuel ([]:List Int) 0
def zB9 (x0:(List Int)) (x1:Int):Option (List Int):=
 (zF9 x0).bind λp3=>
 (zDu ([]:List Int) x0).bind λz6=>
 (zDu z6 [x1]).bind λz10=>
 (zF9 z10).bind λp12=>
 (zNt p12 (p3.length:Int) ((p12).length)).bind λz15=>
 some z15
def zF8 (x0:UInt64):Option (List Int):=
 (zB0 x0 64).bind λp1=>
 some p1.1
def zD9 (x0:zAd) (x1:UInt64) (x2:zAo):Option zAd:=
 (zDu ([]:List UInt64) x0.L).bind λz13=>
 (zDu z13 ([x1]:List UInt64)).bind λz24=>
 some (⟨z24,x2⟩:zAd)
def zEr (x0:zAd):Option UInt64:=
 if (x0.L.length:Int)=0 then
 (some (0:UInt64))
 else
 ((idx x0.L (W64 ((x0.L.length:Int)-1))).bind λz8=>
  some z8)
def zBv (x0:(List Int)) (x1:zAo) (j1:Unit→Option Bool):Nat→Int→Option Bool
 | 0,_=>none
 | n+1,y7=>
  if y7<64 then
  ((idx x0 y7).bind λz10=>
   jn (λ(y12:Bool)=>
    (if y12=true then
     (some false)
     else
     (zBv x0 x1 j1 n (W64 (y7+1))))) λj2=>
   if z10=1 then
   (jn (λ(y16:Bool)=>
    (j2 y16)) λj3=>
    if y7<x1.From then
    (j3 true)
    else
    (j3 (decide (y7≥W64 (x1.From+x1.Size)))))
   else
   (j2 false))
  else
  (j1 ())
def zH4 (x0:(List Int)) (x1:zAo):Option Bool:=
 jn (λ(_:Unit)=>
  (some (decide (x1.Size>0)))) λj1=>
 zBv x0 x1 j1 fuel 0
def zBl (x0:(List Int)) (y6:Int) (j2:Int→Option zAo):Nat→Int→Option zAo
 | 0,_=>none
 | n+1,y12=>
  jn (λ(y14:Bool)=>
   (if y14=true then
    (zBl x0 y6 j2 n (W64 (y12-1)))
    else
    (j2 y12))) λj3=>
  if y12>y6 then
  ((idx x0 (W64 (y12-1))).bind λz18=>
   j3 (decide (z18=0)))
  else
  (j3 false)
def zBk (x0:(List Int)) (j1:Int→Option zAo):Nat→Int→Option zAo
 | 0,_=>none
 | n+1,y20=>
  jn (λ(y22:Bool)=>
   (if y22=true then
    (zBk x0 j1 n (W64 (y20+1)))
    else
    (j1 y20))) λj4=>
  if y20<31 then
  ((idx x0 y20).bind λz26=>
   j4 (decide (z26=0)))
  else
  (j4 false)
def zFh (x0:(List Int)):Option zAo:=
 jn (λ(y6:Int)=>
  (jn (λ(y8:Int)=>
   (some (⟨y6,W64 (y8-y6)⟩:zAo))) λj2=>
   zBl x0 y6 j2 fuel 64)) λj1=>
 zBk x0 j1 fuel 0
def zDy (x0:zAd) (x1:UInt64):Option ((List Int)×zAd):=
 if (x0.L.length:Int)=0 then
 ((zF8 x1).bind λp12=>
  (zD9 x0 x1 x0.W).bind λp15=>
  some (p12,p15))
 else
 ((zEr x0).bind λp20=>
  (zF8 (x1^^^p20)).bind λp22=>
  (zEr x0).bind λp25=>
  if ((x1).toNat:Int)=((p25).toNat:Int) then
  ((zD9 x0 x1 x0.W).bind λp31=>
   some (([0]:List Int),p31))
  else
  ((zH4 p22 x0.W).bind λp36=>
   if p36=true then
   ((zNt p22 x0.W.From (W64 (x0.W.From+x0.W.Size))).bind λz46=>
    (zDu ([1,0]:List Int) z46).bind λz51=>
    (zD9 x0 x1 x0.W).bind λp53=>
    some (z51,p53))
   else
   ((zFh p22).bind λp60=>
    (zB0 (zAf p60.From) 5).bind λp65=>
    (zB0 (zAf (W64 (p60.Size-1))) 6).bind λp68=>
    (zDu ([1,1]:List Int) p65.1).bind λz74=>
    (zDu z74 p68.1).bind λz76=>
    (zNt p22 p60.From (W64 (p60.From+p60.Size))).bind λz85=>
    (zDu z76 z85).bind λz87=>
    (zD9 x0 x1 p60).bind λp89=>
    some (z87,p89))))
def zBj (x0:(List UInt64)) (j1:zAd→Option (List Int)):Nat→Int→zAd→Option (List Int)
 | 0,_,_=>none
 | n+1,y19,y20=>
  if y19<(x0.length:Int) then
  ((idx x0 y19).bind λz28=>
   (zDy y20 z28).bind λp31=>
   zBj x0 j1 n (W64 (y19+1)) p31.2)
  else
  (j1 y20)
def zB3 (x0:(List UInt64)) (x1:UInt64):Option (List Int):=
 jn (λ(y6:zAd)=>
  ((zDy y6 x1).bind λp10=>
   some p10.1)) λj1=>
 zBj x0 j1 fuel 0 (⟨([]:List UInt64),(⟨0,0⟩:zAo)⟩:zAd)
def zFt (x0:zA2) (x1:zA2):Option Bool:=
 some (decide (((((x0.Scale=x1.Scale)∧(x0.Pos.Offset=x1.Pos.Offset))∧(x0.Neg.Offset=x1.Neg.Offset))∧((x0.Pos.Counts.length:Int)=(x1.Pos.Counts.length:Int)))∧((x0.Neg.Counts.length:Int)=(x1.Neg.Counts.length:Int))))
def zDf (x0:zA2):Option (List UInt64):=
 (zDu ([x0.Zero]:List UInt64) x0.Pos.Counts).bind λz13=>
 (zDu z13 x0.Neg.Counts).bind λz15=>
 some z15
def zC3 (x0:Int) (x1:Int):Option (List Int):=
 (zB0 (zAf x0) x1).bind λp1=>
 some p1.1
def zD (x0:zAa):Option (List Int):=
 (zC3 (x0.Counts.length:Int) 8).bind λp7=>
 jn (λ(y10:(List Int))=>
  (some y10)) λj1=>
 if (x0.Counts.length:Int)>0 then
 ((zBm x0.Offset).bind λp15=>
  (zAv p15).bind λp17=>
  (zDu p7 p17).bind λz20=>
  j1 z20)
 else
 (j1 p7)
def zC4 (p26:(List UInt64)) (p29:(List UInt64)) (j2:(List Int)→Option (List Int)):Nat→(List Int)→Int→Option (List Int)
 | 0,_,_=>none
 | n+1,y36,y39=>
  if y39<(p26.length:Int) then
  ((idx p26 y39).bind λz43=>
   (idx p29 y39).bind λz44=>
   (zBm (W64 ((z43-z44).toNat:Int))).bind λp45=>
   (zAv p45).bind λp47=>
   (zDu y36 p47).bind λz50=>
   zC4 p26 p29 j2 n z50 (W64 (y39+1)))
  else
  (j2 y36)
def zBp (p70:(List UInt64)) (j3:(List Int)→Option (List Int)):Nat→(List Int)→Int→Option (List Int)
 | 0,_,_=>none
 | n+1,y77,y80=>
  if y80<(p70.length:Int) then
  ((idx p70 y80).bind λz83=>
   (zAv z83).bind λp84=>
   (zDu y77 p84).bind λz87=>
   zBp p70 j3 n z87 (W64 (y80+1)))
  else
  (j3 y77)
def zDx (x0:(List zA2)) (x1:zA2):Option (List Int):=
 jn (λ(y12:Bool)=>
  (if y12=true then
   ((idx x0 (W64 ((x0.length:Int)-1))).bind λz19=>
    (zDf x1).bind λp26=>
    (zDf z19).bind λp29=>
    jn (λ(y32:(List Int))=>
     (some y32)) λj2=>
    zC4 p26 p29 j2 fuel ([1]:List Int) 0)
   else
   ((zC3 (W64 (x1.Scale+10)) 5).bind λp55=>
    (zDu ([0]:List Int) p55).bind λz58=>
    (zD x1.Pos).bind λp60=>
    (zDu z58 p60).bind λz63=>
    (zD x1.Neg).bind λp65=>
    (zDu z63 p65).bind λz68=>
    (zDf x1).bind λp70=>
    jn (λ(y73:(List Int))=>
     (some y73)) λj3=>
    zBp p70 j3 fuel z68 0))) λj1=>
 if (x0.length:Int)>0 then
 ((idx x0 (W64 ((x0.length:Int)-1))).bind λz91=>
  (zFt z91 x1).bind λp98=>
  j1 p98)
 else
 (j1 false)
def zCf (x0:(List zAc)) (j1:(List Int)→Option (List Int)):Nat→(List Int)→(List Int)→(List Int)→(List Int)→(List Int)→(List UInt64)→(List UInt64)→(List zA2)→Int→Option (List Int)
 | 0,_,_,_,_,_,_,_,_,_=>none
 | n+1,y7,y10,y13,y16,y19,y22,y25,y28,y31=>
  if y31<(x0.length:Int) then
  ((idx x0 y31).bind λz50=>
   (idx x0 y31).bind λz62=>
   (zB9 y10 z62.Ord).bind λp71=>
   (zDu y7 p71).bind λz76=>
   (idx x0 y31).bind λz78=>
   (zDu y10 [z78.Ord]).bind λz87=>
   (zB9 y13 z50.Point.Time).bind λp89=>
   (zDu z76 p89).bind λz94=>
   (zDu y13 [z50.Point.Time]).bind λz96=>
   jn (λ(y98:(List Int)) (y101:(List Int))=>
    ((zAv (zAf z50.Point.Flags)).bind λp105=>
     (zDu y98 p105).bind λz108=>
     jn (λ(y110:(List Int)) (y113:(List Int)) (y116:(List UInt64)) (y119:(List UInt64)) (y122:(List zA2))=>
      (zCf x0 j1 n y110 z87 z96 y101 y113 y116 y119 y122 (W64 (y31+1)))) λj3=>
     if z50.Point.Kind=1 then
     ((zB9 y19 z50.Point.Int_).bind λp127=>
      (zDu z108 p127).bind λz132=>
      (zDu y19 [z50.Point.Int_]).bind λz134=>
      j3 z132 z134 y22 y25 y28)
     else
     (jn (λ(y136:Bool)=>
      (if y136=true then
       ((zB3 y22 z50.Point.Re).bind λp139=>
        (zDu z108 p139).bind λz142=>
        (zDu y22 [z50.Point.Re]).bind λz144=>
        j3 z142 y19 z144 y25 y28)
       else
       (if z50.Point.Kind=4 then
        ((zDx y28 z50.Point.Hist).bind λp147=>
         (zDu z108 p147).bind λz150=>
         (zDu y28 [z50.Point.Hist]).bind λz152=>
         j3 z150 y19 y22 y25 z152)
        else
        (if z50.Point.Kind=5 then
         ((zB3 y22 z50.Point.Re).bind λp155=>
          (zDu z108 p155).bind λz158=>
          (zDu y22 [z50.Point.Re]).bind λz160=>
          (zB3 y25 z50.Point.Im).bind λp162=>
          (zDu z158 p162).bind λz165=>
          (zDu y25 [z50.Point.Im]).bind λz167=>
          j3 z165 y19 z160 z167 y28)
         else
         (j3 z108 y19 y22 y25 y28))))) λj4=>
      if z50.Point.Kind=2 then
      (j4 (decide (z50.Point.Kind=2)))
      else
      (j4 (decide (z50.Point.Kind=3)))))) λj2=>
   if z50.Point.Kind≠3 then
   ((zB9 y16 (W64 (z50.Point.Time-z50.Point.Start))).bind λp171=>
    (zDu z94 p171).bind λz176=>
    (zDu y16 [W64 (z50.Point.Time-z50.Point.Start)]).bind λz178=>
    j2 z176 z178)
   else
   (j2 z94 y16))
  else
  (j1 y7)
def zGh (x0:(List zAc)):Option (List Int):=
 jn (λ(y3:(List Int))=>
  (some y3)) λj1=>
 zCf x0 j1 fuel ([]:List Int) ([]:List Int) ([]:List Int) ([]:List Int) ([]:List Int) ([]:List UInt64) ([]:List UInt64) ([]:List zA2) 0
def zBs (x0:Int) (j1:UInt64→Option UInt64):Nat→UInt64→Int→Option UInt64
 | 0,_,_=>none
 | n+1,y3,y4=>
  if y4<x0 then
  (zBs x0 j1 n ((2:UInt64)*y3) (W64 (y4+1)))
  else
  (j1 y3)
def zEb (x0:Int):Option UInt64:=
 jn (λ(y1:UInt64)=>
  (some y1)) λj1=>
 zBs x0 j1 fuel (1:UInt64) 0
def zBn (x0:UInt64) (j1:Unit→Option Int):Nat→Int→Option Int
 | 0,_=>none
 | n+1,y2=>
  if y2<8 then
  ((zEb (W64 (7+(W64 (7*y2))))).bind λp5=>
   if ((x0).toNat:Int)<((p5).toNat:Int) then
   (some y2)
   else
   (zBn x0 j1 n (W64 (y2+1))))
  else
  (j1 ())
def zFj (x0:UInt64):Option Int:=
 jn (λ(_:Unit)=>
  (some 8)) λj1=>
 zBn x0 j1 fuel 0
def zC6 (p1:Int) (j2:Int→Option (List UInt8)):Nat→Int→Int→Option (List UInt8)
 | 0,_,_=>none
 | n+1,y18,y19=>
  if y19<p1 then
  ((zEb y19).bind λp22=>
   (quoZ 128 (W64 ((p22).toNat:Int))).bind λz24=>
   zC6 p1 j2 n (W64 (y18+z24)) (W64 (y19+1)))
  else
  (j2 y18)
def zC5 (p1:Int) (j1:UInt64→(List UInt8)→Option (List UInt8)):Nat→UInt64→(List UInt8)→Int→Option (List UInt8)
 | 0,_,_,_=>none
 | n+1,y25,y26,y29=>
  if y29<p1 then
  ((rem64 y25 (256:UInt64)).bind λz34=>
   (zDu ([toU8 ((z34).toNat:Int)]:List UInt8) y26).bind λz38=>
   (quo64 y25 (256:UInt64)).bind λz40=>
   zC5 p1 j1 n z40 z38 (W64 (y29+1)))
  else
  (j1 y25 y26)
def zE (x0:UInt64):Option (List UInt8):=
 (zFj x0).bind λp1=>
 jn (λ(y3:UInt64) (y4:(List UInt8))=>
  (jn (λ(y8:Int)=>
   (jn (λ(y10:Int)=>
    ((zDu ([toU8 y10]:List UInt8) y4).bind λz15=>
     some z15)) λj3=>
    if p1<8 then
    (j3 (W64 (y8+(W64 ((y3).toNat:Int)))))
    else
    (j3 y8))) λj2=>
   zC6 p1 j2 fuel 0 0)) λj1=>
 zC5 p1 j1 fuel x0 ([]:List UInt8) 0
def zGl (x0:(List UInt8)):Option (List UInt8):=
 (zE (zAf (x0.length:Int))).bind λp1=>
 (zDu p1 x0).bind λz4=>
 some z4
def zBt (x0:(List Int)) (y10:Int) (j2:Int→Option (List UInt8)):Nat→Int→Int→Option (List UInt8)
 | 0,_,_=>none
 | n+1,y19,y20=>
  if y20<8 then
  (jn (λ(y23:Int)=>
   (zBt x0 y10 j2 n y23 (W64 (y20+1)))) λj3=>
   if W64 (y10+y20)<(x0.length:Int) then
   ((idx x0 (W64 (y10+y20))).bind λz26=>
    j3 (W64 ((W64 (2*y19))+z26)))
   else
   (j3 (W64 (2*y19))))
  else
  (j2 y19)
def zBh (x0:(List Int)) (j1:(List UInt8)→Option (List UInt8)):Nat→(List UInt8)→Int→Option (List UInt8)
 | 0,_,_=>none
 | n+1,y7,y10=>
  if y10<(x0.length:Int) then
  (jn (λ(y15:Int)=>
   ((zDu y7 [toU8 y15]).bind λz17=>
    zBh x0 j1 n z17 (W64 (y10+8)))) λj2=>
   zBt x0 y10 j2 fuel 0 0)
  else
  (j1 y7)
def zFx (x0:(List Int)):Option (List UInt8):=
 jn (λ(y3:(List UInt8))=>
  (some y3)) λj1=>
 zBh x0 j1 fuel ([]:List UInt8) 0
def zE6 (x0:(List UInt8)) (x1:(List zAc)):Option (List UInt8):=
 (zGh x1).bind λp3=>
 (zGl x0).bind λp7=>
 (zE (zAf (x1.length:Int))).bind λp10=>
 (catS p7 p10).bind λz13=>
 (zE (zAf (p3.length:Int))).bind λp14=>
 (catS z13 p14).bind λz17=>
 (zFx p3).bind λp18=>
 (catS z17 p18).bind λz21=>
 (lenS z21).bind λz22=>
 some z22
def zGu (x0:(List UInt8)) (x1:(List zAc)) (x2:Int) (x3:zAc):Option Int:=
 (zF6 x3.Point).bind λp15=>
 if p15.2≠0 then
 (some p15.2)
 else
 (if p15.1≠x0 then
  (some 14)
  else
  (if (x3.Ord<0)∨(x3.Ord>4503599627370496) then
   (some 1)
   else
   (jn (λ(y22:Bool)=>
    (if y22=true then
     (some 9)
     else
     (if (x1.length:Int)=128 then
      (some 6)
      else
      ((zDu ([]:List zAc) x1).bind λz26=>
       (zDu z26 [x3]).bind λz30=>
       (zE6 x0 z30).bind λp32=>
       if (p32.length:Int)>x2 then
       (some 6)
       else
       (some 0))))) λj1=>
    if (x1.length:Int)>0 then
    ((idx x1 (W64 ((x1.length:Int)-1))).bind λz40=>
     j1 (decide (x3.Ord≤z40.Ord)))
    else
    (j1 false))))
def zHi (x0:(List UInt8)):Option (zAb×(List UInt8)):=
 (zEe x0).bind λp2=>
 some ((⟨p2,0,0⟩:zAb),x0)
def zDm (p13:(Int×zAb)) (p30:(zA8×Int)) (j1:(List zAc)→zA6→Option ((List zAc)×Int×(List UInt8))):Nat→(List zAc)→Int→Int→zA6→Option ((List zAc)×Int×(List UInt8))
 | 0,_,_,_,_=>none
 | n+1,y80,y83,y84,y85=>
  if y84<p13.1 then
  ((zId p30.1).bind λp90=>
   (zGc y85 p90 y83).bind λp95=>
   if p95.2.e≠0 then
   (none)
   else
   ((zDu y80 [p95.1]).bind λz127=>
    zDm p13 p30 j1 n z127 p95.1.Ord (W64 (y84+1)) p95.2))
  else
  (j1 y80 y85)
def zJm (x0:(List UInt8)):Option ((List zAc)×Int×(List UInt8)):=
 (zHi x0).bind λp4=>
 (zFg p4.1 420).bind λp9=>
 (zCe p9.2 128).bind λp13=>
 (zCe p13.2 16777216).bind λp17=>
 (quoZ (W64 (p17.1+7)) 8).bind λz21=>
 (zG4 p17.2 z21).bind λp22=>
 (zGt p22.2).bind λp27=>
 if p27≠0 then
 (none)
 else
 ((zIz p9.1).bind λp30=>
  if p30.2≠0 then
  (none)
  else
  ((zHa p22.1 p17.1).bind λp39=>
   if p39.2≠0 then
   (none)
   else
   ((zGd).bind λp45=>
    (p39.1).bind λz54=>
    jn (λ(y62:(List zAc)) (y65:zA6)=>
     ((zC1 y65.r).bind λp76=>
      if p76>0 then
      (none)
      else
      (some (y62,0,p4.2)))) λj1=>
    zDm p13 p30 j1 fuel ([]:List zAc) (-1) 0 (⟨z54,p45,0⟩:zA6))))
def zCg (x0:(List zA0)) (x1:(List zA0)) (j1:Unit→Option Bool):Nat→Int→Option Bool
 | 0,_=>none
 | n+1,y7=>
  if y7<(x0.length:Int) then
  ((idx x0 y7).bind λz11=>
   (idx x1 y7).bind λz14=>
   if ¬(z11=z14) then
   (some false)
   else
   (zCg x0 x1 j1 n (W64 (y7+1))))
  else
  (j1 ())
def zGj (x0:(List zA0)) (x1:(List zA0)):Option Bool:=
 if (x0.length:Int)≠(x1.length:Int) then
 (some false)
 else
 (jn (λ(_:Unit)=>
  (some true)) λj1=>
  zCg x0 x1 j1 fuel 0)
def zEn (x0:zA8) (x1:zA8):Option Bool:=
 jn (λ(y25:Bool)=>
  (if y25=true then
   (some false)
   else
   (if ((((x0.Kind≠x1.Kind)∨(x0.Temp≠x1.Temp))∨(x0.Mono≠x1.Mono))∨(x0.Start≠x1.Start))∨(x0.Time≠x1.Time) then
    (some false)
    else
    (jn (λ(y43:Bool)=>
     (some y43)) λj2=>
     if (((x0.Int_=x1.Int_)∧(((x0.Re).toNat:Int)=((x1.Re).toNat:Int)))∧(((x0.Im).toNat:Int)=((x1.Im).toNat:Int)))∧(x0.Flags=x1.Flags) then
     ((zEq x0.Hist x1.Hist).bind λp46=>
      j2 p46)
     else
     (j2 false))))) λj1=>
 if x0.Name≠x1.Name then
 (j1 true)
 else
 ((zDc x0.Attrs).bind λp50=>
  (zDc x1.Attrs).bind λp53=>
  (zGj p50 p53).bind λp56=>
  j1 (!p56))
def zBx (x0:(List zAc)) (x1:(List zAc)) (j1:Unit→Option Bool):Nat→Int→Option Bool
 | 0,_=>none
 | n+1,y7=>
  if y7<(x0.length:Int) then
  (jn (λ(y10:Bool)=>
   (if y10=true then
    (some false)
    else
    (zBx x0 x1 j1 n (W64 (y7+1))))) λj2=>
   (idx x0 y7).bind λz14=>
   (idx x1 y7).bind λz23=>
   if z14.Ord≠z23.Ord then
   (j2 true)
   else
   ((idx x0 y7).bind λz33=>
    (idx x1 y7).bind λz42=>
    (zEn z33.Point z42.Point).bind λp51=>
    j2 (!p51)))
  else
  (j1 ())
def zHt (x0:(List zAc)) (x1:(List zAc)):Option Bool:=
 if (x0.length:Int)≠(x1.length:Int) then
 (some false)
 else
 (jn (λ(_:Unit)=>
  (some true)) λj1=>
  zBx x0 x1 j1 fuel 0)
def zBa (p39:((List UInt8)×Int)) (j2:Unit→Option Bool):Nat→(List UInt8)→Int→Option Bool
 | 0,_,_=>none
 | n+1,y62,y63=>
  if y63<((p39.1).length:Int) then
  ((idx y62 y63).bind λz66=>
   zBa p39 j2 n (zLd y62 y63 (0:UInt8)) (W64 (y63+1)))
  else
  (j2 ())
def zAz (x0:(List zAc)) (p35:((List UInt8)×Int)) (j1:Int→Option Bool):Nat→Int→Int→Option Bool
 | 0,_,_=>none
 | n+1,y68,y69=>
  if (y69<(x0.length:Int))∧(y68=0) then
  ((zNt x0 0 y69).bind λz75=>
   (idx x0 y69).bind λz77=>
   (zGu p35.1 z75 4611686018427387904 z77).bind λp86=>
   zAz x0 p35 j1 n p86 (W64 (y69+1)))
  else
  (j1 y68)
def zGb (x0:(List zAc)):Option Bool:=
 (zHk).bind λp7=>
 if (!p7)=true then
 (some false)
 else
 ((zFq x0 12).bind λp10=>
  if ((!p10)=true)∨((x0.length:Int)=0) then
  (some true)
  else
  ((idx x0 0).bind λz15=>
   (zE8 z15.Point).bind λp24=>
   (idx x0 0).bind λz26=>
   (zF6 z26.Point).bind λp35=>
   jn (λ(y37:Int)=>
    ((zMn x0).bind λp39=>
     if (p39.2≠y37)∨(p39.2≠0) then
     (some (decide ((p39.2=y37)∧((p39.1.length:Int)=0))))
     else
     ((zJm p39.1).bind λp47=>
      jn (λ(_:Unit)=>
       (jn (λ(y57:Bool)=>
        (some y57)) λj3=>
        if p47.2.1=0 then
        ((zHt x0 p47.1).bind λp60=>
         j3 p60)
        else
        (j3 false))) λj2=>
      zBa p39 j2 fuel p47.2.2 0))) λj1=>
   zAz x0 p35 j1 fuel p24 0))
end Go.Proofs.YthjhejgjcdajdaaGreatDoor
namespace Go.Proofs.YthjhejgjcdajdaaGreatDoor
open Go Go.RowKit Go.Wk
set_option maxRecDepth 20000 in
theorem zO5 (z6:(List UInt8)) (j2:Unit→Option Bool) (hE:z6.length<4611686018427387904) :
 zEz z6 j2 fuel 0=zIo z6 ()
 (λii xx ss kk=>
 (some xx).bind λz12=>
 (zIf z12).bind λp14=>
 if ((((!p14)=true)∧((((z12).toNat:Int)<48)∨(((z12).toNat:Int)>57)))∧(((z12).toNat:Int)≠95))∧(((z12).toNat:Int)≠46) then
 (some false)
 else
 (kk ()))
 (λss=>
 j2 ()):=zLf hE (λnn (ss:Unit) (yy:Int)=>zEz z6 j2 nn yy) ()
set_option maxRecDepth 20000 in
theorem zNn (z4:(List UInt8)) (j1:Unit→Option Bool) (hE:z4.length<4611686018427387904) :
 zEc z4 j1 fuel 0=zIo z4 ()
 (λii xx ss kk=>
 (some xx).bind λz10=>
 jn (λ(y12:Bool)=>
  (if y12=true then
   (some false)
   else
   (kk ()))) λj2=>
 if ((z10).toNat:Int)<33 then
 (j2 (decide (((z10).toNat:Int)<33)))
 else
 (if ((z10).toNat:Int)>126 then
  (j2 (decide (((z10).toNat:Int)>126)))
  else
  (if ((z10).toNat:Int)=61 then
   (j2 (decide (((z10).toNat:Int)=61)))
   else
   (if ((z10).toNat:Int)=59 then
    (j2 (decide (((z10).toNat:Int)=59)))
    else
    (j2 (decide (((z10).toNat:Int)=44)))))))
 (λss=>
 j1 ()):=zLf hE (λnn (ss:Unit) (yy:Int)=>zEc z4 j1 nn yy) ()
set_option maxRecDepth 20000 in
theorem zGz (x0:(List zA0)) (x1_0:zA0) (j1:Unit→Option Int) (hE:x0.length<4611686018427387904) :
 zAx x0 x1_0 j1 fuel 0=zIo x0 ()
 (λii xx ss kk=>
 (some xx).bind λz9=>
 (zJk z9 x1_0).bind λp11=>
 if p11=true then
 (some (ii:Int))
 else
 (kk ()))
 (λss=>
 j1 ()):=zLf hE (λnn (ss:Unit) (yy:Int)=>zAx x0 x1_0 j1 nn yy) ()
set_option maxRecDepth 20000 in
theorem zOk (x1:(List zA0)) (j1:Unit→Option Int) (hE:x1.length<4611686018427387904) :
 zFm x1 j1 fuel 0=zIo x1 ()
 (λii xx ss kk=>
 (some xx).bind λz11=>
 (zG2 z11.Key).bind λp18=>
 jn (λ(y20:Bool)=>
  (if y20=true then
   (some 3)
   else
   ((zNt x1 0 (ii:Int)).bind λz23=>
    (zBe z23 z11).bind λp25=>
    if p25=true then
    (some 8)
    else
    (kk ())))) λj2=>
 if (!p18)=true then
 (j2 true)
 else
 ((zH9 z11.Val).bind λp29=>
  j2 (!p29)))
 (λss=>
 j1 ()):=zLf hE (λnn (ss:Unit) (yy:Int)=>zFm x1 j1 nn yy) ()
set_option maxRecDepth 20000 in
theorem zP8 (z23:zAa) (j2:UInt64→UInt64→Option (UInt64×Bool)) (y32:UInt64) (y33:UInt64) (hE:z23.Counts.length<4611686018427387904) :
 zFb z23 j2 fuel y32 y33 0=zIo z23.Counts (y32,y33)
 (λii xx ss kk=>
 (some xx).bind λz37=>
 kk ((ss.1+z37),(ss.2|||(cry ss.1 z37))))
 (λss=>
 j2 ss.1 ss.2):=zLf hE (λnn (ss:(UInt64)×(UInt64)) (yy:Int)=>zFb z23 j2 nn ss.1 ss.2 yy) (y32,y33)
set_option maxRecDepth 20000 in
theorem zP6 (p13:(List zA0)) (j1:(List UInt8)→Option ((List UInt8)×Int)) (y23:(List UInt8)) (hE:p13.length<4611686018427387904) :
 zFa p13 j1 fuel 0 y23=zIo p13 y23
 (λii xx ss kk=>
 (some xx).bind λz27=>
 (catS ([59]:List UInt8) z27.Key).bind λz31=>
 (catS z31 ([61]:List UInt8)).bind λz32=>
 (catS z32 z27.Val).bind λz33=>
 (zDu ss z33).bind λz34=>
 kk z34)
 (λss=>
 j1 ss):=zLf hE (λnn (ss:((List UInt8))) (yy:Int)=>zFa p13 j1 nn yy ss) y23
set_option maxRecDepth 20000 in
theorem zMd (p43:(List UInt64)) (p46:(List UInt64)) (j3:zA3→Option (Int×zA4×zA3)) (y56:zA3) (hE:p46.length<4611686018427387904) :
 zCd p43 p46 j3 fuel 0 y56=zIo p46 y56
 (λii xx ss kk=>
 (some xx).bind λz59=>
 (idx p43 (ii:Int)).bind λz60=>
 (zF0 ss (W64 ((z59-z60).toNat:Int))).bind λp61=>
 kk p61)
 (λss=>
 j3 ss):=zLf hE (λnn (ss:(zA3)) (yy:Int)=>zCd p43 p46 j3 nn yy ss) y56
set_option maxRecDepth 20000 in
theorem zMc (p79:(List UInt64)) (j5:zA3→Option (Int×zA4×zA3)) (y87:zA3) (hE:p79.length<4611686018427387904) :
 zCc p79 j5 fuel 0 y87=zIo p79 y87
 (λii xx ss kk=>
 (some xx).bind λz90=>
 (zIa ss z90).bind λp91=>
 kk p91)
 (λss=>
 j5 ss):=zLf hE (λnn (ss:(zA3)) (yy:Int)=>zCc p79 j5 nn yy ss) y87
set_option maxRecDepth 20000 in
theorem zNo (x0:(List zA0)) (x1:(List UInt8)) (j1:Unit→Option Int) (hE:x0.length<4611686018427387904) :
 zEd x0 x1 j1 fuel 0=zIo x0 ()
 (λii xx ss kk=>
 (some xx).bind λz10=>
 if z10.Key=x1 then
 (some 8)
 else
 (kk ()))
 (λss=>
 j1 ()):=zLf hE (λnn (ss:Unit) (yy:Int)=>zEd x0 x1 j1 nn yy) ()
set_option maxRecDepth 20000 in
theorem zK5 (x0:(List zA0)) (j1:Unit→Option Bool) (hE:x0.length<4611686018427387904) :
 zCa x0 j1 fuel 0=zIo x0 ()
 (λii xx ss kk=>
 (some xx).bind λz8=>
 jn (λ(y10:Bool)=>
  (if y10=true then
   (some false)
   else
   (kk ()))) λj2=>
 if (z8.Key.length:Int)>100 then
 (j2 true)
 else
 ((some xx).bind λz14=>
  j2 (decide ((z14.Val.length:Int)>100))))
 (λss=>
 j1 ()):=zLf hE (λnn (ss:Unit) (yy:Int)=>zCa x0 j1 nn yy) ()
set_option maxRecDepth 20000 in
theorem zK3 (x0:(List zAc)) (j1:Unit→Option Bool) (hE:x0.length<4611686018427387904) :
 zC8 x0 j1 fuel 0=zIo x0 ()
 (λii xx ss kk=>
 (some xx).bind λz8=>
 (zDj z8.Point).bind λp17=>
 if (!p17)=true then
 (some false)
 else
 (kk ()))
 (λss=>
 j1 ()):=zLf hE (λnn (ss:Unit) (yy:Int)=>zC8 x0 j1 nn yy) ()
set_option maxRecDepth 20000 in
theorem zKn (x0:(List UInt8)) (j1:Unit→Option Bool) (hE:x0.length<4611686018427387904) :
 zCh x0 j1 fuel 0=zIo x0 ()
 (λii xx ss kk=>
 (some xx).bind λz8=>
 if (¬((((z8).toNat:Int)≥97)∧(((z8).toNat:Int)≤122)))∧(((ii:Int)=0)∨(¬((((((z8).toNat:Int)≥48)∧(((z8).toNat:Int)≤57))∨(((z8).toNat:Int)=95))∨(((z8).toNat:Int)=46)))) then
 (some false)
 else
 (kk ()))
 (λss=>
 j1 ()):=zLf hE (λnn (ss:Unit) (yy:Int)=>zCh x0 j1 nn yy) ()
set_option maxRecDepth 20000 in
theorem zK4 (x0:(List UInt8)) (j1:Unit→Option Bool) (hE:x0.length<4611686018427387904) :
 zC9 x0 j1 fuel 0=zIo x0 ()
 (λii xx ss kk=>
 (some xx).bind λz8=>
 if ((((((z8).toNat:Int)≤32)∨(((z8).toNat:Int)≥127))∨(((z8).toNat:Int)=61))∨(((z8).toNat:Int)=59))∨(((z8).toNat:Int)=44) then
 (some false)
 else
 (kk ()))
 (λss=>
 j1 ()):=zLf hE (λnn (ss:Unit) (yy:Int)=>zC9 x0 j1 nn yy) ()
set_option maxRecDepth 20000 in
theorem zK6 (x1:(List zA0)) (j1:Unit→Option Int) (hE:x1.length<4611686018427387904) :
 zCb x1 j1 fuel 0=zIo x1 ()
 (λii xx ss kk=>
 (some xx).bind λz11=>
 (zDo z11.Key).bind λp13=>
 jn (λ(y15:Bool)=>
  (if y15=true then
   (some 3)
   else
   (jn (λ(_:Unit)=>
    (kk ())) λj3=>
    zBg x1 (ii:Int) j3 fuel 0))) λj2=>
 if (!p13)=true then
 (j2 true)
 else
 ((some xx).bind λz31=>
  (zE9 z31.Val).bind λp33=>
  j2 (!p33)))
 (λss=>
 j1 ()):=zLf hE (λnn (ss:Unit) (yy:Int)=>zCb x1 j1 nn yy) ()
set_option maxRecDepth 20000 in
theorem zJa (x0:zAa) (x1:zAa) (j1:Unit→Option Bool) (hE:x0.Counts.length<4611686018427387904) :
 zBq x0 x1 j1 fuel 0=zIo x0.Counts ()
 (λii xx ss kk=>
 (some xx).bind λz21=>
 (idx x1.Counts (ii:Int)).bind λz24=>
 if ((z21).toNat:Int)≠((z24).toNat:Int) then
 (some false)
 else
 (kk ()))
 (λss=>
 j1 ()):=zLf hE (λnn (ss:Unit) (yy:Int)=>zBq x0 x1 j1 nn yy) ()
set_option maxRecDepth 20000 in
theorem zL0 (x1:(List UInt64)) (j1:UInt64→Option (UInt64×Bool)) (y5:UInt64) (hE:x1.length<4611686018427387904) :
 zCm x1 j1 fuel y5 0=zIo x1 y5
 (λii xx ss kk=>
 (some xx).bind λz9=>
 if ((z9).toNat:Int)>(((18446744073709551615:UInt64)-ss).toNat:Int) then
 (some ((0:UInt64),false))
 else
 ((some xx).bind λz12=>
  kk (ss+z12)))
 (λss=>
 j1 ss):=zLf hE (λnn (ss:(UInt64)) (yy:Int)=>zCm x1 j1 nn ss yy) y5
set_option maxRecDepth 20000 in
theorem zJq (x0:(List zA0)) (j1:(List zA0)→Option (List zA0)) (y7:(List zA0)) (hE:x0.length<4611686018427387904) :
 zC0 x0 j1 fuel y7 0=zIo x0 y7
 (λii xx ss kk=>
 jn (λ(y15:Int)=>
  ((zNt ss 0 y15).bind λz17=>
   (zDu ([]:List zA0) z17).bind λz21=>
   (some xx).bind λz25=>
   (zDu z21 [z25]).bind λz27=>
   (zNt ss y15 ((ss).length)).bind λz29=>
   (zDu z27 z29).bind λz31=>
   kk z31)) λj2=>
 zBb x0 ss (ii:Int) j2 fuel (ss.length:Int))
 (λss=>
 j1 ss):=zLf hE (λnn (ss:((List zA0))) (yy:Int)=>zC0 x0 j1 nn ss yy) y7
set_option maxRecDepth 20000 in
theorem zKl (p6:(List zA0)) (j1:(List UInt8)→Option ((List UInt8)×Int)) (y11:(List UInt8)) (hE:p6.length<4611686018427387904) :
 zBy p6 j1 fuel y11 0=zIo p6 y11
 (λii xx ss kk=>
 (catS ss ([59]:List UInt8)).bind λz16=>
 (some xx).bind λz17=>
 (catS z16 z17.Key).bind λz18=>
 (catS z18 ([61]:List UInt8)).bind λz19=>
 (some xx).bind λz20=>
 (catS z19 z20.Val).bind λz21=>
 kk z21)
 (λss=>
 j1 ss):=zLf hE (λnn (ss:((List UInt8))) (yy:Int)=>zBy p6 j1 nn ss yy) y11
set_option maxRecDepth 20000 in
theorem zL1 (x0:(List Int)) (j1:(List Int)→Option (List Int)) (y7:(List Int)) (hE:x0.length<4611686018427387904) :
 zCo x0 j1 fuel y7 0=zIo x0 y7
 (λii xx ss kk=>
 jn (λ(y15:(List Int))=>
  (kk y15)) λj2=>
 if (ii:Int)=0 then
 ((idx x0 0).bind λz20=>
  (zBm z20).bind λp22=>
  (zAv p22).bind λp24=>
  (zDu ss p24).bind λz27=>
  j2 z27)
 else
 (if (ii:Int)=1 then
  ((idx x0 1).bind λz31=>
   (idx x0 0).bind λz34=>
   (zBm (W64 (((zAf z31)-(zAf z34)).toNat:Int))).bind λp37=>
   (zAv p37).bind λp39=>
   (zDu ss p39).bind λz42=>
   j2 z42)
  else
  ((some xx).bind λz45=>
   (idx x0 (W64 ((ii:Int)-1))).bind λz48=>
   (idx x0 (W64 ((ii:Int)-2))).bind λz51=>
   (zEt (W64 ((((zAf z45)-((2:UInt64)*(zAf z48)))+(zAf z51)).toNat:Int))).bind λp54=>
   (zDu ss p54).bind λz57=>
   j2 z57)))
 (λss=>
 j1 ss):=zLf hE (λnn (ss:((List Int))) (yy:Int)=>zCo x0 j1 nn ss yy) y7
set_option maxRecDepth 20000 in
theorem zL (p26:(List UInt64)) (p29:(List UInt64)) (j2:(List Int)→Option (List Int)) (y36:(List Int)) (hE:p26.length<4611686018427387904) :
 zC4 p26 p29 j2 fuel y36 0=zIo p26 y36
 (λii xx ss kk=>
 (some xx).bind λz43=>
 (idx p29 (ii:Int)).bind λz44=>
 (zBm (W64 ((z43-z44).toNat:Int))).bind λp45=>
 (zAv p45).bind λp47=>
 (zDu ss p47).bind λz50=>
 kk z50)
 (λss=>
 j2 ss):=zLf hE (λnn (ss:((List Int))) (yy:Int)=>zC4 p26 p29 j2 nn ss yy) y36
set_option maxRecDepth 20000 in
theorem zKz (p70:(List UInt64)) (j3:(List Int)→Option (List Int)) (y77:(List Int)) (hE:p70.length<4611686018427387904) :
 zBp p70 j3 fuel y77 0=zIo p70 y77
 (λii xx ss kk=>
 (some xx).bind λz83=>
 (zAv z83).bind λp84=>
 (zDu ss p84).bind λz87=>
 kk z87)
 (λss=>
 j3 ss):=zLf hE (λnn (ss:((List Int))) (yy:Int)=>zBp p70 j3 nn ss yy) y77
set_option maxRecDepth 20000 in
theorem zKk (x0:(List zAc)) (j1:(List Int)→Option (List Int)) (y7:(List Int)) (y10:(List Int)) (y13:(List Int)) (y16:(List Int)) (y19:(List Int)) (y22:(List UInt64)) (y25:(List UInt64)) (y28:(List zA2)) (hE:x0.length<4611686018427387904) :
 zCf x0 j1 fuel y7 y10 y13 y16 y19 y22 y25 y28 0=zIo x0 (y7,y10,y13,y16,y19,y22,y25,y28)
 (λii xx ss kk=>
 (some xx).bind λz50=>
 (some xx).bind λz62=>
 (zB9 ss.2.1 z62.Ord).bind λp71=>
 (zDu ss.1 p71).bind λz76=>
 (some xx).bind λz78=>
 (zDu ss.2.1 [z78.Ord]).bind λz87=>
 (zB9 ss.2.2.1 z50.Point.Time).bind λp89=>
 (zDu z76 p89).bind λz94=>
 (zDu ss.2.2.1 [z50.Point.Time]).bind λz96=>
 jn (λ(y98:(List Int)) (y101:(List Int))=>
  ((zAv (zAf z50.Point.Flags)).bind λp105=>
   (zDu y98 p105).bind λz108=>
   jn (λ(y110:(List Int)) (y113:(List Int)) (y116:(List UInt64)) (y119:(List UInt64)) (y122:(List zA2))=>
    (kk (y110,z87,z96,y101,y113,y116,y119,y122))) λj3=>
   if z50.Point.Kind=1 then
   ((zB9 ss.2.2.2.2.1 z50.Point.Int_).bind λp127=>
    (zDu z108 p127).bind λz132=>
    (zDu ss.2.2.2.2.1 [z50.Point.Int_]).bind λz134=>
    j3 z132 z134 ss.2.2.2.2.2.1 ss.2.2.2.2.2.2.1 ss.2.2.2.2.2.2.2)
   else
   (jn (λ(y136:Bool)=>
    (if y136=true then
     ((zB3 ss.2.2.2.2.2.1 z50.Point.Re).bind λp139=>
      (zDu z108 p139).bind λz142=>
      (zDu ss.2.2.2.2.2.1 [z50.Point.Re]).bind λz144=>
      j3 z142 ss.2.2.2.2.1 z144 ss.2.2.2.2.2.2.1 ss.2.2.2.2.2.2.2)
     else
     (if z50.Point.Kind=4 then
      ((zDx ss.2.2.2.2.2.2.2 z50.Point.Hist).bind λp147=>
       (zDu z108 p147).bind λz150=>
       (zDu ss.2.2.2.2.2.2.2 [z50.Point.Hist]).bind λz152=>
       j3 z150 ss.2.2.2.2.1 ss.2.2.2.2.2.1 ss.2.2.2.2.2.2.1 z152)
      else
      (if z50.Point.Kind=5 then
       ((zB3 ss.2.2.2.2.2.1 z50.Point.Re).bind λp155=>
        (zDu z108 p155).bind λz158=>
        (zDu ss.2.2.2.2.2.1 [z50.Point.Re]).bind λz160=>
        (zB3 ss.2.2.2.2.2.2.1 z50.Point.Im).bind λp162=>
        (zDu z158 p162).bind λz165=>
        (zDu ss.2.2.2.2.2.2.1 [z50.Point.Im]).bind λz167=>
        j3 z165 ss.2.2.2.2.1 z160 z167 ss.2.2.2.2.2.2.2)
       else
       (j3 z108 ss.2.2.2.2.1 ss.2.2.2.2.2.1 ss.2.2.2.2.2.2.1 ss.2.2.2.2.2.2.2))))) λj4=>
    if z50.Point.Kind=2 then
    (j4 (decide (z50.Point.Kind=2)))
    else
    (j4 (decide (z50.Point.Kind=3)))))) λj2=>
 if z50.Point.Kind≠3 then
 ((zB9 ss.2.2.2.1 (W64 (z50.Point.Time-z50.Point.Start))).bind λp171=>
  (zDu z94 p171).bind λz176=>
  (zDu ss.2.2.2.1 [W64 (z50.Point.Time-z50.Point.Start)]).bind λz178=>
  j2 z176 z178)
 else
 (j2 z94 ss.2.2.2.1))
 (λss=>
 j1 ss.1):=zLf hE (λnn (ss:((List Int))×((List Int))×((List Int))×((List Int))×((List Int))×((List UInt64))×((List UInt64))×((List zA2))) (yy:Int)=>zCf x0 j1 nn ss.1 ss.2.1 ss.2.2.1 ss.2.2.2.1 ss.2.2.2.2.1 ss.2.2.2.2.2.1 ss.2.2.2.2.2.2.1 ss.2.2.2.2.2.2.2 yy) (y7,y10,y13,y16,y19,y22,y25,y28)
set_option maxRecDepth 20000 in
theorem zKm (x0:(List zA0)) (x1:(List zA0)) (j1:Unit→Option Bool) (hE:x0.length<4611686018427387904) :
 zCg x0 x1 j1 fuel 0=zIo x0 ()
 (λii xx ss kk=>
 (some xx).bind λz11=>
 (idx x1 (ii:Int)).bind λz14=>
 if ¬(z11=z14) then
 (some false)
 else
 (kk ()))
 (λss=>
 j1 ()):=zLf hE (λnn (ss:Unit) (yy:Int)=>zCg x0 x1 j1 nn yy) ()
end Go.Proofs.YthjhejgjcdajdaaGreatDoor
