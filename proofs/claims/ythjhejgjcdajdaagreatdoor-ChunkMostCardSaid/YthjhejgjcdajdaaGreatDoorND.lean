import Derived.Test.YthjhejgjcdajdaaGreatDoorVD2
set_option linter.unusedVariables false
set_option linter.unusedSimpArgs false
namespace Go.Proofs.YthjhejgjcdajdaaGreatDoor
open Go Go.RowKit Go.Wk
def gt3:List UInt8:=[0,1,56,2,57,49,28,3,61,58,42,50,38,29,17,4,62,47,59,36,45,43,51,22,53,39,33,30,24,18,12,5,63,55,48,27,60,41,37,16,46,35,44,21,52,32,23,11,54,26,40,15,34,20,31,10,25,14,19,9,13,8,7,6]
structure zA where
 Key:(List UInt8)
 Val:(List UInt8)
 deriving DecidableEq
def zA.rep:Rep zA:=Rep.map (fun x=>(x.Key,x.Val)) (Rep.two zUq zUq)
theorem zA.flat:zA.rep.Flat:=zXx _ (zWx zR1 zR1)
structure zA9 where
 Offset:Int
 Counts:(List UInt64)
 deriving DecidableEq
def zA9.rep:Rep zA9:=Rep.map (fun x=>(x.Offset,x.Counts)) (Rep.two (zWn .i64) (Rep.sl zAq))
structure zA3 where
 Scale:Int
 Zero:UInt64
 Pos:zA9
 Neg:zA9
 deriving DecidableEq
def zA3.rep:Rep zA3:=Rep.map (fun x=>(x.Scale,(x.Zero,(x.Pos,x.Neg)))) (Rep.two (zWn .i64) (Rep.two zAq (Rep.two zA9.rep zA9.rep)))
structure zA6 where
 Name:(List UInt8)
 Attrs:(List zA)
 Kind:Int
 Temp:Int
 Mono:Bool
 Start:Int
 Time:Int
 Int_:Int
 Re:UInt64
 Im:UInt64
 Hist:zA3
 Flags:Int
 deriving DecidableEq
def zA6.rep:Rep zA6:=Rep.map (fun x=>(x.Name,(x.Attrs,(x.Kind,(x.Temp,(x.Mono,(x.Start,(x.Time,(x.Int_,(x.Re,(x.Im,(x.Hist,x.Flags)))))))))))) (Rep.two zUq (Rep.two (Rep.sl zA.rep) (Rep.two (zWn .i64) (Rep.two (zWn .i64) (Rep.two zcy (Rep.two (zWn .i64) (Rep.two (zWn .i64) (Rep.two (zWn .i64) (Rep.two zAq (Rep.two zAq (Rep.two zA3.rep (zWn .i64))))))))))))
structure zAm where
 Ord:Int
 Point:zA6
 deriving DecidableEq
def zAm.rep:Rep zAm:=Rep.map (fun x=>(x.Ord,x.Point)) (Rep.two (zWn .i64) zA6.rep)
structure zG8 where
 a0:zA9
 a1:zA9
 deriving DecidableEq
structure zA2 where
 b:(List UInt8)
 n:Int
 deriving DecidableEq
structure zA8 where
 n:Int
 last:UInt64
 step:UInt64
 deriving DecidableEq
structure zAt where
 ahead:Int
 size:Int
 deriving DecidableEq
structure zAg where
 n:Int
 last:UInt64
 win:zAt
 deriving DecidableEq
structure zA4 where
 n:Int
 last:zA3
 deriving DecidableEq
structure zAj where
 ords:zA8
 times:zA8
 spans:zA8
 ints:zA8
 re:zAg
 im:zAg
 hists:zA4
 deriving DecidableEq
structure zAc where
 key:(List UInt8)
 most:Int
 n:Int
 last:Int
 w:zA2
 rows:zAj
 deriving DecidableEq
structure zLt where
 a0:Int
 a1:Int
 a2:Int
 a3:Int
 deriving DecidableEq
structure zLs where
 a0:Int
 a1:Int
 a2:Int
 a3:Int
 a4:Int
 deriving DecidableEq
structure zE5 where
 scale:Int
 posAt:Int
 posSize:Int
 negAt:Int
 negSize:Int
 deriving DecidableEq
structure zAd where
 b:(List UInt8)
 deriving DecidableEq
structure zAa where
 b:(List UInt8)
 at_:Int
 e:Int
 deriving DecidableEq
structure zA0 where
 b:(List UInt8)
 n:Int
 at_:Int
 deriving DecidableEq
structure zA5 where
 r:zA0
 rows:zAj
 e:Int
 deriving DecidableEq
structure zA1 where
 r:zA0
 e:Int
 deriving DecidableEq
def zA2.sh (b:Nat) (x:zA2):List Rs→Prop:=fun L=>∃ (A1_0:Option Addr) (c1_0:Nat),L=[zAh b 172 [.slice A1_0 (x.b).length c1_0,iv x.n],zBi 5 A1_0 c1_0 zCn x.b]
def zA2.obj (F:Nat→Prop) (b:Nat) (x:zA2):Rs:=zRg F (zA2.sh b x)
theorem zA2.oflat (F:Nat→Prop) (b:Nat) (x:zA2):(zA2.obj F b x).Flat:=zJz fun L hL=>by
 obtain ⟨_,_,rfl⟩:=hL;exact (flC (zDl _ _ _) (flC (zBf zFf _ _ _ _) fl0))
def zA4.sh (b:Nat) (x:zA4):List Rs→Prop:=fun L=>∃ (A1_0:Option Addr) (c1_0:Nat) (A1_1:Option Addr) (c1_1:Nat),L=[zAh b 192 [iv x.n,iv x.last.Scale,zAl x.last.Zero,iv x.last.Pos.Offset,.slice A1_0 (x.last.Pos.Counts).length c1_0,iv x.last.Neg.Offset,.slice A1_1 (x.last.Neg.Counts).length c1_1],zBi 35 A1_0 c1_0 zAq x.last.Pos.Counts,zBi 35 A1_1 c1_1 zAq x.last.Neg.Counts]
def zA4.obj (F:Nat→Prop) (b:Nat) (x:zA4):Rs:=zRg F (zA4.sh b x)
theorem zA4.oflat (F:Nat→Prop) (b:Nat) (x:zA4):(zA4.obj F b x).Flat:=zJz fun L hL=>by
 obtain ⟨_,_,_,_,rfl⟩:=hL;exact (flC (zDl _ _ _) (flC (zBf zDy _ _ _ _) (flC (zBf zDy _ _ _ _) fl0)))
def zA8.sh (b:Nat) (x:zA8):List Rs→Prop:=fun L=>L=[zAh b 186 [iv x.n,zAl x.last,zAl x.step]]
def zA8.obj (F:Nat→Prop) (b:Nat) (x:zA8):Rs:=zRg F (zA8.sh b x)
theorem zA8.oflat (F:Nat→Prop) (b:Nat) (x:zA8):(zA8.obj F b x).Flat:=zJz fun L hL=>by
 obtain rfl:=hL;exact (flC (zDl _ _ _) fl0)
def zAg.sh (b:Nat) (x:zAg):List Rs→Prop:=fun L=>L=[zAh b 190 [iv x.n,zAl x.last,iv x.win.ahead,iv x.win.size]]
def zAg.obj (F:Nat→Prop) (b:Nat) (x:zAg):Rs:=zRg F (zAg.sh b x)
theorem zAg.oflat (F:Nat→Prop) (b:Nat) (x:zAg):(zAg.obj F b x).Flat:=zJz fun L hL=>by
 obtain rfl:=hL;exact (flC (zDl _ _ _) fl0)
def zAc.sh (b:Nat) (x:zAc):List Rs→Prop:=fun L=>∃ (F1_0:(Nat→Prop)) (b1_0:Nat) (F1_1:(Nat→Prop)) (b1_1:Nat) (F1_2:(Nat→Prop)) (b1_2:Nat) (F1_3:(Nat→Prop)) (b1_3:Nat) (F1_4:(Nat→Prop)) (b1_4:Nat) (F1_5:(Nat→Prop)) (b1_5:Nat) (F1_6:(Nat→Prop)) (b1_6:Nat) (F1_7:(Nat→Prop)) (b1_7:Nat),L=[zAh b 122 [Str (x.key),iv x.most,iv x.n,iv x.last,pt b1_0 0,pt b1_1 0,pt b1_2 0,pt b1_3 0,pt b1_4 0,pt b1_5 0,pt b1_6 0,pt b1_7 0],zA2.obj F1_0 b1_0 x.w,zA8.obj F1_1 b1_1 x.rows.ords,zA8.obj F1_2 b1_2 x.rows.times,zA8.obj F1_3 b1_3 x.rows.spans,zA8.obj F1_4 b1_4 x.rows.ints,zAg.obj F1_5 b1_5 x.rows.re,zAg.obj F1_6 b1_6 x.rows.im,zA4.obj F1_7 b1_7 x.rows.hists]
def zAc.obj (F:Nat→Prop) (b:Nat) (x:zAc):Rs:=zRg F (zAc.sh b x)
theorem zAc.oflat (F:Nat→Prop) (b:Nat) (x:zAc):(zAc.obj F b x).Flat:=zJz fun L hL=>by
 obtain ⟨_,_,_,_,_,_,_,_,_,_,_,_,_,_,_,_,rfl⟩:=hL;exact (flC (zDl _ _ _) (flC (zA2.oflat _ _ _) (flC (zA8.oflat _ _ _) (flC (zA8.oflat _ _ _) (flC (zA8.oflat _ _ _) (flC (zA8.oflat _ _ _) (flC (zAg.oflat _ _ _) (flC (zAg.oflat _ _ _) (flC (zA4.oflat _ _ _) fl0)))))))))
def zAj.sh (b:Nat) (x:zAj):List Rs→Prop:=fun L=>∃ (F1_0:(Nat→Prop)) (b1_0:Nat) (F1_1:(Nat→Prop)) (b1_1:Nat) (F1_2:(Nat→Prop)) (b1_2:Nat) (F1_3:(Nat→Prop)) (b1_3:Nat) (F1_4:(Nat→Prop)) (b1_4:Nat) (F1_5:(Nat→Prop)) (b1_5:Nat) (F1_6:(Nat→Prop)) (b1_6:Nat),L=[zAh b 80 [pt b1_0 0,pt b1_1 0,pt b1_2 0,pt b1_3 0,pt b1_4 0,pt b1_5 0,pt b1_6 0],zA8.obj F1_0 b1_0 x.ords,zA8.obj F1_1 b1_1 x.times,zA8.obj F1_2 b1_2 x.spans,zA8.obj F1_3 b1_3 x.ints,zAg.obj F1_4 b1_4 x.re,zAg.obj F1_5 b1_5 x.im,zA4.obj F1_6 b1_6 x.hists]
def zAj.obj (F:Nat→Prop) (b:Nat) (x:zAj):Rs:=zRg F (zAj.sh b x)
def zAd.sh (b:Nat) (x:zAd):List Rs→Prop:=fun L=>∃ (A1_0:Option Addr) (c1_0:Nat),L=[zAh b 179 [.slice A1_0 (x.b).length c1_0],zBi 5 A1_0 c1_0 zCn x.b]
def zAd.obj (F:Nat→Prop) (b:Nat) (x:zAd):Rs:=zRg F (zAd.sh b x)
theorem zAd.oflat (F:Nat→Prop) (b:Nat) (x:zAd):(zAd.obj F b x).Flat:=zJz fun L hL=>by
 obtain ⟨_,_,rfl⟩:=hL;exact (flC (zDl _ _ _) (flC (zBf zFf _ _ _ _) fl0))
def zAa.sh (b:Nat) (x:zAa):List Rs→Prop:=fun L=>∃ (A1_0:Option Addr) (c1_0:Nat),L=[zAh b 134 [.slice A1_0 (x.b).length c1_0,iv x.at_,iv x.e],slR A1_0 c1_0 zCn x.b]
def zAa.obj (F:Nat→Prop) (b:Nat) (x:zAa):Rs:=zRg F (zAa.sh b x)
def zA0.sh (b:Nat) (x:zA0):List Rs→Prop:=fun L=>∃ (A1_0:Option Addr) (c1_0:Nat),L=[zAh b 139 [.slice A1_0 (x.b).length c1_0,iv x.n,iv x.at_],slR A1_0 c1_0 zCn x.b]
def zA0.obj (F:Nat→Prop) (b:Nat) (x:zA0):Rs:=zRg F (zA0.sh b x)
def zA5.sh (b:Nat) (p0:Nat) (x:zA5):List Rs→Prop:=fun L=>∃ (F1_0:(Nat→Prop)) (F1_1:(Nat→Prop)) (b1_1:Nat) (F1_2:(Nat→Prop)) (b1_2:Nat) (F1_3:(Nat→Prop)) (b1_3:Nat) (F1_4:(Nat→Prop)) (b1_4:Nat) (F1_5:(Nat→Prop)) (b1_5:Nat) (F1_6:(Nat→Prop)) (b1_6:Nat) (F1_7:(Nat→Prop)) (b1_7:Nat),L=[zAh b 83 [pt p0 0,pt b1_1 0,pt b1_2 0,pt b1_3 0,pt b1_4 0,pt b1_5 0,pt b1_6 0,pt b1_7 0,iv x.e],zA0.obj F1_0 p0 x.r,zA8.obj F1_1 b1_1 x.rows.ords,zA8.obj F1_2 b1_2 x.rows.times,zA8.obj F1_3 b1_3 x.rows.spans,zA8.obj F1_4 b1_4 x.rows.ints,zAg.obj F1_5 b1_5 x.rows.re,zAg.obj F1_6 b1_6 x.rows.im,zA4.obj F1_7 b1_7 x.rows.hists]
def zA5.obj (F:Nat→Prop) (b:Nat) (p0:Nat) (x:zA5):Rs:=zRg F (zA5.sh b p0 x)
def zA1.sh (b:Nat) (p0:Nat) (x:zA1):List Rs→Prop:=fun L=>∃ (F1_0:(Nat→Prop)),L=[zAh b 200 [pt p0 0,iv x.e],zA0.obj F1_0 p0 x.r]
def zA1.obj (F:Nat→Prop) (b:Nat) (p0:Nat) (x:zA1):Rs:=zRg F (zA1.sh b p0 x)
def zA3.sh (b:Nat) (x:zA3):List Rs→Prop:=fun L=>∃ (A1_0:Option Addr) (c1_0:Nat) (A1_1:Option Addr) (c1_1:Nat),L=[zAh b 40 [iv x.Scale,zAl x.Zero,iv x.Pos.Offset,.slice A1_0 (x.Pos.Counts).length c1_0,iv x.Neg.Offset,.slice A1_1 (x.Neg.Counts).length c1_1],zBi 35 A1_0 c1_0 zAq x.Pos.Counts,zBi 35 A1_1 c1_1 zAq x.Neg.Counts]
def zA3.obj (F:Nat→Prop) (b:Nat) (x:zA3):Rs:=zRg F (zA3.sh b x)
def zGe (x0:UInt8):Option Bool:=
 some (decide ((((x0).toNat:Int)≥97)∧(((x0).toNat:Int)≤122)))
def zC0 (z6:(List UInt8)) (j2:Unit→Option Bool):Nat→Int→Option Bool
 | 0,_=>none
 | n+1,y9=>
  if y9<(z6.length:Int) then
  ((idx z6 y9).bind fun z12=>
   (zGe z12).bind fun p14=>
   if ((((!p14)=true)∧((((z12).toNat:Int)<48)∨(((z12).toNat:Int)>57)))∧(((z12).toNat:Int)≠95))∧(((z12).toNat:Int)≠46) then
   (some false)
   else
   (zC0 z6 j2 n (W64 (y9+1))))
  else
  (j2 ())
def zEh (x0:(List UInt8)):Option Bool:=
 jn (fun (y3:Bool)=>
  (if y3=true then
   (some false)
   else
   ((lenS x0).bind fun z6=>
    jn (fun (_:Unit)=>
     (some true)) fun j2=>
    zC0 z6 j2 fuel 0))) fun j1=>
 if (x0=([]:List UInt8))∨((x0.length:Int)>32) then
 (j1 true)
 else
 ((idx x0 0).bind fun z26=>
  (zGe z26).bind fun p27=>
  j1 (!p27))
def zBv (z4:(List UInt8)) (j1:Unit→Option Bool):Nat→Int→Option Bool
 | 0,_=>none
 | n+1,y7=>
  if y7<(z4.length:Int) then
  ((idx z4 y7).bind fun z10=>
   jn (fun (y12:Bool)=>
    (if y12=true then
     (some false)
     else
     (zBv z4 j1 n (W64 (y7+1))))) fun j2=>
   if ((z10).toNat:Int)<33 then
   (j2 (decide (((z10).toNat:Int)<33)))
   else
   (if ((z10).toNat:Int)>126 then
    (j2 (decide (((z10).toNat:Int)>126)))
    else
    (if ((z10).toNat:Int)=61 then
     (j2 (decide (((z10).toNat:Int)=61)))
     else
     (if ((z10).toNat:Int)=59 then
      (j2 (decide (((z10).toNat:Int)=59)))
      else
      (j2 (decide (((z10).toNat:Int)=44)))))))
  else
  (j1 ())
def zFc (x0:(List UInt8)):Option Bool:=
 if (x0=([]:List UInt8))∨((x0.length:Int)>32) then
 (some false)
 else
 ((lenS x0).bind fun z4=>
  jn (fun (_:Unit)=>
   (some true)) fun j1=>
  zBv z4 j1 fuel 0)
def zHb (x0:zA) (x1:zA):Option Bool:=
 some (decide (x0.Key=x1.Key))
def zAk (x0:(List zA)) (x1_0:zA) (j1:Unit→Option Int):Nat→Int→Option Int
 | 0,_=>none
 | n+1,y6=>
  if y6<(x0.length:Int) then
  ((idx x0 y6).bind fun z9=>
   (zHb z9 x1_0).bind fun p11=>
   if p11=true then
   (some y6)
   else
   (zAk x0 x1_0 j1 n (W64 (y6+1))))
  else
  (j1 ())
def zCo (x0:(List zA)) (x1_0:zA):Option Int:=
 jn (fun (_:Unit)=>
  (some (-1))) fun j1=>
 zAk x0 x1_0 j1 fuel 0
def zBj (x0:(List zA)) (x1_0:zA):Option Bool:=
 (zCo x0 x1_0).bind fun p5=>
 some (decide (p5≥0))
def zCc (x1:(List zA)) (j1:Unit→Option Int):Nat→Int→Option Int
 | 0,_=>none
 | n+1,y8=>
  if y8<(x1.length:Int) then
  ((idx x1 y8).bind fun z11=>
   (zEh z11.Key).bind fun p18=>
   jn (fun (y20:Bool)=>
    (if y20=true then
     (some 3)
     else
     ((zM2 x1 0 y8).bind fun z23=>
      (zBj z23 z11).bind fun p25=>
      if p25=true then
      (some 8)
      else
      (zCc x1 j1 n (W64 (y8+1)))))) fun j2=>
   if (!p18)=true then
   (j2 true)
   else
   ((zFc z11.Val).bind fun p29=>
    j2 (!p29)))
  else
  (j1 ())
def zHc (x0:(List UInt8)) (x1:(List zA)):Option Int:=
 (zEh x0).bind fun p3=>
 if (!p3)=true then
 (some 3)
 else
 (if (x1.length:Int)>4 then
  (some 4)
  else
  (jn (fun (_:Unit)=>
   (some 0)) fun j1=>
   zCc x1 j1 fuel 0))
def zIo (x0:zA6):Option Bool:=
 if x0.Kind=3 then
 (some (decide (x0.Temp=0)))
 else
 (jn (fun (y14:Bool)=>
  (if y14=true then
   (some (decide ((x0.Temp=1)∨(x0.Temp=2))))
   else
   (some false))) fun j1=>
  if x0.Kind=1 then
  (j1 (decide (x0.Kind=1)))
  else
  (if x0.Kind=2 then
   (j1 (decide (x0.Kind=2)))
   else
   (if x0.Kind=4 then
    (j1 (decide (x0.Kind=4)))
    else
    (j1 (decide (x0.Kind=5))))))
def zM5 (x0:zA6):Option Bool:=
 some (decide ((x0.Kind=1)∨(x0.Kind=2)))
def zIn (x0:zA6):Option Bool:=
 if (x0.Start<0)∨(x0.Time>4503599627370496) then
 (some false)
 else
 (if x0.Kind=3 then
  (some (decide (x0.Start=x0.Time)))
  else
  (some (decide (x0.Start<x0.Time))))
def zJo (x0:zA3):Option Bool:=
 jn (fun (y16:Bool)=>
  (some y16)) fun j1=>
 if (((x0.Scale=0)∧(((x0.Zero).toNat:Int)=0))∧(x0.Pos.Offset=0))∧(x0.Neg.Offset=0) then
 (j1 (decide (W64 ((x0.Pos.Counts.length:Int)+(x0.Neg.Counts.length:Int))=0)))
 else
 (j1 false)
def zKg (x0:zA6):Option Bool:=
 jn (fun (y19:Bool)=>
  (if y19=true then
   (some false)
   else
   (some true))) fun j1=>
 if (x0.Kind≠1)∧(x0.Int_≠0) then
 (j1 (decide ((x0.Kind≠1)∧(x0.Int_≠0))))
 else
 (if (¬(((x0.Kind=2)∨(x0.Kind=3))∨(x0.Kind=5)))∧(((x0.Re).toNat:Int)≠0) then
  (j1 (decide ((¬(((x0.Kind=2)∨(x0.Kind=3))∨(x0.Kind=5)))∧(((x0.Re).toNat:Int)≠0))))
  else
  (if (x0.Kind≠5)∧(((x0.Im).toNat:Int)≠0) then
   (j1 (decide ((x0.Kind≠5)∧(((x0.Im).toNat:Int)≠0))))
   else
   (jn (fun (y29:Bool)=>
    (if y29=true then
     (j1 y29)
     else
     (j1 (decide ((x0.Flags<0)∨(x0.Flags>31)))))) fun j2=>
    if x0.Kind≠4 then
    ((zJo x0.Hist).bind fun p35=>
     j2 (!p35))
    else
    (j2 false))))
def zJp (x0:UInt64):Option Bool:=
 some (decide (((x0&&&(9218868437227405312:UInt64)).toNat:Int)≠9218868437227405312))
def zOe (x0:UInt64):Option UInt64:=
 some x0
def zLp (x0:UInt64) (x1:UInt64):Option Bool:=
 (zOe x0).bind fun p1=>
 (zOe x1).bind fun p3=>
 some (zY5 p1 p3)
def zIe (x0:zA3):Option zG8:=
 some ({ a0:=x0.Pos,a1:=x0.Neg }:zG8)
def zJr (x0:zA9):Option Int:=
 if (x0.Counts.length:Int)>160 then
 (some 4)
 else
 (if ((x0.Counts.length:Int)=0)∧(x0.Offset≠0) then
  (some 3)
  else
  (if (x0.Counts.length:Int)=0 then
   (some 0)
   else
   ((idx x0.Counts 0).bind fun z12=>
    jn (fun (y14:Bool)=>
     (if y14=true then
      (some 3)
      else
      (jn (fun (y17:Bool)=>
       (if y17=true then
        (some 1)
        else
        (some 0))) fun j2=>
       if x0.Offset<(-1073741824) then
       (j2 true)
       else
       (j2 (decide (x0.Offset>W64 (1073741824-(W64 ((x0.Counts.length:Int)-1))))))))) fun j1=>
    if ((z12).toNat:Int)=0 then
    (j1 true)
    else
    ((idx x0.Counts (W64 ((x0.Counts.length:Int)-1))).bind fun z22=>
     j1 (decide (((z22).toNat:Int)=0))))))
def zCd (z23:zA9) (j2:UInt64→UInt64→Option (UInt64×Bool)):Nat→UInt64→UInt64→Int→Option (UInt64×Bool)
 | 0,_,_,_=>none
 | n+1,y32,y33,y34=>
  if y34<(z23.Counts.length:Int) then
  ((idx z23.Counts y34).bind fun z37=>
   zCd z23 j2 n (y32+z37) (y33|||(cry y32 z37)) (W64 (y34+1)))
  else
  (j2 y32 y33)
def zCz (p10:zG8) (j1:UInt64→UInt64→Option (UInt64×Bool)):Nat→UInt64→UInt64→Int→Option (UInt64×Bool)
 | 0,_,_,_=>none
 | n+1,y18,y19,y20=>
  if y20<2 then
  ((idx ([p10.a0,p10.a1]:List zA9) y20).bind fun z23=>
   jn (fun (y29:UInt64) (y30:UInt64)=>
    (zCz p10 j1 n y29 y30 (W64 (y20+1)))) fun j2=>
   zCd z23 j2 fuel y18 y19 0)
  else
  (j1 y18 y19)
def zJs (x0:zA3):Option (UInt64×Bool):=
 (zIe x0).bind fun p10=>
 jn (fun (y14:UInt64) (y15:UInt64)=>
  (if ((y15).toNat:Int)≠0 then
   (some ((0:UInt64),false))
   else
   (some (y14,true)))) fun j1=>
 zCz p10 j1 fuel x0.Zero (0:UInt64) 0
def zDw (p13:zG8) (j1:Unit→Option Int):Nat→Int→Option Int
 | 0,_=>none
 | n+1,y21=>
  if y21<2 then
  ((idx ([p13.a0,p13.a1]:List zA9) y21).bind fun z24=>
   (zJr z24).bind fun p30=>
   if p30≠0 then
   (some p30)
   else
   (zDw p13 j1 n (W64 (y21+1))))
  else
  (j1 ())
def zFi (x0:zA3):Option Int:=
 if (x0.Scale<(-10))∨(x0.Scale>20) then
 (some 1)
 else
 ((zIe x0).bind fun p13=>
  jn (fun (_:Unit)=>
   ((zJs x0).bind fun p18=>
    if (!p18.2)=true then
    (some 4)
    else
    (some 0))) fun j1=>
  zDw p13 j1 fuel 0)
def zDr (x0:zA6):Option Int:=
 (zHc x0.Name x0.Attrs).bind fun p13=>
 if p13≠0 then
 (some p13)
 else
 ((zIo x0).bind fun p16=>
  if (!p16)=true then
  (some 14)
  else
  (jn (fun (y19:Bool)=>
   (jn (fun (y21:Bool)=>
    (if y21=true then
     (some 1)
     else
     ((zKg x0).bind fun p24=>
      if (!p24)=true then
      (some 3)
      else
      (jn (fun (y29:Bool)=>
       (if y29=true then
        (some 11)
        else
        (jn (fun (y32:Bool)=>
         (if y32=true then
          (some 1)
          else
          (if x0.Kind=4 then
           ((zFi x0.Hist).bind fun p36=>
            some p36)
           else
           (some 0)))) fun j4=>
         if x0.Mono=true then
         (jn (fun (y39:Bool)=>
          (j4 y39)) fun j5=>
          if x0.Int_<0 then
          (j5 true)
          else
          ((zLp x0.Re (0:UInt64)).bind fun p42=>
           j5 p42))
         else
         (j4 false)))) fun j3=>
       if (x0.Mono=true)∧(x0.Kind=2) then
       ((zJp x0.Re).bind fun p45=>
        j3 (!p45))
       else
       (j3 false))))) fun j2=>
    if y19=true then
    (j2 y19)
    else
    ((zIn x0).bind fun p48=>
     j2 (!p48)))) fun j1=>
   if x0.Mono=true then
   ((zM5 x0).bind fun p51=>
    j1 (!p51))
   else
   (j1 false)))
def zBz (x0:(List zA)):Option (List zA):=
 zLr [] x0
def zG1 (x0:(List UInt8)):Option Bool:=
 some (decide (x0≠x0))
def zGn (x0:(List UInt8)) (x1:(List UInt8)):Option Int:=
 (zG1 x0).bind fun p1=>
 (zG1 x1).bind fun p3=>
 if p1=true then
 (if p3=true then
  (some 0)
  else
  (some (-1)))
 else
 (if p3=true then
  (some 1)
  else
  (if (Op.bytesLess x0 x1)=true then
   (some (-1))
   else
   (if (Op.bytesLess x1 x0)=true then
    (some 1)
    else
    (some 0))))
def zE3 (x0:zA) (x1:zA):Option Int:=
 (zGn x0.Key x1.Key).bind fun p7=>
 some p7
def zAp (x1:Int) (j2:(List zA)→Option (List zA)):Nat→(List zA)→Int→Option (List zA)
 | 0,_,_=>none
 | n+1,y10,y11=>
  jn (fun (y13:Bool)=>
   (if y13=true then
    ((idx y10 (W64 (y11-1))).bind fun z17=>
     (idx y10 y11).bind fun z18=>
     (idx y10 y11).bind fun z20=>
     (idx (zGq y10 y11 z17) (W64 (y11-1))).bind fun z22=>
     zAp x1 j2 n (zGq (zGq y10 y11 z17) (W64 (y11-1)) z18) (W64 (y11-1)))
    else
    (j2 y10))) fun j3=>
  if y11>x1 then
  ((idx y10 y11).bind fun z30=>
   (idx y10 (W64 (y11-1))).bind fun z31=>
   (zE3 z30 z31).bind fun p32=>
   j3 (decide (p32<0)))
  else
  (j3 false)
def zAo (x1:Int) (x2:Int) (j1:(List zA)→Option (List zA)):Nat→(List zA)→Int→Option (List zA)
 | 0,_,_=>none
 | n+1,y4,y5=>
  if y5<x2 then
  (jn (fun (y8:(List zA))=>
   (zAo x1 x2 j1 n y8 (W64 (y5+1)))) fun j2=>
   zAp x1 j2 fuel y4 y5)
  else
  (j1 y4)
def zB1 (x0:(List zA)) (x1:Int) (x2:Int):Option (List zA):=
 jn (fun (y2:(List zA))=>
  (some y2)) fun j1=>
 zAo x1 x2 j1 fuel x0 (W64 (x1+1))
def zBl (x1:Int) (x2:Int) (x3:Int) (j1:(List zA)→Option (List zA)):Nat→(List zA)→Int→Option (List zA)
 | 0,_,_=>none
 | n+1,y4,y5=>
  if y5<x3 then
  ((idx y4 (W64 (x2+y5))).bind fun z9=>
   (idx y4 (W64 (x1+y5))).bind fun z10=>
   (idx y4 (W64 (x1+y5))).bind fun z12=>
   (idx (zGq y4 (W64 (x1+y5)) z9) (W64 (x2+y5))).bind fun z14=>
   zBl x1 x2 x3 j1 n (zGq (zGq y4 (W64 (x1+y5)) z9) (W64 (x2+y5)) z10) (W64 (y5+1)))
  else
  (j1 y4)
def zC (x0:(List zA)) (x1:Int) (x2:Int) (x3:Int):Option (List zA):=
 jn (fun (y2:(List zA))=>
  (some y2)) fun j1=>
 zBl x1 x2 x3 j1 fuel x0 0
def zBh (x2:Int) (j1:(List zA)→Int→Option (List zA)):Nat→(List zA)→Int→Int→Option (List zA)
 | 0,_,_,_=>none
 | n+1,y9,y10,y11=>
  if y10≠y11 then
  (if y10>y11 then
   ((zC y9 (W64 (x2-y10)) x2 y11).bind fun p15=>
    zBh x2 j1 n p15 (W64 (y10-y11)) y11)
   else
   ((zC y9 (W64 (x2-y10)) (W64 ((W64 (x2+y11))-y10)) y10).bind fun p19=>
    zBh x2 j1 n p19 y10 (W64 (y11-y10))))
  else
  (j1 y9 y10)
def zEt (x0:(List zA)) (x1:Int) (x2:Int) (x3:Int):Option (List zA):=
 jn (fun (y2:(List zA)) (y3:Int)=>
  ((zC y2 (W64 (x2-y3)) x2 y3).bind fun p5=>
   some p5)) fun j1=>
 zBh x2 j1 fuel x0 (W64 (x2-x1)) (W64 (x3-x2))
def zBo (y3:Int) (j2:(List zA)→Option (List zA)):Nat→(List zA)→Int→Option (List zA)
 | 0,_,_=>none
 | n+1,y7,y8=>
  if y8<W64 (y3-1) then
  ((idx y7 (W64 (y8+1))).bind fun z12=>
   (idx y7 y8).bind fun z13=>
   (idx y7 y8).bind fun z15=>
   (idx (zGq y7 y8 z12) (W64 (y8+1))).bind fun z17=>
   zBo y3 j2 n (zGq (zGq y7 y8 z12) (W64 (y8+1)) z13) (W64 (y8+1)))
  else
  (j2 y7)
def zB8 (x0:(List zA)) (x1:Int) (j1:Int→Option (List zA)):Nat→Int→Int→Option (List zA)
 | 0,_,_=>none
 | n+1,y23,y24=>
  if y23<y24 then
  ((idx x0 (W64 (((zAe (W64 (y23+y24)))>>>UInt64.ofNat 1).toNat:Int))).bind fun z28=>
   (idx x0 x1).bind fun z29=>
   (zE3 z28 z29).bind fun p30=>
   if p30<0 then
   (zB8 x0 x1 j1 n (W64 ((W64 (((zAe (W64 (y23+y24)))>>>UInt64.ofNat 1).toNat:Int))+1)) y24)
   else
   (zB8 x0 x1 j1 n y23 (W64 (((zAe (W64 (y23+y24)))>>>UInt64.ofNat 1).toNat:Int))))
  else
  (j1 y23)
def zBn (y34:Int) (j4:(List zA)→Option (List zA)):Nat→(List zA)→Int→Option (List zA)
 | 0,_,_=>none
 | n+1,y38,y39=>
  if y39>y34 then
  ((idx y38 (W64 (y39-1))).bind fun z43=>
   (idx y38 y39).bind fun z44=>
   (idx y38 y39).bind fun z46=>
   (idx (zGq y38 y39 z43) (W64 (y39-1))).bind fun z48=>
   zBn y34 j4 n (zGq (zGq y38 y39 z43) (W64 (y39-1)) z44) (W64 (y39-1)))
  else
  (j4 y38)
def zB7 (x0:(List zA)) (x2:Int) (j3:Int→Option (List zA)):Nat→Int→Int→Option (List zA)
 | 0,_,_=>none
 | n+1,y54,y55=>
  if y54<y55 then
  ((idx x0 x2).bind fun z59=>
   (idx x0 (W64 (((zAe (W64 (y54+y55)))>>>UInt64.ofNat 1).toNat:Int))).bind fun z60=>
   (zE3 z59 z60).bind fun p61=>
   if ¬(p61<0) then
   (zB7 x0 x2 j3 n (W64 ((W64 (((zAe (W64 (y54+y55)))>>>UInt64.ofNat 1).toNat:Int))+1)) y55)
   else
   (zB7 x0 x2 j3 n y54 (W64 (((zAe (W64 (y54+y55)))>>>UInt64.ofNat 1).toNat:Int))))
  else
  (j3 y54)
def zB6 (x0:(List zA)) (x1:Int) (x2:Int) (x3:Int) (j6:Int→Option (List zA)):Nat→Int→Int→Option (List zA)
 | 0,_,_=>none
 | n+1,y87,y88=>
  if y87<y88 then
  ((idx x0 (W64 ((W64 ((W64 ((W64 (((zAe (W64 (x1+x3)))>>>UInt64.ofNat 1).toNat:Int))+x2))-1))-(W64 (((zAe (W64 (y87+y88)))>>>UInt64.ofNat 1).toNat:Int))))).bind fun z92=>
   (idx x0 (W64 (((zAe (W64 (y87+y88)))>>>UInt64.ofNat 1).toNat:Int))).bind fun z93=>
   (zE3 z92 z93).bind fun p94=>
   if ¬(p94<0) then
   (zB6 x0 x1 x2 x3 j6 n (W64 ((W64 (((zAe (W64 (y87+y88)))>>>UInt64.ofNat 1).toNat:Int))+1)) y88)
   else
   (zB6 x0 x1 x2 x3 j6 n y87 (W64 (((zAe (W64 (y87+y88)))>>>UInt64.ofNat 1).toNat:Int))))
  else
  (j6 y87)
def zCx (x0:(List zA)) (x1:Int) (x2:Int) (x3:Int):Option (List zA):=
 if W64 (x2-x1)=1 then
 (jn (fun (y3:Int)=>
  (jn (fun (y5:(List zA))=>
   (some y5)) fun j2=>
   zBo y3 j2 fuel x0 x1)) fun j1=>
  zB8 x0 x1 j1 fuel x2 x3)
 else
 (if W64 (x3-x2)=1 then
  (jn (fun (y34:Int)=>
   (jn (fun (y36:(List zA))=>
    (some y36)) fun j4=>
    zBn y34 j4 fuel x0 x2)) fun j3=>
   zB7 x0 x2 j3 fuel x1 x2)
  else
  (jn (fun (y64:Int) (y65:Int)=>
   (jn (fun (y67:Int)=>
    (jn (fun (y71:(List zA))=>
     (jn (fun (_:Unit)=>
      (if (W64 (((zAe (W64 (x1+x3)))>>>UInt64.ofNat 1).toNat:Int)<W64 ((W64 ((W64 (((zAe (W64 (x1+x3)))>>>UInt64.ofNat 1).toNat:Int))+x2))-y67))∧(W64 ((W64 ((W64 (((zAe (W64 (x1+x3)))>>>UInt64.ofNat 1).toNat:Int))+x2))-y67)<x3) then
       (none)
       else
       (some y71))) fun j8=>
      if (x1<y67)∧(y67<W64 (((zAe (W64 (x1+x3)))>>>UInt64.ofNat 1).toNat:Int)) then
      (none)
      else
      (j8 ()))) fun j7=>
     if (y67<x2)∧(x2<W64 ((W64 ((W64 (((zAe (W64 (x1+x3)))>>>UInt64.ofNat 1).toNat:Int))+x2))-y67)) then
     ((zEt x0 y67 x2 (W64 ((W64 ((W64 (((zAe (W64 (x1+x3)))>>>UInt64.ofNat 1).toNat:Int))+x2))-y67))).bind fun p83=>
      j7 p83)
     else
     (j7 x0))) fun j6=>
    zB6 x0 x1 x2 x3 j6 fuel y64 y65)) fun j5=>
   if x2>W64 (((zAe (W64 (x1+x3)))>>>UInt64.ofNat 1).toNat:Int) then
   (j5 (W64 ((W64 ((W64 (((zAe (W64 (x1+x3)))>>>UInt64.ofNat 1).toNat:Int))+x2))-x3)) (W64 (((zAe (W64 (x1+x3)))>>>UInt64.ofNat 1).toNat:Int)))
   else
   (j5 x1 x2)))
def zBq (x1:Int) (y12:Int) (j3:(List zA)→Int→Option (List zA)):Nat→(List zA)→Int→Int→Option (List zA)
 | 0,_,_,_=>none
 | n+1,y25,y26,y27=>
  if y27≤x1 then
  ((zCx y25 y26 (W64 (y26+y12)) y27).bind fun p30=>
   zBq x1 y12 j3 n p30 y27 (W64 (y27+(W64 (2*y12)))))
  else
  (j3 y25 y26)
def zB0 (x1:Int) (j2:(List zA)→Option (List zA)):Nat→(List zA)→Int→Option (List zA)
 | 0,_,_=>none
 | n+1,y11,y12=>
  if y12<x1 then
  (jn (fun (y15:(List zA)) (y16:Int)=>
   (jn (fun (y18:(List zA))=>
    (zB0 x1 j2 n y18 (W64 (y12*2)))) fun j4=>
    if W64 (y16+y12)<x1 then
    ((zCx y15 y16 (W64 (y16+y12)) x1).bind fun p21=>
     j4 p21)
    else
    (j4 y15))) fun j3=>
   zBq x1 y12 j3 fuel y11 0 (W64 (2*y12)))
  else
  (j2 y11)
def zB (x1:Int) (j1:(List zA)→Int→Option (List zA)):Nat→(List zA)→Int→Int→Option (List zA)
 | 0,_,_,_=>none
 | n+1,y34,y35,y36=>
  if y36≤x1 then
  ((zB1 y34 y35 y36).bind fun p39=>
   zB x1 j1 n p39 y36 (W64 (y36+20)))
  else
  (j1 y34 y35)
def zCf (x0:(List zA)) (x1:Int):Option (List zA):=
 jn (fun (y2:(List zA)) (y3:Int)=>
  ((zB1 y2 y3 x1).bind fun p5=>
   jn (fun (y9:(List zA))=>
    (some y9)) fun j2=>
   zB0 x1 j2 fuel p5 20)) fun j1=>
 zB x1 j1 fuel x0 0 20
def zC2 (x0:(List zA)):Option (List zA):=
 (zCf x0 (x0.length:Int)).bind fun p2=>
 some p2
def zI3 (x0:(List zA)):Option (List zA):=
 (zBz x0).bind fun p3=>
 (zC2 p3).bind fun p6=>
 some p6
def zCb (p13:(List zA)) (j1:(List UInt8)→Option ((List UInt8)×Int)):Nat→Int→(List UInt8)→Option ((List UInt8)×Int)
 | 0,_,_=>none
 | n+1,y22,y23=>
  if y22<(p13.length:Int) then
  ((idx p13 y22).bind fun z27=>
   (catS ([59]:List UInt8) z27.Key).bind fun z31=>
   (catS z31 ([61]:List UInt8)).bind fun z32=>
   (catS z32 z27.Val).bind fun z33=>
   (zLr y23 z33).bind fun z34=>
   zCb p13 j1 n (W64 (y22+1)) z34)
  else
  (j1 y23)
def zIc (x0:(List UInt8)) (x1:(List zA)):Option ((List UInt8)×Int):=
 (zHc x0 x1).bind fun p3=>
 if p3≠0 then
 (some (([]:List UInt8),p3))
 else
 ((zLr ([]:List UInt8) x0).bind fun z10=>
  (zI3 x1).bind fun p13=>
  jn (fun (y16:(List UInt8))=>
   (some (y16,0))) fun j1=>
  zCb p13 j1 fuel 0 z10)
def zKh (x0:Bool):Option Int:=
 if x0=true then
 (some 1)
 else
 (some 0)
def zJ0 (x0:zA6):Option ((List UInt8)×Int):=
 (zDr x0).bind fun p13=>
 if p13≠0 then
 (some (([]:List UInt8),p13))
 else
 ((zIc x0.Name x0.Attrs).bind fun p16=>
  (catS p16.1 ([32]:List UInt8)).bind fun z19=>
  (zKh x0.Mono).bind fun p20=>
  (catS z19 ([zKv (W64 (48+x0.Kind)),zKv (W64 (48+x0.Temp)),zKv (W64 (48+p20))]:List UInt8)).bind fun z25=>
  some (z25,0))
def zHz  : Option zA2:=
 some ({ b:=([]:List UInt8),n:=0 }:zA2)
def zFj  : Option zA8:=
 some ({ n:=0,last:=(0:UInt64),step:=(0:UInt64) }:zA8)
def zI8  : Option zAg:=
 some ({ n:=0,last:=(0:UInt64),win:=({ ahead:=0,size:=0 }:zAt) }:zAg)
def zGg  : Option zA4:=
 some ({ n:=0,last:=({ Scale:=0,Zero:=(0:UInt64),Pos:=({ Offset:=0,Counts:=([]:List UInt64) }:zA9),Neg:=({ Offset:=0,Counts:=([]:List UInt64) }:zA9) }:zA3) }:zA4)
def zFd  : Option zAj:=
 (zFj).bind fun p4=>
 (zFj).bind fun p7=>
 (zFj).bind fun p10=>
 (zFj).bind fun p13=>
 (zI8).bind fun p16=>
 (zI8).bind fun p19=>
 (zGg).bind fun p22=>
 some ({ ords:=p4,times:=p7,spans:=p10,ints:=p13,re:=p16,im:=p19,hists:=p22 }:zAj)
def zJc (x0:zA6) (x1:Int):Option ((Option zAc)×Int):=
 (zJ0 x0).bind fun p13=>
 if p13.2≠0 then
 (some ((none:Option zAc),p13.2))
 else
 ((zHz).bind fun p18=>
  (zFd).bind fun p21=>
  some ((some ({ key:=p13.1,most:=x1,n:=0,last:=(-1),w:=p18,rows:=p21 }:zAc)),0))
def zDd (x0:zA2):Option Int:=
 some x0.n
def zEv (x0:zA8):Option zA8:=
 some x0
def zH6 (x0:zAg):Option zAg:=
 some x0
def zCm (x0:(List UInt64)):Option (List UInt64):=
 zLr [] x0
def zD6 (x0:zA3):Option zA3:=
 (zCm x0.Pos.Counts).bind fun p14=>
 (zCm x0.Neg.Counts).bind fun p17=>
 some ({ Scale:=x0.Scale,Zero:=x0.Zero,Pos:=({ Offset:=x0.Pos.Offset,Counts:=p14 }:zA9),Neg:=({ Offset:=x0.Neg.Offset,Counts:=p17 }:zA9) }:zA3)
def zGm (x0:zA4):Option zA4:=
 (zD6 x0.last).bind fun p12=>
 some ({ n:=x0.n,last:=p12 }:zA4)
def zG2 (x0:zAj):Option zAj:=
 (zEv x0.ords).bind fun p34=>
 (zEv x0.times).bind fun p37=>
 (zEv x0.spans).bind fun p40=>
 (zEv x0.ints).bind fun p43=>
 (zH6 x0.re).bind fun p46=>
 (zH6 x0.im).bind fun p49=>
 (zGm x0.hists).bind fun p52=>
 some ({ ords:=p34,times:=p37,spans:=p40,ints:=p43,re:=p46,im:=p49,hists:=p52 }:zAj)
def zLo (x0:Int):Option UInt64:=
 some (((zAe x0)<<<UInt64.ofNat 1)^^^(zAe (shrZ x0 63)))
def zG6  : Option zLt:=
 some ({ a0:=0,a1:=7,a2:=20,a3:=64 }:zLt)
def zDu (x0:UInt64) (p1:zLt) (j1:Unit→Option Int):Nat→Int→Option Int
 | 0,_=>none
 | n+1,y4=>
  if y4<4 then
  ((idx ([p1.a0,p1.a1,p1.a2,p1.a3]:List Int) y4).bind fun z7=>
   if ((shr64 x0 ((zAe z7).toNat)).toNat:Int)=0 then
   (some y4)
   else
   (zDu x0 p1 j1 n (W64 (y4+1))))
  else
  (j1 ())
def zH1 (x0:UInt64):Option Int:=
 (zG6).bind fun p1=>
 jn (fun (_:Unit)=>
  (some 3)) fun j1=>
 zDu x0 p1 j1 fuel 0
def zCr (x0:zA2):Option Int:=
 some (W64 ((W64 (8*(x0.b.length:Int)))-x0.n))
def zC9 (x1:UInt64) (j2:zA2→Option (Bool×zA2)):Nat→Int→zA2→Option (Bool×zA2)
 | 0,_,_=>none
 | n+1,y10,y11=>
  if y10>0 then
  ((zCr y11).bind fun p14=>
   jn (fun (y16:zA2)=>
    ((zCr y16).bind fun p18=>
     jn (fun (y21:UInt64)=>
      ((idx y16.b (W64 ((y16.b.length:Int)-1))).bind fun z26=>
       (idx y16.b (W64 ((y16.b.length:Int)-1))).bind fun z27=>
       zC9 x1 j2 n (W64 (y10-(min y10 p18))) ({ b:=(zGq y16.b (W64 ((y16.b.length:Int)-1)) (z26|||(zKv ((shl64 y21 ((zAe (W64 (p18-(min y10 p18)))).toNat)).toNat:Int)))),n:=W64 (y16.n+(min y10 p18)) }:zA2))) fun j4=>
     if min y10 p18<64 then
     (j4 ((shr64 x1 ((zAe (W64 (y10-(min y10 p18)))).toNat))&&&((shl64 (1:UInt64) ((zAe (min y10 p18)).toNat))-(1:UInt64))))
     else
     (j4 (shr64 x1 ((zAe (W64 (y10-(min y10 p18)))).toNat))))) fun j3=>
   if p14=0 then
   ((zLr y11.b [(0:UInt8)]).bind fun z38=>
    j3 ({ b:=z38,n:=y11.n }:zA2))
   else
   (j3 y11))
  else
  (j2 y11)
def zAf (x0:zA2) (x1:UInt64) (x2:Int):Option (Bool×zA2):=
 jn (fun (y5:Bool)=>
  (if y5=true then
   (some (false,x0))
   else
   (jn (fun (y8:zA2)=>
    (some (true,y8))) fun j2=>
    zC9 x1 j2 fuel x2 x0))) fun j1=>
 if (x2<0)∨(x2>64) then
 (j1 true)
 else
 (jn (fun (y46:Bool)=>
  (j1 y46)) fun j5=>
  if x2<64 then
  (j5 (decide (((shr64 x1 ((zAe x2).toNat)).toNat:Int)≠0)))
  else
  (j5 false))
def zGa (x0:zA2) (x1:UInt64):Option zA2:=
 (zH1 x1).bind fun p2=>
 (zAf x0 (zAe p2) 2).bind fun p4=>
 (zG6).bind fun p8=>
 (idx ([p8.a0,p8.a1,p8.a2,p8.a3]:List Int) p2).bind fun z10=>
 (zAf p4.2 x1 z10).bind fun p11=>
 some p11.2
def zDq (x0:zA2) (x1:Int):Option zA2:=
 (zLo x1).bind fun p2=>
 (zGa x0 p2).bind fun p4=>
 some p4
def zEw  : Option zLs:=
 some ({ a0:=0,a1:=6,a2:=10,a3:=16,a4:=64 }:zLs)
def zJ (x0:Int) (x1:Int):Option Bool:=
 if x1=0 then
 (some (decide (x0=0)))
 else
 (if x1=64 then
  (some true)
  else
  (jn (fun (y3:Bool)=>
   (some y3)) fun j1=>
   if x0≥shlZ (-1) ((zAe (W64 (x1-1))).toNat) then
   (j1 (decide (x0<shlZ 1 ((zAe (W64 (x1-1))).toNat))))
   else
   (j1 false)))
def zEx (x0:Int) (p1:zLs) (j1:Unit→Option Int):Nat→Int→Option Int
 | 0,_=>none
 | n+1,y4=>
  if y4<5 then
  ((idx ([p1.a0,p1.a1,p1.a2,p1.a3,p1.a4]:List Int) y4).bind fun z7=>
   (zJ x0 z7).bind fun p8=>
   if p8=true then
   (some y4)
   else
   (zEx x0 p1 j1 n (W64 (y4+1))))
  else
  (j1 ())
def zK (x0:Int):Option Int:=
 (zEw).bind fun p1=>
 jn (fun (_:Unit)=>
  (some 4)) fun j1=>
 zEx x0 p1 j1 fuel 0
def zDm (x0:zA8) (x1:UInt64):Option zA8:=
 jn (fun (y2:zA8)=>
  (some ({ n:=W64 (y2.n+1),last:=x1,step:=y2.step }:zA8))) fun j1=>
 if x0.n>0 then
 (j1 ({ n:=x0.n,last:=x0.last,step:=x1-x0.last }:zA8))
 else
 (j1 x0)
def zD2 (p20:Int) (j2:zA2→Option (zA2×zA8)):Nat→Int→zA2→Option (zA2×zA8)
 | 0,_,_=>none
 | n+1,y38,y39=>
  if y38<p20 then
  ((zAf y39 (1:UInt64) 1).bind fun p42=>
   zD2 p20 j2 n (W64 (y38+1)) p42.2)
  else
  (j2 y39)
def zEf (x0:zA8) (x1:zA2) (x2:Int):Option (zA2×zA8):=
 jn (fun (y3:zA2)=>
  ((zDm x0 (zAe x2)).bind fun p5=>
   some (y3,p5))) fun j1=>
 if x0.n=0 then
 ((zDq x1 x2).bind fun p10=>
  j1 p10)
 else
 (if x0.n=1 then
  ((zDq x1 (W64 (((zAe x2)-x0.last).toNat:Int))).bind fun p15=>
   j1 p15)
  else
  ((zK (W64 ((((zAe x2)-x0.last)-x0.step).toNat:Int))).bind fun p20=>
   jn (fun (y22:zA2)=>
    (jn (fun (y24:zA2)=>
     ((zEw).bind fun p26=>
      (idx ([p26.a0,p26.a1,p26.a2,p26.a3,p26.a4]:List Int) p20).bind fun z28=>
      (zAf y24 (shr64 (shl64 (zAe (W64 ((((zAe x2)-x0.last)-x0.step).toNat:Int))) ((zAe (W64 (64-z28))).toNat)) ((zAe (W64 (64-z28))).toNat)) z28).bind fun p29=>
      j1 p29.2)) fun j3=>
     if p20<4 then
     ((zAf y22 (0:UInt64) 1).bind fun p34=>
      j3 p34.2)
     else
     (j3 y22))) fun j2=>
   zD2 p20 j2 fuel 0 x1))
def zFo (x0:zA3):Option zE5:=
 some ({ scale:=x0.Scale,posAt:=x0.Pos.Offset,posSize:=(x0.Pos.Counts.length:Int),negAt:=x0.Neg.Offset,negSize:=(x0.Neg.Counts.length:Int) }:zE5)
def zCh (x0:zA3):Option (List UInt64):=
 (zLr ([x0.Zero]:List UInt64) x0.Pos.Counts).bind fun z13=>
 (zLr z13 x0.Neg.Counts).bind fun z15=>
 some z15
def zBb (p43:(List UInt64)) (p46:(List UInt64)) (j3:zA2→Option (Int×zA4×zA2)):Nat→Int→zA2→Option (Int×zA4×zA2)
 | 0,_,_=>none
 | n+1,y55,y56=>
  if y55<(p46.length:Int) then
  ((idx p46 y55).bind fun z59=>
   (idx p43 y55).bind fun z60=>
   (zDq y56 (W64 ((z59-z60).toNat:Int))).bind fun p61=>
   zBb p43 p46 j3 n (W64 (y55+1)) p61)
  else
  (j3 y56)
def zBa (p79:(List UInt64)) (j5:zA2→Option (Int×zA4×zA2)):Nat→Int→zA2→Option (Int×zA4×zA2)
 | 0,_,_=>none
 | n+1,y86,y87=>
  if y86<(p79.length:Int) then
  ((idx p79 y86).bind fun z90=>
   (zGa y87 z90).bind fun p91=>
   zBa p79 j5 n (W64 (y86+1)) p91)
  else
  (j5 y87)
def zBp (x2:zA3) (j4:zA2→Option (Int×zA4×zA2)):Nat→Int→zA2→Option (Int×zA4×zA2)
 | 0,_,_=>none
 | n+1,y96,y97=>
  if y96<(([x2.Pos,x2.Neg]:List zA9).length:Int) then
  (jn (fun (y101:zA2)=>
   (zBp x2 j4 n (W64 (y96+1)) y101)) fun j6=>
   (idx ([x2.Pos,x2.Neg]:List zA9) y96).bind fun z103=>
   (zAf y97 (zAe (z103.Counts.length:Int)) 8).bind fun p110=>
   if (z103.Counts.length:Int)>0 then
   ((zDq p110.2 z103.Offset).bind fun p115=>
    j6 p115)
   else
   (j6 p110.2))
  else
  (j4 y97)
def zE1 (x0:zA4) (x1:zA2) (x2:zA3):Option (Int×zA4×zA2):=
 (zFi x2).bind fun p12=>
 if p12≠0 then
 (some (p12,x0,x1))
 else
 (jn (fun (y17:Bool)=>
  (jn (fun (y20:zA2)=>
   ((zD6 x2).bind fun p27=>
    some (0,({ n:=W64 (x0.n+1),last:=p27 }:zA4),y20))) fun j2=>
   if y17=true then
   ((zAf x1 (1:UInt64) 1).bind fun p36=>
    (zCh x0.last).bind fun p43=>
    (zCh x2).bind fun p46=>
    jn (fun (y52:zA2)=>
     (j2 y52)) fun j3=>
    zBb p43 p46 j3 fuel 0 p36.2)
   else
   ((zAf x1 (0:UInt64) 1).bind fun p65=>
    (zAf p65.2 (zAe (W64 (x2.Scale-(-10)))) 5).bind fun p69=>
    jn (fun (y77:zA2)=>
     ((zCh x2).bind fun p79=>
      jn (fun (y83:zA2)=>
       (j2 y83)) fun j5=>
      zBa p79 j5 fuel 0 y77)) fun j4=>
    zBp x2 j4 fuel 0 p69.2))) fun j1=>
  if x0.n>0 then
  ((zFo x2).bind fun p124=>
   (zFo x0.last).bind fun p126=>
   j1 (decide (p124=p126)))
  else
  (j1 false))
def zFb (x0:UInt64):Option Int:=
 jn (fun (y1:UInt64) (y2:Int)=>
  (jn (fun (y4:UInt64) (y5:Int)=>
   (jn (fun (y7:UInt64) (y8:Int)=>
    ((idx ([0,1,2,2,3,3,3,3,4,4,4,4,4,4,4,4,5,5,5,5,5,5,5,5,5,5,5,5,5,5,5,5,6,6,6,6,6,6,6,6,6,6,6,6,6,6,6,6,6,6,6,6,6,6,6,6,6,6,6,6,6,6,6,6,7,7,7,7,7,7,7,7,7,7,7,7,7,7,7,7,7,7,7,7,7,7,7,7,7,7,7,7,7,7,7,7,7,7,7,7,7,7,7,7,7,7,7,7,7,7,7,7,7,7,7,7,7,7,7,7,7,7,7,7,7,7,7,7,8,8,8,8,8,8,8,8,8,8,8,8,8,8,8,8,8,8,8,8,8,8,8,8,8,8,8,8,8,8,8,8,8,8,8,8,8,8,8,8,8,8,8,8,8,8,8,8,8,8,8,8,8,8,8,8,8,8,8,8,8,8,8,8,8,8,8,8,8,8,8,8,8,8,8,8,8,8,8,8,8,8,8,8,8,8,8,8,8,8,8,8,8,8,8,8,8,8,8,8,8,8,8,8,8,8,8,8,8,8,8,8,8,8,8,8,8,8,8,8,8,8,8,8,8,8,8,8]:List UInt8) ((zKv ((y7).toNat:Int)).toNat:Int)).bind fun z10=>
     some (W64 (y8+(z10.toNat:Int))))) fun j3=>
    if ((y4).toNat:Int)≥256 then
    (j3 (y4>>>UInt64.ofNat 8) (W64 (y5+8)))
    else
    (j3 y4 y5))) fun j2=>
   if ((y1).toNat:Int)≥65536 then
   (j2 (y1>>>UInt64.ofNat 16) (W64 (y2+16)))
   else
   (j2 y1 y2))) fun j1=>
 if ((x0).toNat:Int)≥4294967296 then
 (j1 (x0>>>UInt64.ofNat 32) 32)
 else
 (j1 x0 0)
def zCu (x0:UInt64):Option Int:=
 (zFb x0).bind fun p1=>
 some (W64 (64-p1))
def zCq (x0:UInt64):Option Int:=
 if ((x0).toNat:Int)=0 then
 (some 64)
 else
 ((idx gt3 ((((x0&&&(0-x0))*(285870213051353865:UInt64))>>>UInt64.ofNat 58).toNat:Int)).bind fun z4=>
  some (z4.toNat:Int))
def zB5 (x0:zAt):Option Int:=
 some (W64 ((W64 (64-x0.ahead))-x0.size))
def zDz (x0:zAt) (x1:UInt64):Option Bool:=
 if ¬(x0=({ ahead:=0,size:=0 }:zAt)) then
 ((zCu x1).bind fun p10=>
  if p10≥x0.ahead then
  ((zCq x1).bind fun p13=>
   (zB5 x0).bind fun p15=>
   some (decide (p13≥p15)))
  else
  (some false))
 else
 (some false)
def zH0 (x0:UInt64):Option zAt:=
 (zCu x0).bind fun p6=>
 (zCq x0).bind fun p8=>
 some ({ ahead:=min p6 31,size:=W64 ((W64 (64-(min p6 31)))-p8) }:zAt)
def zDp (x0:zAg) (x1:zA2) (x2:UInt64):Option (zA2×zAg):=
 jn (fun (y5:zA2) (y6:zAg)=>
  (some (y5,({ n:=W64 (y6.n+1),last:=x2,win:=y6.win }:zAg)))) fun j1=>
 if x0.n=0 then
 ((zAf x1 x2 64).bind fun p13=>
  j1 p13.2 x0)
 else
 (if ((x2^^^x0.last).toNat:Int)=0 then
  ((zAf x1 (0:UInt64) 1).bind fun p18=>
   j1 p18.2 x0)
  else
  ((zDz x0.win (x2^^^x0.last)).bind fun p22=>
   if p22=true then
   ((zAf x1 (2:UInt64) 2).bind fun p25=>
    (zB5 x0.win).bind fun p30=>
    (zAf p25.2 (shr64 (x2^^^x0.last) ((zAe p30).toNat)) x0.win.size).bind fun p32=>
    j1 p32.2 x0)
   else
   ((zH0 (x2^^^x0.last)).bind fun p36=>
    (zAf x1 (3:UInt64) 2).bind fun p40=>
    (zAf p40.2 (zAe p36.ahead) 5).bind fun p44=>
    (zAf p44.2 (zAe (W64 (p36.size-1))) 6).bind fun p48=>
    (zB5 p36).bind fun p57=>
    (zAf p48.2 (shr64 (x2^^^x0.last) ((zAe p57).toNat)) p36.size).bind fun p59=>
    j1 p59.2 ({ n:=x0.n,last:=x0.last,win:=p36 }:zAg))))
def zGx (x0:zAj) (x1:zA2) (x2:Int) (x3:zA6):Option (zA8×zA8×zA8×zA8×zAg×zAg×zA4×zA2):=
 (zEf x0.ords x1 x2).bind fun p25=>
 (zEf x0.times p25.1 x3.Time).bind fun p31=>
 jn (fun (y41:zA8) (y42:zA2)=>
  ((zGa y42 (zAe x3.Flags)).bind fun p44=>
   if x3.Kind=1 then
   ((zEf x0.ints p44 x3.Int_).bind fun p49=>
    some (p25.2,p31.2,y41,p49.2,x0.re,x0.im,x0.hists,p49.1))
   else
   (if x3.Kind=4 then
    ((zE1 x0.hists p44 x3.Hist).bind fun p62=>
     some (p25.2,p31.2,y41,x0.ints,x0.re,x0.im,p62.2.1,p62.2.2))
    else
    (if x3.Kind=5 then
     ((zDp x0.re p44 x3.Re).bind fun p74=>
      (zDp x0.im p74.1 x3.Im).bind fun p84=>
      some (p25.2,p31.2,y41,x0.ints,p74.2,p84.2,x0.hists,p84.1))
     else
     ((zDp x0.re p44 x3.Re).bind fun p102=>
      some (p25.2,p31.2,y41,x0.ints,p102.2,x0.im,x0.hists,p102.1)))))) fun j1=>
 if x3.Kind≠3 then
 ((zEf x0.spans p31.1 (W64 (x3.Time-x3.Start))).bind fun p119=>
  j1 p119.2 p119.1)
 else
 (j1 x0.spans p31.1)
def zIi  : Option zAd:=
 some ({ b:=([]:List UInt8) }:zAd)
def zH9 (x0:UInt64):Option Int:=
 (zFb x0).bind fun p1=>
 if p1>56 then
 (some 8)
 else
 ((quoZ (max (W64 (p1-1)) 0) 7).bind fun z4=>
  some z4)
def zCi (x1:UInt64) (j2:zAd→Option zAd):Nat→Int→zAd→Option zAd
 | 0,_,_=>none
 | n+1,y17,y18=>
  if y17>0 then
  ((zLr y18.b [zKv ((shr64 x1 ((zAe (W64 ((W64 (8*y17))-8))).toNat)).toNat:Int)]).bind fun z23=>
   zCi x1 j2 n (W64 (y17-1)) ({ b:=z23 }:zAd))
  else
  (j2 y18)
def zEi (x0:zAd) (x1:UInt64):Option zAd:=
 (zH9 x1).bind fun p2=>
 jn (fun (y5:UInt8)=>
  ((zLr x0.b [y5]).bind fun z9=>
   jn (fun (y15:zAd)=>
    (some y15)) fun j2=>
   zCi x1 j2 fuel p2 ({ b:=z9 }:zAd))) fun j1=>
 if p2<8 then
 (j1 ((shl8 (255:UInt8) ((zAe (W64 (8-p2))).toNat))|||(zKv ((shr64 x1 ((zAe (W64 (8*p2))).toNat)).toNat:Int))))
 else
 (j1 (shl8 (255:UInt8) ((zAe (W64 (8-p2))).toNat)))
def zFy (x0:zAd) (x1:(List UInt8)):Option zAd:=
 (zEi x0 (zAe (x1.length:Int))).bind fun p2=>
 (zLr p2.b x1).bind fun z8=>
 some ({ b:=z8 }:zAd)
def zF (x0:zAc):Option zAd:=
 (zIi).bind fun p3=>
 (zFy p3 x0.key).bind fun p16=>
 (zEi p16 (zAe x0.n)).bind fun p20=>
 (zDd x0.w).bind fun p24=>
 (zEi p20 (zAe p24)).bind fun p26=>
 some p26
def zHr (x0:zAd):Option Int:=
 some (x0.b.length:Int)
def zG3 (x0:zAc):Option Int:=
 (zF x0).bind fun p14=>
 (zHr p14).bind fun p17=>
 (zDd x0.w).bind fun p19=>
 (quoZ (W64 (p19+7)) 8).bind fun z21=>
 some (W64 (p17+z21))
def zG4 (x0:zA2) (x1:Int):Option (Bool×zA2):=
 jn (fun (y5:Bool)=>
  (if y5=true then
   (some (false,x0))
   else
   ((quoZ (W64 (x1+7)) 8).bind fun z10=>
    (zM2 x0.b 0 z10).bind fun z11=>
    (remZ x1 8).bind fun z16=>
    jn (fun (y19:zA2)=>
     (some (true,({ b:=y19.b,n:=x1 }:zA2)))) fun j2=>
    if z16>0 then
    ((idx z11 (W64 ((z11.length:Int)-1))).bind fun z31=>
     (idx z11 (W64 ((z11.length:Int)-1))).bind fun z32=>
     j2 ({ b:=(zGq z11 (W64 ((z11.length:Int)-1)) (z31&&&(shl8 (255:UInt8) ((zAe (W64 (8-z16))).toNat)))),n:=x0.n }:zA2))
    else
    (j2 ({ b:=z11,n:=x0.n }:zA2))))) fun j1=>
 if x1<0 then
 (j1 true)
 else
 (j1 (decide (x1>x0.n)))
def zDn (x0:zAc) (x1:Int) (x2:zA6):Option (Int×zAc):=
 (zJ0 x2).bind fun p15=>
 if p15.2≠0 then
 (some (p15.2,x0))
 else
 (if p15.1≠x0.key then
  (some (14,x0))
  else
  (if (x1<0)∨(x1>4503599627370496) then
   (some (1,x0))
   else
   (if x1≤x0.last then
    (some (9,x0))
    else
    (if x0.n=128 then
     (some (6,x0))
     else
     (jn (fun (y44:Int) (y45:zAj)=>
      ((zGx y45 x0.w x1 x2).bind fun p66=>
       (zG3 ({ key:=x0.key,most:=x0.most,n:=W64 (x0.n+1),last:=x0.last,w:=p66.2.2.2.2.2.2.2,rows:=x0.rows }:zAc)).bind fun p86=>
       if p86>x0.most then
       ((zG4 p66.2.2.2.2.2.2.2 y44).bind fun p102=>
        some (6,({ key:=x0.key,most:=x0.most,n:=W64 ((W64 (x0.n+1))-1),last:=x0.last,w:=p102.2,rows:=x0.rows }:zAc)))
       else
       (some (0,({ key:=x0.key,most:=x0.most,n:=W64 (x0.n+1),last:=x1,w:=p66.2.2.2.2.2.2.2,rows:=({ ords:=p66.1,times:=p66.2.1,spans:=p66.2.2.1,ints:=p66.2.2.2.1,re:=p66.2.2.2.2.1,im:=p66.2.2.2.2.2.1,hists:=p66.2.2.2.2.2.2.1 }:zAj) }:zAc))))) fun j1=>
      (zDd x0.w).bind fun p133=>
      (zG2 x0.rows).bind fun p135=>
      j1 p133 p135)))))
def zDs (x0:(List UInt8)):Option (List UInt8):=
 zLr [] x0
def zF6 (x0:zA2):Option (List UInt8):=
 (zDs x0.b).bind fun p8=>
 some p8
def zHq (x0:zAd) (x1:(List UInt8)):Option zAd:=
 (zLr x0.b x1).bind fun z5=>
 some ({ b:=z5 }:zAd)
def zGy (x0:zAd):Option (List UInt8):=
 (zDs x0.b).bind fun p8=>
 some p8
def zEl (x0:zAc):Option (List UInt8):=
 (zF x0).bind fun p3=>
 (zF6 x0.w).bind fun p16=>
 (zHq p3 p16).bind fun p19=>
 (zGy p19).bind fun p27=>
 some p27
def zG7 (x0:(List zAm)) (j1:(Option zAc)→Option ((List UInt8)×Int)):Nat→Int→(Option zAc)→Option ((List UInt8)×Int)
 | 0,_,_=>none
 | n+1,y32,y33=>
  if y32<(x0.length:Int) then
  ((idx x0 y32).bind fun z36=>
   (y33).bind fun z49=>
   (zDn z49 z36.Ord z36.Point).bind fun p48=>
   if p48.1≠0 then
   (some (([]:List UInt8),p48.1))
   else
   (zG7 x0 j1 n (W64 (y32+1)) (some p48.2)))
  else
  (j1 y33)
def zNr (x0:(List zAm)):Option ((List UInt8)×Int):=
 if (x0.length:Int)=0 then
 (some (([]:List UInt8),7))
 else
 ((idx x0 0).bind fun z10=>
  (zJc z10.Point 4611686018427387904).bind fun p19=>
  if p19.2≠0 then
  (some (([]:List UInt8),p19.2))
  else
  (jn (fun (y25:(Option zAc))=>
   ((y25).bind fun z28=>
    (zEl z28).bind fun p27=>
    some (p27,0))) fun j1=>
   zG7 x0 j1 fuel 0 p19.1))
def zGv (x0:(List UInt8)):Option zAa:=
 (zDs x0).bind fun p3=>
 some ({ b:=p3,at_:=0,e:=0 }:zAa)
def zDa (x0:zAa):Option Int:=
 some (W64 ((x0.b.length:Int)-x0.at_))
def zKr (x0:UInt8):Option Int:=
 (idx ([0,1,2,2,3,3,3,3,4,4,4,4,4,4,4,4,5,5,5,5,5,5,5,5,5,5,5,5,5,5,5,5,6,6,6,6,6,6,6,6,6,6,6,6,6,6,6,6,6,6,6,6,6,6,6,6,6,6,6,6,6,6,6,6,7,7,7,7,7,7,7,7,7,7,7,7,7,7,7,7,7,7,7,7,7,7,7,7,7,7,7,7,7,7,7,7,7,7,7,7,7,7,7,7,7,7,7,7,7,7,7,7,7,7,7,7,7,7,7,7,7,7,7,7,7,7,7,7,8,8,8,8,8,8,8,8,8,8,8,8,8,8,8,8,8,8,8,8,8,8,8,8,8,8,8,8,8,8,8,8,8,8,8,8,8,8,8,8,8,8,8,8,8,8,8,8,8,8,8,8,8,8,8,8,8,8,8,8,8,8,8,8,8,8,8,8,8,8,8,8,8,8,8,8,8,8,8,8,8,8,8,8,8,8,8,8,8,8,8,8,8,8,8,8,8,8,8,8,8,8,8,8,8,8,8,8,8,8,8,8,8,8,8,8,8,8,8,8,8,8,8,8,8,8,8,8]:List UInt8) ((x0).toNat:Int)).bind fun z1=>
 some (z1.toNat:Int)
def zCy (x0:UInt8):Option Int:=
 (zKr x0).bind fun p1=>
 some (W64 (8-p1))
def zE (x0:zAa) (x1:Int):Option zAa:=
 if x0.e=0 then
 (some ({ b:=x0.b,at_:=x0.at_,e:=x1 }:zAa))
 else
 (some x0)
def zCj (z43:(List UInt8)) (j3:UInt64→Option (UInt64×zAa)):Nat→UInt64→Int→Option (UInt64×zAa)
 | 0,_,_=>none
 | n+1,y68,y69=>
  if y69<(z43.length:Int) then
  ((idx z43 y69).bind fun z72=>
   zCj z43 j3 n ((y68<<<UInt64.ofNat 8)|||(zAe ((z72).toNat:Int))) (W64 (y69+1)))
  else
  (j3 y68)
def zGd (x0:zAa):Option (UInt64×zAa):=
 jn (fun (_:Unit)=>
  ((zE x0 2).bind fun p4=>
   some ((0:UInt64),p4))) fun j1=>
 if x0.e≠0 then
 (some ((0:UInt64),x0))
 else
 ((zDa x0).bind fun p15=>
  if p15=0 then
  (j1 ())
  else
  ((idx x0.b x0.at_).bind fun z25=>
   (zCy (~~~ z25)).bind fun p28=>
   (zDa x0).bind fun p30=>
   if p28≥p30 then
   (j1 ())
   else
   (jn (fun (y38:UInt64)=>
    ((zM2 x0.b (W64 (x0.at_+1)) (W64 ((W64 (x0.at_+1))+p28))).bind fun z43=>
     jn (fun (y50:UInt64)=>
      ((zH9 y50).bind fun p52=>
       if p52≠p28 then
       ((zE x0 3).bind fun p55=>
        some ((0:UInt64),p55))
       else
       (some (y50,({ b:=x0.b,at_:=W64 (x0.at_+(W64 (1+p28))),e:=x0.e }:zAa))))) fun j3=>
     zCj z43 j3 fuel y38 0)) fun j2=>
    if p28<8 then
    ((idx x0.b x0.at_).bind fun z78=>
     j2 (zAe ((z78&&&(shr8 (127:UInt8) ((zAe p28).toNat))).toNat:Int)))
    else
    (j2 (0:UInt64)))))
def zCp (x0:zAa) (x1:Int):Option (Int×zAa):=
 (zGd x0).bind fun p4=>
 if (p4.2.e=0)∧((x1<0)∨(((p4.1).toNat:Int)>((zAe x1).toNat:Int))) then
 ((zE ({ b:=p4.2.b,at_:=x0.at_,e:=p4.2.e }:zAa) 4).bind fun p21=>
  some (0,p21))
 else
 (some (W64 ((p4.1).toNat:Int),p4.2))
def zF9 (x0:zAa) (x1:Int):Option ((List UInt8)×zAa):=
 if x0.e≠0 then
 (some (([]:List UInt8),x0))
 else
 (if x1<0 then
  ((zE x0 1).bind fun p12=>
   some (([]:List UInt8),p12))
  else
  ((zDa x0).bind fun p22=>
   if x1>p22 then
   ((zE x0 2).bind fun p29=>
    some (([]:List UInt8),p29))
   else
   ((zM2 x0.b (W64 ((W64 (x0.at_+x1))-x1)) (W64 (x0.at_+x1))).bind fun z40=>
    (zDs z40).bind fun p42=>
    some (p42,({ b:=x0.b,at_:=W64 (x0.at_+x1),e:=x0.e }:zAa)))))
def zEy (x0:zAa) (x1:Int):Option ((List UInt8)×zAa):=
 (zCp x0 x1).bind fun p4=>
 (zF9 p4.2 p4.1).bind fun p12=>
 jn (fun (y23:zAa)=>
  (some (p12.1,y23))) fun j1=>
 if p12.2.e≠0 then
 (j1 ({ b:=p12.2.b,at_:=x0.at_,e:=p12.2.e }:zAa))
 else
 (j1 p12.2)
def zFz (x0:zAa):Option Int:=
 jn (fun (y8:Bool)=>
  (if y8=true then
   (some 3)
   else
   (some x0.e))) fun j1=>
 if x0.e=0 then
 ((zDa x0).bind fun p12=>
  j1 (decide (p12>0)))
 else
 (j1 false)
def zDf (x0:(List UInt8)) (x1:UInt8):Option Int:=
 some (Lib.indexByte x0 x1)
def zD8 (x0:(List UInt8)) (x1:(List UInt8)):Option Int:=
 if ((x1.length:Int)=0)∨(x1=x0) then
 (some 0)
 else
 (if (x1.length:Int)=1 then
  ((idx x1 0).bind fun z5=>
   (zDf x0 z5).bind fun p6=>
   some p6)
  else
  (if (x1.length:Int)≥(x0.length:Int) then
   (some (-1))
   else
   (none)))
def zEu (x0:(List UInt8)) (x1:(List UInt8)):Option ((List UInt8)×(List UInt8)×Bool):=
 (zD8 x0 x1).bind fun p1=>
 if p1≥0 then
 ((zM2 x0 0 p1).bind fun z5=>
  (zM2 x0 (W64 (p1+(x1.length:Int))) ((x0).length)).bind fun z6=>
  some (z5,z6,true))
 else
 (some (x0,([]:List UInt8),false))
def zFk (x0:(List UInt8)) (x1:(List UInt8)):Option ((List UInt8)×(List UInt8)×Bool):=
 (zEu x0 x1).bind fun p1=>
 some (p1.1,p1.2.1,p1.2.2)
def zJq (x0:(List UInt8)):Option (zA×Int):=
 (zFk x0 ([61]:List UInt8)).bind fun p4=>
 jn (fun (y6:Bool)=>
  (jn (fun (y8:Bool)=>
   (if y8=true then
    (some (({ Key:=([]:List UInt8),Val:=([]:List UInt8) }:zA),3))
    else
    (some (({ Key:=p4.1,Val:=p4.2.1 }:zA),0)))) fun j2=>
   if y6=true then
   (j2 true)
   else
   ((zFc p4.2.1).bind fun p16=>
    j2 (!p16)))) fun j1=>
 if (!p4.2.2)=true then
 (j1 true)
 else
 ((zEh p4.1).bind fun p19=>
  j1 (!p19))
def zBw (x0:(List zA)) (x1:(List UInt8)) (j1:Unit→Option Int):Nat→Int→Option Int
 | 0,_=>none
 | n+1,y7=>
  if y7<(x0.length:Int) then
  ((idx x0 y7).bind fun z10=>
   if z10.Key=x1 then
   (some 8)
   else
   (zBw x0 x1 j1 n (W64 (y7+1))))
  else
  (j1 ())
def zHa (x0:(List zA)) (x1:(List UInt8)):Option Int:=
 jn (fun (_:Unit)=>
  ((idx x0 (W64 ((x0.length:Int)-1))).bind fun z4=>
   if (Op.bytesLess x1 z4.Key)=true then
   (some 9)
   else
   (some 0))) fun j1=>
 zBw x0 x1 j1 fuel 0
def zD0 (j1:(List zA)→Option ((List UInt8)×(List zA)×Int×Int)):Nat→(List zA)→Int→(List UInt8)→Bool→Option ((List UInt8)×(List zA)×Int×Int)
 | 0,_,_,_,_=>none
 | n+1,y12,y15,y16,y17=>
  if y17=true then
  ((zFk y16 ([59]:List UInt8)).bind fun p22=>
   (zJq p22.1).bind fun p24=>
   jn (fun (y29:Int)=>
    (jn (fun (y33:Int)=>
     (if y33≠0 then
      (some (([]:List UInt8),([]:List zA),y15,y33))
      else
      ((zLr y12 [p24.1]).bind fun z38=>
       zD0 j1 n z38 (W64 (y15+(W64 ((p22.1.length:Int)+1)))) p22.2.1 p22.2.2))) fun j3=>
     if (y29=0)∧((y12.length:Int)>0) then
     ((zHa y12 p24.1.Key).bind fun p41=>
      j3 p41)
     else
     (j3 y29))) fun j2=>
   if (y12.length:Int)=4 then
   (j2 4)
   else
   (j2 p24.2))
  else
  (j1 y12)
def zIq (x0:(List UInt8)):Option ((List UInt8)×(List zA)×Int×Int):=
 (zFk x0 ([59]:List UInt8)).bind fun p1=>
 (zEh p1.1).bind fun p3=>
 if (!p3)=true then
 (some (([]:List UInt8),([]:List zA),0,3))
 else
 (jn (fun (y8:(List zA))=>
  (some (p1.1,y8,0,0))) fun j1=>
  zD0 j1 fuel ([]:List zA) (W64 ((p1.1.length:Int)+1)) p1.2.1 p1.2.2)
def zI4 (x0:(List UInt8)):Option (zA6×Int):=
 (zFk x0 ([32]:List UInt8)).bind fun p4=>
 (zIq p4.1).bind fun p6=>
 jn (fun (y13:Bool)=>
  (if y13=true then
   (some (({ Name:=([]:List UInt8),Attrs:=([]:List zA),Kind:=0,Temp:=0,Mono:=false,Start:=0,Time:=0,Int_:=0,Re:=(0:UInt64),Im:=(0:UInt64),Hist:=({ Scale:=0,Zero:=(0:UInt64),Pos:=({ Offset:=0,Counts:=([]:List UInt64) }:zA9),Neg:=({ Offset:=0,Counts:=([]:List UInt64) }:zA9) }:zA3),Flags:=0 }:zA6),3))
   else
   ((idx p4.2.1 0).bind fun z31=>
    (idx p4.2.1 1).bind fun z32=>
    (idx p4.2.1 2).bind fun z33=>
    jn (fun (y46:zA6)=>
     ((zDr y46).bind fun p54=>
      if p54≠0 then
      (some (({ Name:=([]:List UInt8),Attrs:=([]:List zA),Kind:=0,Temp:=0,Mono:=false,Start:=0,Time:=0,Int_:=0,Re:=(0:UInt64),Im:=(0:UInt64),Hist:=({ Scale:=0,Zero:=(0:UInt64),Pos:=({ Offset:=0,Counts:=([]:List UInt64) }:zA9),Neg:=({ Offset:=0,Counts:=([]:List UInt64) }:zA9) }:zA3),Flags:=0 }:zA6),3))
      else
      (some (({ Name:=p6.1,Attrs:=p6.2.1,Kind:=W64 ((z31.toNat:Int)-48),Temp:=W64 ((z32.toNat:Int)-48),Mono:=decide (((z33).toNat:Int)=49),Start:=0,Time:=0,Int_:=0,Re:=(0:UInt64),Im:=(0:UInt64),Hist:=({ Scale:=0,Zero:=(0:UInt64),Pos:=({ Offset:=0,Counts:=([]:List UInt64) }:zA9),Neg:=({ Offset:=0,Counts:=([]:List UInt64) }:zA9) }:zA3),Flags:=0 }:zA6),0)))) fun j2=>
    if W64 ((z31.toNat:Int)-48)=3 then
    (j2 ({ Name:=p6.1,Attrs:=p6.2.1,Kind:=W64 ((z31.toNat:Int)-48),Temp:=W64 ((z32.toNat:Int)-48),Mono:=decide (((z33).toNat:Int)=49),Start:=1,Time:=1,Int_:=0,Re:=(0:UInt64),Im:=(0:UInt64),Hist:=({ Scale:=0,Zero:=(0:UInt64),Pos:=({ Offset:=0,Counts:=([]:List UInt64) }:zA9),Neg:=({ Offset:=0,Counts:=([]:List UInt64) }:zA9) }:zA3),Flags:=0 }:zA6))
    else
    (j2 ({ Name:=p6.1,Attrs:=p6.2.1,Kind:=W64 ((z31.toNat:Int)-48),Temp:=W64 ((z32.toNat:Int)-48),Mono:=decide (((z33).toNat:Int)=49),Start:=0,Time:=1,Int_:=0,Re:=(0:UInt64),Im:=(0:UInt64),Hist:=({ Scale:=0,Zero:=(0:UInt64),Pos:=({ Offset:=0,Counts:=([]:List UInt64) }:zA9),Neg:=({ Offset:=0,Counts:=([]:List UInt64) }:zA9) }:zA3),Flags:=0 }:zA6))))) fun j1=>
 if (((!p4.2.2)=true)∨(p6.2.2.2≠0))∨((p4.2.1.length:Int)≠3) then
 (j1 true)
 else
 ((idx p4.2.1 2).bind fun z97=>
  jn (fun (y98:Bool)=>
   (j1 y98)) fun j3=>
  if ((z97).toNat:Int)≠48 then
  ((idx p4.2.1 2).bind fun z101=>
   j3 (decide (((z101).toNat:Int)≠49)))
  else
  (j3 false))
def zGh (x0:(List UInt8)) (x1:Int):Option ((Option zA0)×Int):=
 if x1<0 then
 (some ((none:Option zA0),1))
 else
 ((quoZ x1 8).bind fun z6=>
  jn (fun (y7:Bool)=>
   (if y7=true then
    (some ((none:Option zA0),2))
    else
    ((quoZ (W64 (x1+7)) 8).bind fun z12=>
     if (x0.length:Int)>z12 then
     (some ((none:Option zA0),3))
     else
     ((remZ x1 8).bind fun z16=>
      jn (fun (y17:Bool)=>
       (if y17=true then
        (some ((none:Option zA0),3))
        else
        ((zDs x0).bind fun p22=>
         some ((some ({ b:=p22,n:=x1,at_:=0 }:zA0)),0)))) fun j2=>
      if z16>0 then
      ((quoZ x1 8).bind fun z36=>
       (idx x0 z36).bind fun z37=>
       (remZ x1 8).bind fun z39=>
       j2 (decide (((shl8 z37 ((zAe z39).toNat)).toNat:Int)≠0)))
      else
      (j2 false))))) fun j1=>
  if (x0.length:Int)<z6 then
  (j1 true)
  else
  ((quoZ x1 8).bind fun z41=>
   jn (fun (y42:Bool)=>
    (j1 y42)) fun j3=>
   if (x0.length:Int)=z41 then
   ((remZ x1 8).bind fun z45=>
    j3 (decide (z45>0)))
   else
   (j3 false)))
def zH8 (x0:zA6):Option zA6:=
 (zBz x0.Attrs).bind fun p16=>
 (zD6 x0.Hist).bind fun p21=>
 some ({ Name:=x0.Name,Attrs:=p16,Kind:=x0.Kind,Temp:=x0.Temp,Mono:=x0.Mono,Start:=x0.Start,Time:=x0.Time,Int_:=x0.Int_,Re:=x0.Re,Im:=x0.Im,Hist:=p21,Flags:=x0.Flags }:zA6)
def zBy (x0:zA0):Option Int:=
 some (W64 (x0.n-x0.at_))
def zCk (x0:zA0) (j2:UInt64→Option (UInt64×Bool)):Nat→Int→UInt64→Int→Option (UInt64×Bool)
 | 0,_,_,_=>none
 | n+1,y15,y16,y17=>
  if y15>0 then
  ((remZ y17 8).bind fun z20=>
   (quoZ y17 8).bind fun z21=>
   (idx x0.b z21).bind fun z22=>
   zCk x0 j2 n (W64 (y15-(min y15 (W64 (8-z20))))) ((shl64 y16 ((zAe (min y15 (W64 (8-z20)))).toNat))|||(zAe (((shr8 z22 ((zAe (W64 ((W64 (8-z20))-(min y15 (W64 (8-z20)))))).toNat))&&&((shl8 (1:UInt8) ((zAe (min y15 (W64 (8-z20)))).toNat))-(1:UInt8))).toNat:Int))) (W64 (y17+(min y15 (W64 (8-z20))))))
  else
  (j2 y16)
def zCa (x0:zA0) (x1:Int):Option (UInt64×Bool):=
 jn (fun (y5:Bool)=>
  (if y5=true then
   (some ((0:UInt64),false))
   else
   (jn (fun (y13:UInt64)=>
    (some (y13,true))) fun j2=>
    zCk x0 j2 fuel x1 (0:UInt64) x0.at_))) fun j1=>
 if (x1<0)∨(x1>64) then
 (j1 true)
 else
 ((zBy x0).bind fun p25=>
  j1 (decide (x1>p25)))
def zBx (x0:zA0) (x1:Int):Option (Bool×zA0):=
 jn (fun (y3:Bool)=>
  (if y3=true then
   (some (false,x0))
   else
   (some (true,({ b:=x0.b,n:=x0.n,at_:=W64 (x0.at_+x1) }:zA0))))) fun j1=>
 if x1<0 then
 (j1 true)
 else
 ((zBy x0).bind fun p15=>
  j1 (decide (x1>p15)))
def zKe (x0:zA0) (x1:Int):Option UInt64:=
 (zCa x0 64).bind fun p3=>
 (zBx x0 64).bind fun p13=>
 (zCa p13.2 x1).bind fun p21=>
 some ((shl64 p3.1 ((zAe x1).toNat))|||p21.1)
def zIv (x0:zA0):Option (UInt64×Int×zA0):=
 (zCa x0 2).bind fun p2=>
 if (!p2.2)=true then
 (some ((0:UInt64),2,x0))
 else
 ((zG6).bind fun p5=>
  (idx ([p5.a0,p5.a1,p5.a2,p5.a3]:List Int) ((p2.1).toNat:Int)).bind fun z7=>
  (zBy x0).bind fun p8=>
  if W64 (2+z7)>p8 then
  (some ((0:UInt64),2,x0))
  else
  ((zCa x0 (min (W64 (2+z7)) 64)).bind fun p11=>
   jn (fun (y14:UInt64)=>
    ((zH1 y14).bind fun p16=>
     if p16≠W64 ((p2.1).toNat:Int) then
     (some ((0:UInt64),3,x0))
     else
     ((zBx x0 (W64 (2+z7))).bind fun p19=>
      some (y14,0,p19.2)))) fun j1=>
   if z7<64 then
   (j1 (p11.1&&&((shl64 (1:UInt64) ((zAe z7).toNat))-(1:UInt64))))
   else
   ((zKe x0 2).bind fun p24=>
    j1 p24)))
def zK1 (x0:UInt64):Option Int:=
 some (xorZ (W64 ((x0>>>UInt64.ofNat 1).toNat:Int)) (IntKind.i64.wrap (0-(W64 ((x0&&&(1:UInt64)).toNat:Int)))))
def zH7 (x0:zA0):Option (Int×Int×zA0):=
 (zIv x0).bind fun p2=>
 (zK1 p2.1).bind fun p6=>
 some (p6,p2.2.1,p2.2.2)
def zCs (x0:zA0) (x1:Int):Option (UInt64×Bool×zA0):=
 (zCa x0 x1).bind fun p2=>
 jn (fun (y4:zA0)=>
  (some (p2.1,p2.2,y4))) fun j1=>
 if p2.2=true then
 (j1 ({ b:=x0.b,n:=x0.n,at_:=W64 (x0.at_+x1) }:zA0))
 else
 (j1 x0)
def zBt (x0:zA0):Option Int:=
 some x0.at_
def zEe (x0:zA0) (j1:Int→zA0→Option (Int×Int×zA0)):Nat→Int→zA0→Option (Int×Int×zA0)
 | 0,_,_=>none
 | n+1,y39,y40=>
  if y39<4 then
  ((zCs y40 1).bind fun p43=>
   if (!p43.2.1)=true then
   (some (0,2,x0))
   else
   (if ((p43.1).toNat:Int)=0 then
    (j1 y39 p43.2.2)
    else
    (zEe x0 j1 n (W64 (y39+1)) p43.2.2)))
  else
  (j1 y39 y40)
def zKf (x0:zA0):Option (Int×Int×zA0):=
 jn (fun (y16:Int) (y17:zA0)=>
  ((zEw).bind fun p19=>
   (idx ([p19.a0,p19.a1,p19.a2,p19.a3,p19.a4]:List Int) y16).bind fun z21=>
   (zCs y17 z21).bind fun p22=>
   if (!p22.2.1)=true then
   (some (0,2,x0))
   else
   ((zK (shrZ (W64 ((shl64 p22.1 ((zAe (W64 (64-z21))).toNat)).toNat:Int)) ((zAe (W64 (64-z21))).toNat))).bind fun p27=>
    if p27≠y16 then
    (some (0,3,x0))
    else
    ((zBt p22.2.2).bind fun p30=>
     (zBt x0).bind fun p32=>
     (zBx x0 (W64 (p30-p32))).bind fun p34=>
     some (shrZ (W64 ((shl64 p22.1 ((zAe (W64 (64-z21))).toNat)).toNat:Int)) ((zAe (W64 (64-z21))).toNat),0,p34.2))))) fun j1=>
 zEe x0 j1 fuel 0 x0
def zI2 (x0:zA8) (x1:zA0):Option (Int×Int×zA0×zA8):=
 jn (fun (y3:UInt64) (y4:zA0)=>
  ((zDm x0 y3).bind fun p6=>
   some (W64 ((y3).toNat:Int),0,y4,p6))) fun j1=>
 if x0.n<2 then
 ((zH7 x1).bind fun p11=>
  if p11.2.1≠0 then
  (some (0,p11.2.1,p11.2.2,x0))
  else
  (j1 (x0.last+(zAe p11.1)) p11.2.2))
 else
 ((zKf x1).bind fun p16=>
  if p16.2.1≠0 then
  (some (0,p16.2.1,p16.2.2,x0))
  else
  (j1 ((x0.last+x0.step)+(zAe p16.1)) p16.2.2))
def zFv (x0:zA5) (x1:Int) (x2:Int):Option (Int×zA5):=
 jn (fun (y13:zA5)=>
  (some (x1,y13))) fun j1=>
 if x0.e=0 then
 (j1 ({ r:=x0.r,rows:=x0.rows,e:=x2 }:zA5))
 else
 (j1 x0)
def zHx (x0_e:Int) (x1:Int) (x2:Int):Option (Int×Int):=
 jn (fun (y2:Int)=>
  (some (x1,y2))) fun j1=>
 if x0_e=0 then
 (j1 x2)
 else
 (j1 x0_e)
def zC8 (x0_r:zA0) (x0_e:Int) (x1:zA8):Option (Int×zA0×Int×zA8):=
 if x0_e≠0 then
 (some (0,x0_r,x0_e,x1))
 else
 ((zI2 x1 x0_r).bind fun p5=>
  (zHx x0_e p5.1 p5.2.1).bind fun p10=>
  some (p10.1,p5.2.2.1,p10.2,p5.2.2.2))
def zHw (x0:zA5) (x1:UInt64) (x2:Int):Option (UInt64×zA5):=
 jn (fun (y13:zA5)=>
  (some (x1,y13))) fun j1=>
 if x0.e=0 then
 (j1 ({ r:=x0.r,rows:=x0.rows,e:=x2 }:zA5))
 else
 (j1 x0)
def zE6 (x0:zA5):Option (UInt64×zA5):=
 if x0.e≠0 then
 (some ((0:UInt64),x0))
 else
 ((zIv x0.r).bind fun p14=>
  (zHw ({ r:=p14.2.2,rows:=x0.rows,e:=x0.e }:zA5) p14.1 p14.2.1).bind fun p18=>
  some (p18.1,p18.2))
def zBu (x0:zA1) (x1:Int):Option (Int×zA1):=
 if x0.e≠0 then
 (some (0,x0))
 else
 ((zCs x0.r x1).bind fun p7=>
  jn (fun (y13:zA1)=>
   (some (W64 ((p7.1).toNat:Int),y13))) fun j1=>
  if (!p7.2.1)=true then
  (j1 ({ r:=p7.2.2,e:=2 }:zA1))
  else
  (j1 ({ r:=p7.2.2,e:=x0.e }:zA1)))
def zC3 (x0:zA1):Option (Int×zA1):=
 if x0.e≠0 then
 (some (0,x0))
 else
 ((zH7 x0.r).bind fun p7=>
  some (p7.1,({ r:=p7.2.2,e:=p7.2.1 }:zA1)))
def zDj (x0:zA1):Option (zA9×zA1):=
 (zBu x0 8).bind fun p5=>
 jn (fun (y15:zA1)=>
  (if (y15.e≠0)∨(p5.1=0) then
   (some (({ Offset:=0,Counts:=([]:List UInt64) }:zA9),y15))
   else
   ((zC3 y15).bind fun p33=>
    (mkL p5.1 ((0:UInt64):UInt64)).bind fun z37=>
    some (({ Offset:=p33.1,Counts:=z37 }:zA9),p33.2)))) fun j1=>
 if (p5.2.e=0)∧(p5.1>160) then
 (j1 ({ r:=p5.2.r,e:=4 }:zA1))
 else
 (j1 p5.2)
def zD5 (x0:zA1):Option (UInt64×zA1):=
 if x0.e≠0 then
 (some ((0:UInt64),x0))
 else
 ((zIv x0.r).bind fun p7=>
  some (p7.1,({ r:=p7.2.2,e:=p7.2.1 }:zA1)))
def zC7 (p117:(List UInt64)) (y169:zA3) (j8:zA1→zA3→Option (zA3×Int×zA4×zA0)):Nat→Int→zA1→zA3→Int→Option (zA3×Int×zA4×zA0)
 | 0,_,_,_,_=>none
 | n+1,y187,y188,y189,y194=>
  if y187<(y169.Neg.Counts.length:Int) then
  (jn (fun (y200:UInt64) (y201:zA1) (y202:Int)=>
   ((idx y189.Neg.Counts y187).bind fun z222=>
    zC7 p117 y169 j8 n (W64 (y187+1)) y201 ({ Scale:=y189.Scale,Zero:=y189.Zero,Pos:=y189.Pos,Neg:=({ Offset:=y189.Neg.Offset,Counts:=(zGq y189.Neg.Counts y187 y200) }:zA9) }:zA3) y202)) fun j9=>
   jn (fun (y206:UInt64) (y207:zA1)=>
    (jn (fun (y216:UInt64)=>
     (j9 y216 y207 (W64 (y194+1)))) fun j11=>
     if y194<(p117.length:Int) then
     ((idx p117 y194).bind fun z221=>
      j11 (y206+z221))
     else
     (j11 y206))) fun j10=>
   (zC3 y188).bind fun p209=>
   j10 (zAe p209.1) p209.2)
  else
  (j8 y188 y189)
def zC6 (p111:zA3) (p117:(List UInt64)) (j7:zA1→zA3→Int→Option (zA3×Int×zA4×zA0)):Nat→Int→zA1→zA3→Int→Option (zA3×Int×zA4×zA0)
 | 0,_,_,_,_=>none
 | n+1,y227,y228,y229,y234=>
  if y227<(p111.Pos.Counts.length:Int) then
  (jn (fun (y240:UInt64) (y241:zA1) (y242:Int)=>
   ((idx y229.Pos.Counts y227).bind fun z262=>
    zC6 p111 p117 j7 n (W64 (y227+1)) y241 ({ Scale:=y229.Scale,Zero:=y229.Zero,Pos:=({ Offset:=y229.Pos.Offset,Counts:=(zGq y229.Pos.Counts y227 y240) }:zA9),Neg:=y229.Neg }:zA3) y242)) fun j12=>
   jn (fun (y246:UInt64) (y247:zA1)=>
    (jn (fun (y256:UInt64)=>
     (j12 y256 y247 (W64 (y234+1)))) fun j14=>
     if y234<(p117.length:Int) then
     ((idx p117 y234).bind fun z261=>
      j14 (y246+z261))
     else
     (j14 y246))) fun j13=>
   (zC3 y228).bind fun p249=>
   j13 (zAe p249.1) p249.2)
  else
  (j7 y228 y229 y234)
def zC5 (y327:zA3) (j19:zA1→zA3→Option (zA3×Int×zA4×zA0)):Nat→Int→zA1→zA3→Int→Option (zA3×Int×zA4×zA0)
 | 0,_,_,_,_=>none
 | n+1,y345,y346,y347,y352=>
  if y345<(y327.Neg.Counts.length:Int) then
  (jn (fun (y358:UInt64) (y359:zA1) (y360:Int)=>
   ((idx y347.Neg.Counts y345).bind fun z375=>
    zC5 y327 j19 n (W64 (y345+1)) y359 ({ Scale:=y347.Scale,Zero:=y347.Zero,Pos:=y347.Pos,Neg:=({ Offset:=y347.Neg.Offset,Counts:=(zGq y347.Neg.Counts y345 y358) }:zA9) }:zA3) y360)) fun j20=>
   (zD5 y346).bind fun p362=>
   jn (fun (y369:UInt64)=>
    (j20 y369 p362.2 (W64 (y352+1)))) fun j21=>
   if y352<0 then
   ((idx ([]:List UInt64) y352).bind fun z374=>
    none)
   else
   (j21 p362.1))
  else
  (j19 y346 y347)
def zC4 (p271:(zA9×zA1)) (j18:zA1→zA3→Int→Option (zA3×Int×zA4×zA0)):Nat→Int→zA1→zA3→Int→Option (zA3×Int×zA4×zA0)
 | 0,_,_,_,_=>none
 | n+1,y380,y381,y382,y387=>
  if y380<(p271.1.Counts.length:Int) then
  (jn (fun (y393:UInt64) (y394:zA1) (y395:Int)=>
   ((idx y382.Pos.Counts y380).bind fun z410=>
    zC4 p271 j18 n (W64 (y380+1)) y394 ({ Scale:=y382.Scale,Zero:=y382.Zero,Pos:=({ Offset:=y382.Pos.Offset,Counts:=(zGq y382.Pos.Counts y380 y393) }:zA9),Neg:=y382.Neg }:zA3) y395)) fun j22=>
   (zD5 y381).bind fun p397=>
   jn (fun (y404:UInt64)=>
    (j22 y404 p397.2 (W64 (y387+1)))) fun j23=>
   if y387<0 then
   ((idx ([]:List UInt64) y387).bind fun z409=>
    none)
   else
   (j23 p397.1))
  else
  (j18 y381 y382 y387)
def zE2 (x0:zA4) (x1:zA0):Option (zA3×Int×zA4×zA0):=
 (zBu ({ r:=x1,e:=0 }:zA1) 1).bind fun p20=>
 jn (fun (y36:zA1) (y37:zA3)=>
  (jn (fun (y49:zA1)=>
   (if y49.e≠0 then
    (some (({ Scale:=0,Zero:=(0:UInt64),Pos:=({ Offset:=0,Counts:=([]:List UInt64) }:zA9),Neg:=({ Offset:=0,Counts:=([]:List UInt64) }:zA9) }:zA3),y49.e,x0,x1))
    else
    ((zBt y49.r).bind fun p65=>
     (zBt x1).bind fun p67=>
     (zBx x1 (W64 (p65-p67))).bind fun p69=>
     (zD6 y37).bind fun p78=>
     some (y37,0,({ n:=W64 (x0.n+1),last:=p78 }:zA4),p69.2)))) fun j2=>
   if y36.e=0 then
   ((zFi y37).bind fun p90=>
    j2 ({ r:=y36.r,e:=p90 }:zA1))
   else
   (j2 y36))) fun j1=>
 if p20.1=1 then
 (if x0.n=0 then
  (some (({ Scale:=0,Zero:=(0:UInt64),Pos:=({ Offset:=0,Counts:=([]:List UInt64) }:zA9),Neg:=({ Offset:=0,Counts:=([]:List UInt64) }:zA9) }:zA3),3,x0,x1))
  else
  ((zD6 x0.last).bind fun p111=>
   (zCh x0.last).bind fun p117=>
   jn (fun (y124:zA1) (y125:zA3)=>
    (j1 y124 y125)) fun j3=>
   jn (fun (y142:UInt64) (y143:zA1) (y144:Int)=>
    (jn (fun (y168:zA1) (y169:zA3) (y174:Int)=>
     (jn (fun (y178:zA1) (y179:zA3)=>
      (j3 y178 y179)) fun j8=>
      zC7 p117 y169 j8 fuel 0 y168 y169 y174)) fun j7=>
     zC6 p111 p117 j7 fuel 0 y143 ({ Scale:=p111.Scale,Zero:=y142,Pos:=p111.Pos,Neg:=p111.Neg }:zA3) y144)) fun j4=>
   jn (fun (y148:UInt64) (y149:zA1)=>
    (jn (fun (y158:UInt64)=>
     (j4 y158 y149 1)) fun j6=>
     if 0<(p117.length:Int) then
     ((idx p117 0).bind fun z163=>
      j6 (y148+z163))
     else
     (j6 y148))) fun j5=>
   (zC3 p20.2).bind fun p151=>
   j5 (zAe p151.1) p151.2))
 else
 ((zBu p20.2 5).bind fun p265=>
  (zDj p265.2).bind fun p271=>
  (zDj p271.2).bind fun p278=>
  jn (fun (y287:zA1) (y288:zA3)=>
   (jn (fun (y419:zA1)=>
    (jn (fun (y424:Bool)=>
     (if y424=true then
      (j1 ({ r:=y419.r,e:=3 }:zA1) y288)
      else
      (j1 y419 y288))) fun j25=>
     if y419.e=0 then
     (if x0.n>0 then
      ((zFo y288).bind fun p441=>
       (zFo x0.last).bind fun p443=>
       j25 (decide (p441=p443)))
      else
      (j25 false))
     else
     (j25 false))) fun j24=>
    if y287.e=0 then
    ((zFi y288).bind fun p457=>
     j24 ({ r:=y287.r,e:=p457 }:zA1))
    else
    (j24 y287))) fun j15=>
  jn (fun (y305:UInt64) (y306:zA1) (y307:Int)=>
   (jn (fun (y326:zA1) (y327:zA3) (y332:Int)=>
    (jn (fun (y336:zA1) (y337:zA3)=>
     (j15 y336 y337)) fun j19=>
     zC5 y327 j19 fuel 0 y326 y327 y332)) fun j18=>
    zC4 p271 j18 fuel 0 y306 ({ Scale:=W64 (p265.1+(-10)),Zero:=y305,Pos:=p271.1,Neg:=p278.1 }:zA3) y307)) fun j16=>
  (zD5 p278.2).bind fun p309=>
  jn (fun (y316:UInt64)=>
   (j16 y316 p309.2 1)) fun j17=>
  if 0<0 then
  ((idx ([]:List UInt64) 0).bind fun z321=>
   none)
  else
  (j17 p309.1))
def zFq (x0:zA5) (x1:zA3) (x2:Int):Option (zA3×zA5):=
 jn (fun (y25:zA5)=>
  (some (x1,y25))) fun j1=>
 if x0.e=0 then
 (j1 ({ r:=x0.r,rows:=x0.rows,e:=x2 }:zA5))
 else
 (j1 x0)
def zCg (x0:zA0) (x1:Int) (x2:Int):Option (UInt64×zA0×Int):=
 (zCs x0 x2).bind fun p3=>
 jn (fun (y10:Int)=>
  (some (p3.1,p3.2.2,y10))) fun j1=>
 if ((!p3.2.1)=true)∧(x1=0) then
 (j1 2)
 else
 (j1 x1)
def zFu (x0:zAg) (x1:zA0) (x2:Int):Option (UInt64×zA0×zAg×Int):=
 if x0.n=0 then
 ((zCg x1 x2 64).bind fun p7=>
  some (p7.1,p7.2.1,x0,p7.2.2))
 else
 ((zCg x1 x2 1).bind fun p12=>
  if ((p12.1).toNat:Int)=0 then
  (some ((0:UInt64),p12.2.1,x0,p12.2.2))
  else
  ((zCg p12.2.1 p12.2.2 1).bind fun p18=>
   if ((p18.1).toNat:Int)=0 then
   (jn (fun (y25:Bool)=>
    (jn (fun (y28:Int)=>
     ((zCg p18.2.1 y28 x0.win.size).bind fun p35=>
      (zB5 x0.win).bind fun p40=>
      (remZ p40 64).bind fun z42=>
      jn (fun (y48:Int)=>
       (some (shl64 p35.1 ((zAe z42).toNat),p35.2.1,x0,y48))) fun j3=>
      if (((shl64 p35.1 ((zAe z42).toNat)).toNat:Int)=0)∧(p35.2.2=0) then
      (j3 3)
      else
      (j3 p35.2.2))) fun j2=>
     if y25=true then
     (j2 3)
     else
     (j2 p18.2.2))) fun j1=>
    if x0.win=({ ahead:=0,size:=0 }:zAt) then
    (j1 (decide (p18.2.2=0)))
    else
    (j1 false))
   else
   ((zCg p18.2.1 p18.2.2 5).bind fun p58=>
    (zCg p58.2.1 p58.2.2 6).bind fun p66=>
    jn (fun (y74:Bool)=>
     (jn (fun (y77:Int)=>
      ((zCg p66.2.1 y77 (W64 ((W64 ((p66.1).toNat:Int))+1))).bind fun p79=>
       if p79.2.2≠0 then
       (some ((0:UInt64),p79.2.1,x0,p79.2.2))
       else
       ((zB5 ({ ahead:=W64 ((p58.1).toNat:Int),size:=W64 ((W64 ((p66.1).toNat:Int))+1) }:zAt)).bind fun p85=>
        jn (fun (y88:Bool)=>
         (jn (fun (y91:Int)=>
          (some (shl64 p79.1 ((zAe p85).toNat),p79.2.1,({ n:=x0.n,last:=x0.last,win:=({ ahead:=W64 ((p58.1).toNat:Int),size:=W64 ((W64 ((p66.1).toNat:Int))+1) }:zAt) }:zAg),y91))) fun j7=>
          if y88=true then
          (j7 3)
          else
          (j7 p79.2.2))) fun j6=>
        if ((shl64 p79.1 ((zAe p85).toNat)).toNat:Int)=0 then
        (j6 true)
        else
        ((zH0 (shl64 p79.1 ((zAe p85).toNat))).bind fun p106=>
         if ¬(p106=({ ahead:=W64 ((p58.1).toNat:Int),size:=W64 ((W64 ((p66.1).toNat:Int))+1) }:zAt)) then
         (j6 true)
         else
         ((zDz x0.win (shl64 p79.1 ((zAe p85).toNat))).bind fun p111=>
          j6 p111))))) fun j5=>
      if y74=true then
      (j5 3)
      else
      (j5 p66.2.2))) fun j4=>
    if p66.2.2=0 then
    ((zB5 ({ ahead:=W64 ((p58.1).toNat:Int),size:=W64 ((W64 ((p66.1).toNat:Int))+1) }:zAt)).bind fun p119=>
     j4 (decide (p119<0)))
    else
    (j4 false))))
def zIm (x0:zAg) (x1:zA0):Option (UInt64×Int×zA0×zAg):=
 jn (fun (y6:zAg) (y8:zA0)=>
  ((zFu y6 y8 0).bind fun p14=>
   if p14.2.2.2≠0 then
   (some ((0:UInt64),p14.2.2.2,x1,x0))
   else
   ((zBt p14.2.1).bind fun p31=>
    (zBt x1).bind fun p33=>
    (zBx x1 (W64 (p31-p33))).bind fun p35=>
    some (p14.2.2.1.last^^^p14.1,0,p35.2,({ n:=W64 (p14.2.2.1.n+1),last:=p14.2.2.1.last^^^p14.1,win:=p14.2.2.1.win }:zAg))))) fun j1=>
 j1 x0 x1
def zAv (x0:Bool) (x1:Int) (x2_:zA5):Option zA5:=
 if x0=true then
 ((zFv x2_ 0 x1).bind fun p4=>
  some p4.2)
 else
 (some x2_)
def zGo (x0_e:Int) (x1:UInt64) (x2:Int):Option (UInt64×Int):=
 jn (fun (y2:Int)=>
  (some (x1,y2))) fun j1=>
 if x0_e=0 then
 (j1 x2)
 else
 (j1 x0_e)
def zBr (x0_r:zA0) (x0_e:Int) (x1:zAg):Option (UInt64×zA0×Int×zAg):=
 if x0_e≠0 then
 (some ((0:UInt64),x0_r,x0_e,x1))
 else
 ((zIm x1 x0_r).bind fun p7=>
  (zGo x0_e p7.1 p7.2.1).bind fun p16=>
  some (p16.1,p7.2.2.1,p16.2,p7.2.2.2))
def zFp (x0:zA5) (x1:zA6) (x2:Int):Option (zAm×zA5):=
 (zC8 x0.r x0.e x0.rows.ords).bind fun p31=>
 (zC8 p31.2.1 p31.2.2.1 x0.rows.times).bind fun p38=>
 jn (fun (y45:Int) (y46:zA5)=>
  ((zE6 y46).bind fun p48=>
   jn (fun (y52:zA5) (y53:zA6)=>
    ((zAv (decide ((p31.1<0)∨(p31.1>4503599627370496))) 1 y52).bind fun p63=>
     (zAv (decide (p31.1≤x2)) 9 p63).bind fun p68=>
     (zAv (decide ((p38.1<0)∨(p38.1>4503599627370496))) 1 p68).bind fun p75=>
     (zAv (decide ((y53.Kind≠3)∧((y45<1)∨(y45>p38.1)))) 1 p75).bind fun p84=>
     if p84.e≠0 then
     (some (({ Ord:=0,Point:=({ Name:=([]:List UInt8),Attrs:=([]:List zA),Kind:=0,Temp:=0,Mono:=false,Start:=0,Time:=0,Int_:=0,Re:=(0:UInt64),Im:=(0:UInt64),Hist:=({ Scale:=0,Zero:=(0:UInt64),Pos:=({ Offset:=0,Counts:=([]:List UInt64) }:zA9),Neg:=({ Offset:=0,Counts:=([]:List UInt64) }:zA9) }:zA3),Flags:=0 }:zA6) }:zAm),p84))
     else
     ((zDr ({ Name:=y53.Name,Attrs:=y53.Attrs,Kind:=y53.Kind,Temp:=y53.Temp,Mono:=y53.Mono,Start:=W64 (p38.1-y45),Time:=p38.1,Int_:=y53.Int_,Re:=y53.Re,Im:=y53.Im,Hist:=y53.Hist,Flags:=W64 ((minU p48.1 (1048576:UInt64)).toNat:Int) }:zA6)).bind fun p134=>
      (zFv p84 0 p134).bind fun p136=>
      some (({ Ord:=p31.1,Point:=({ Name:=y53.Name,Attrs:=y53.Attrs,Kind:=y53.Kind,Temp:=y53.Temp,Mono:=y53.Mono,Start:=W64 (p38.1-y45),Time:=p38.1,Int_:=y53.Int_,Re:=y53.Re,Im:=y53.Im,Hist:=y53.Hist,Flags:=W64 ((minU p48.1 (1048576:UInt64)).toNat:Int) }:zA6) }:zAm),p136.2)))) fun j2=>
   if x1.Kind=1 then
   ((zC8 p48.2.r p48.2.e p48.2.rows.ints).bind fun p155=>
    j2 ({ r:=p155.2.1,rows:=({ ords:=p48.2.rows.ords,times:=p48.2.rows.times,spans:=p48.2.rows.spans,ints:=p155.2.2.2,re:=p48.2.rows.re,im:=p48.2.rows.im,hists:=p48.2.rows.hists }:zAj),e:=p155.2.2.1 }:zA5) ({ Name:=x1.Name,Attrs:=x1.Attrs,Kind:=x1.Kind,Temp:=x1.Temp,Mono:=x1.Mono,Start:=x1.Start,Time:=x1.Time,Int_:=p155.1,Re:=x1.Re,Im:=x1.Im,Hist:=x1.Hist,Flags:=x1.Flags }:zA6))
   else
   (if x1.Kind=4 then
    (if p48.2.e=0 then
     (jn (fun (y187:zA3) (y189:Int) (y190:zA5)=>
      ((zFq y190 y187 y189).bind fun p195=>
       j2 p195.2 ({ Name:=x1.Name,Attrs:=x1.Attrs,Kind:=x1.Kind,Temp:=x1.Temp,Mono:=x1.Mono,Start:=x1.Start,Time:=x1.Time,Int_:=x1.Int_,Re:=x1.Re,Im:=x1.Im,Hist:=p195.1,Flags:=x1.Flags }:zA6))) fun j3=>
      (zE2 p48.2.rows.hists p48.2.r).bind fun p228=>
      j3 p228.1 p228.2.1 ({ r:=p228.2.2.2,rows:=({ ords:=p48.2.rows.ords,times:=p48.2.rows.times,spans:=p48.2.rows.spans,ints:=p48.2.rows.ints,re:=p48.2.rows.re,im:=p48.2.rows.im,hists:=p228.2.2.1 }:zAj),e:=p48.2.e }:zA5))
     else
     (j2 p48.2 x1))
    else
    (if x1.Kind=5 then
     ((zBr p48.2.r p48.2.e p48.2.rows.re).bind fun p297=>
      (zBr p297.2.1 p297.2.2.1 p48.2.rows.im).bind fun p308=>
      j2 ({ r:=p308.2.1,rows:=({ ords:=p48.2.rows.ords,times:=p48.2.rows.times,spans:=p48.2.rows.spans,ints:=p48.2.rows.ints,re:=p297.2.2.2,im:=p308.2.2.2,hists:=p48.2.rows.hists }:zAj),e:=p308.2.2.1 }:zA5) ({ Name:=x1.Name,Attrs:=x1.Attrs,Kind:=x1.Kind,Temp:=x1.Temp,Mono:=x1.Mono,Start:=x1.Start,Time:=x1.Time,Int_:=x1.Int_,Re:=p297.1,Im:=p308.1,Hist:=x1.Hist,Flags:=x1.Flags }:zA6))
     else
     ((zBr p48.2.r p48.2.e p48.2.rows.re).bind fun p345=>
      j2 ({ r:=p345.2.1,rows:=({ ords:=p48.2.rows.ords,times:=p48.2.rows.times,spans:=p48.2.rows.spans,ints:=p48.2.rows.ints,re:=p345.2.2.2,im:=p48.2.rows.im,hists:=p48.2.rows.hists }:zAj),e:=p345.2.2.1 }:zA5) ({ Name:=x1.Name,Attrs:=x1.Attrs,Kind:=x1.Kind,Temp:=x1.Temp,Mono:=x1.Mono,Start:=x1.Start,Time:=x1.Time,Int_:=x1.Int_,Re:=p345.1,Im:=x1.Im,Hist:=x1.Hist,Flags:=x1.Flags }:zA6)))))) fun j1=>
 if x1.Kind≠3 then
 ((zC8 p38.2.1 p38.2.2.1 x0.rows.spans).bind fun p371=>
  j1 p371.1 ({ r:=p371.2.1,rows:=({ ords:=p31.2.2.2,times:=p38.2.2.2,spans:=p371.2.2.2,ints:=x0.rows.ints,re:=x0.rows.re,im:=x0.rows.im,hists:=x0.rows.hists }:zAj),e:=p371.2.2.1 }:zA5))
 else
 (j1 0 ({ r:=p38.2.1,rows:=({ ords:=p31.2.2.2,times:=p38.2.2.2,spans:=x0.rows.spans,ints:=x0.rows.ints,re:=x0.rows.re,im:=x0.rows.im,hists:=x0.rows.hists }:zAj),e:=p38.2.2.1 }:zA5))
def zDx (p14:(Int×zAa)) (p33:(zA6×Int)) (j1:(List zAm)→zA5→Option ((List zAm)×Int)):Nat→(List zAm)→Int→Int→zA5→Option ((List zAm)×Int)
 | 0,_,_,_,_=>none
 | n+1,y89,y92,y93,y94=>
  if y93<p14.1 then
  ((zH8 p33.1).bind fun p99=>
   (zFp y94 p99 y92).bind fun p104=>
   if p104.2.e≠0 then
   (some (([]:List zAm),p104.2.e))
   else
   ((zLr y89 [p104.1]).bind fun z139=>
    zDx p14 p33 j1 n z139 p104.1.Ord (W64 (y93+1)) p104.2))
  else
  (j1 y89 y94)
def zIf (x0:(List UInt8)):Option ((List zAm)×Int):=
 (zGv x0).bind fun p7=>
 (zEy p7 420).bind fun p10=>
 (zCp p10.2 128).bind fun p14=>
 (zCp p14.2 16777216).bind fun p18=>
 (quoZ (W64 (p18.1+7)) 8).bind fun z22=>
 (zF9 p18.2 z22).bind fun p23=>
 (zFz p23.2).bind fun p28=>
 if p28≠0 then
 (some (([]:List zAm),p28))
 else
 ((zI4 p10.1).bind fun p33=>
  if p33.2≠0 then
  (some (([]:List zAm),p33.2))
  else
  ((zGh p23.1 p18.1).bind fun p44=>
   if p44.2≠0 then
   (some (([]:List zAm),p44.2))
   else
   ((zFd).bind fun p52=>
    (p44.1).bind fun z61=>
    jn (fun (y69:(List zAm)) (y72:zA5)=>
     ((zBy y72.r).bind fun p83=>
      if p83>0 then
      (some (([]:List zAm),3))
      else
      (some (y69,0)))) fun j1=>
    zDx p14 p33 j1 fuel ([]:List zAm) (-1) 0 ({ r:=z61,rows:=p52,e:=0 }:zA5))))
def zFn  : Option Bool:=
 (zNr ([({ Ord:=0,Point:=({ Name:=([120]:List UInt8),Attrs:=[],Kind:=3,Temp:=0,Mono:=false,Start:=10,Time:=10,Int_:=0,Re:=(0:UInt64),Im:=(0:UInt64),Hist:=({ Scale:=0,Zero:=(0:UInt64),Pos:=({ Offset:=0,Counts:=[] }:zA9),Neg:=({ Offset:=0,Counts:=[] }:zA9) }:zA3),Flags:=0 }:zA6) }:zAm)]:List zAm)).bind fun p11=>
 (zIf p11.1).bind fun p14=>
 jn (fun (y21:Bool)=>
  (jn (fun (y27:Bool)=>
   (some y27)) fun j2=>
   if ((y21=true)∧(p14.2=0))∧((p14.1.length:Int)=1) then
   ((idx p14.1 0).bind fun z30=>
    j2 (decide (z30.Point.Time=10)))
   else
   (j2 false))) fun j1=>
 if (p11.2=0)∧((p11.1.length:Int)=18) then
 ((zM2 p11.1 0 8).bind fun z39=>
  j1 (decide (z39=([5,120,32,51,48,48,1,77]:List UInt8))))
 else
 (j1 false)
def zAy (x0:(List zA)) (j1:Unit→Option Bool):Nat→Int→Option Bool
 | 0,_=>none
 | n+1,y5=>
  if y5<(x0.length:Int) then
  ((idx x0 y5).bind fun z8=>
   jn (fun (y10:Bool)=>
    (if y10=true then
     (some false)
     else
     (zAy x0 j1 n (W64 (y5+1))))) fun j2=>
   if (z8.Key.length:Int)>100 then
   (j2 true)
   else
   ((idx x0 y5).bind fun z14=>
    j2 (decide ((z14.Val.length:Int)>100))))
  else
  (j1 ())
def zE8 (x0:(List zA)):Option Bool:=
 if (x0.length:Int)>20 then
 (some false)
 else
 (jn (fun (_:Unit)=>
  (some true)) fun j1=>
  zAy x0 j1 fuel 0)
def zFm (x0:zA3):Option Bool:=
 some (decide (((x0.Pos.Counts.length:Int)≤300)∧((x0.Neg.Counts.length:Int)≤300)))
def zDb (x0:zA6):Option Bool:=
 jn (fun (y13:Bool)=>
  (jn (fun (y15:Bool)=>
   (some y15)) fun j2=>
   if y13=true then
   ((zFm x0.Hist).bind fun p18=>
    j2 p18)
   else
   (j2 false))) fun j1=>
 if (x0.Name.length:Int)≤100 then
 ((zE8 x0.Attrs).bind fun p21=>
  j1 p21)
 else
 (j1 false)
def zB3 (x0:(List UInt8)) (j1:Unit→Option Bool):Nat→Int→Option Bool
 | 0,_=>none
 | n+1,y5=>
  if y5<(x0.length:Int) then
  ((idx x0 y5).bind fun z8=>
   if (¬((((z8).toNat:Int)≥97)∧(((z8).toNat:Int)≤122)))∧((y5=0)∨(¬((((((z8).toNat:Int)≥48)∧(((z8).toNat:Int)≤57))∨(((z8).toNat:Int)=95))∨(((z8).toNat:Int)=46)))) then
   (some false)
   else
   (zB3 x0 j1 n (W64 (y5+1))))
  else
  (j1 ())
def zCw (x0:(List UInt8)):Option Bool:=
 if ((x0.length:Int)<1)∨((x0.length:Int)>32) then
 (some false)
 else
 (jn (fun (_:Unit)=>
  (some true)) fun j1=>
  zB3 x0 j1 fuel 0)
def zAx (x0:(List UInt8)) (j1:Unit→Option Bool):Nat→Int→Option Bool
 | 0,_=>none
 | n+1,y5=>
  if y5<(x0.length:Int) then
  ((idx x0 y5).bind fun z8=>
   if ((((((z8).toNat:Int)≤32)∨(((z8).toNat:Int)≥127))∨(((z8).toNat:Int)=61))∨(((z8).toNat:Int)=59))∨(((z8).toNat:Int)=44) then
   (some false)
   else
   (zAx x0 j1 n (W64 (y5+1))))
  else
  (j1 ())
def zDc (x0:(List UInt8)):Option Bool:=
 if ((x0.length:Int)<1)∨((x0.length:Int)>32) then
 (some false)
 else
 (jn (fun (_:Unit)=>
  (some true)) fun j1=>
  zAx x0 j1 fuel 0)
def zBk (x1:(List zA)) (y8:Int) (j3:Unit→Option Int):Nat→Int→Option Int
 | 0,_=>none
 | n+1,y19=>
  if y19<y8 then
  ((idx x1 y19).bind fun z23=>
   (idx x1 y8).bind fun z26=>
   if z23.Key=z26.Key then
   (some 8)
   else
   (zBk x1 y8 j3 n (W64 (y19+1))))
  else
  (j3 ())
def zAz (x1:(List zA)) (j1:Unit→Option Int):Nat→Int→Option Int
 | 0,_=>none
 | n+1,y8=>
  if y8<(x1.length:Int) then
  ((idx x1 y8).bind fun z11=>
   (zCw z11.Key).bind fun p13=>
   jn (fun (y15:Bool)=>
    (if y15=true then
     (some 3)
     else
     (jn (fun (_:Unit)=>
      (zAz x1 j1 n (W64 (y8+1)))) fun j3=>
      zBk x1 y8 j3 fuel 0))) fun j2=>
   if (!p13)=true then
   (j2 true)
   else
   ((idx x1 y8).bind fun z31=>
    (zDc z31.Val).bind fun p33=>
    j2 (!p33)))
  else
  (j1 ())
def zE9 (x0:(List UInt8)) (x1:(List zA)):Option Int:=
 (zCw x0).bind fun p3=>
 if (!p3)=true then
 (some 3)
 else
 (if (x1.length:Int)>4 then
  (some 4)
  else
  (jn (fun (_:Unit)=>
   (some 0)) fun j1=>
   zAz x1 j1 fuel 0))
def zAs (x0:zA9) (x1:zA9) (j1:Unit→Option Bool):Nat→Int→Option Bool
 | 0,_=>none
 | n+1,y17=>
  if y17<(x0.Counts.length:Int) then
  ((idx x0.Counts y17).bind fun z21=>
   (idx x1.Counts y17).bind fun z24=>
   if ((z21).toNat:Int)≠((z24).toNat:Int) then
   (some false)
   else
   (zAs x0 x1 j1 n (W64 (y17+1))))
  else
  (j1 ())
def zCv (x0:zA9) (x1:zA9):Option Bool:=
 if (x0.Offset≠x1.Offset)∨((x0.Counts.length:Int)≠(x1.Counts.length:Int)) then
 (some false)
 else
 (jn (fun (_:Unit)=>
  (some true)) fun j1=>
  zAs x0 x1 j1 fuel 0)
def zDi (x0:zA3) (x1:zA3):Option Bool:=
 jn (fun (y21:Bool)=>
  (jn (fun (y23:Bool)=>
   (some y23)) fun j2=>
   if y21=true then
   ((zCv x0.Neg x1.Neg).bind fun p26=>
    j2 p26)
   else
   (j2 false))) fun j1=>
 if (x0.Scale=x1.Scale)∧(((x0.Zero).toNat:Int)=((x1.Zero).toNat:Int)) then
 ((zCv x0.Pos x1.Pos).bind fun p29=>
  j1 p29)
 else
 (j1 false)
def zEo (x0:zA3):Option Bool:=
 (zDi x0 ({ Scale:=0,Zero:=(0:UInt64),Pos:=({ Offset:=0,Counts:=[] }:zA9),Neg:=({ Offset:=0,Counts:=[] }:zA9) }:zA3)).bind fun p10=>
 some p10
def zE0 (x0:UInt64):Option Bool:=
 (quo64 x0 (4503599627370496:UInt64)).bind fun z1=>
 (rem64 z1 (2048:UInt64)).bind fun z2=>
 some (decide (((z2).toNat:Int)≠2047))
def zD4 (x0:UInt64):Option Bool:=
 (quo64 x0 (4503599627370496:UInt64)).bind fun z1=>
 (rem64 z1 (2048:UInt64)).bind fun z2=>
 jn (fun (y3:Bool)=>
  (some y3)) fun j1=>
 if ((z2).toNat:Int)=2047 then
 ((rem64 x0 (4503599627370496:UInt64)).bind fun z6=>
  j1 (decide (((z6).toNat:Int)≠0)))
 else
 (j1 false)
def zEr (x0:UInt64) (x1:UInt64):Option Bool:=
 (zD4 x0).bind fun p1=>
 jn (fun (y3:Bool)=>
  (if y3=true then
   (some false)
   else
   ((rem64 x0 (9223372036854775808:UInt64)).bind fun z6=>
    (rem64 x1 (9223372036854775808:UInt64)).bind fun z7=>
    if (((z6).toNat:Int)=0)∧(((z7).toNat:Int)=0) then
    (some false)
    else
    (if (((x0).toNat:Int)≥9223372036854775808)∧(((x1).toNat:Int)≥9223372036854775808) then
     (some (decide (((z6).toNat:Int)>((z7).toNat:Int))))
     else
     (if (((x0).toNat:Int)<9223372036854775808)∧(((x1).toNat:Int)<9223372036854775808) then
      (some (decide (((z6).toNat:Int)<((z7).toNat:Int))))
      else
      (some (decide (((x0).toNat:Int)≥9223372036854775808)))))))) fun j1=>
 if p1=true then
 (j1 true)
 else
 ((zD4 x1).bind fun p18=>
  j1 p18)
def zDh (x0:zA9):Option Int:=
 if (x0.Counts.length:Int)>160 then
 (some 4)
 else
 (if (x0.Counts.length:Int)=0 then
  (if x0.Offset≠0 then
   (some 3)
   else
   (some 0))
  else
  ((idx x0.Counts 0).bind fun z10=>
   jn (fun (y12:Bool)=>
    (if y12=true then
     (some 3)
     else
     (jn (fun (y17:Bool)=>
      (if y17=true then
       (some 1)
       else
       (some 0))) fun j2=>
      if (x0.Offset<(-1073741824))∨(x0.Offset>1073741824) then
      (j2 true)
      else
      (j2 (decide (W64 ((W64 (x0.Offset+(x0.Counts.length:Int)))-1)>1073741824)))))) fun j1=>
   if ((z10).toNat:Int)=0 then
   (j1 true)
   else
   ((idx x0.Counts (W64 ((x0.Counts.length:Int)-1))).bind fun z22=>
    j1 (decide (((z22).toNat:Int)=0)))))
def zB9 (x1:(List UInt64)) (j1:UInt64→Option (UInt64×Bool)):Nat→UInt64→Int→Option (UInt64×Bool)
 | 0,_,_=>none
 | n+1,y5,y6=>
  if y6<(x1.length:Int) then
  ((idx x1 y6).bind fun z9=>
   if ((z9).toNat:Int)>(((18446744073709551615:UInt64)-y5).toNat:Int) then
   (some ((0:UInt64),false))
   else
   ((idx x1 y6).bind fun z12=>
    zB9 x1 j1 n (y5+z12) (W64 (y6+1))))
  else
  (j1 y5)
def zDv (x0:UInt64) (x1:(List UInt64)):Option (UInt64×Bool):=
 jn (fun (y3:UInt64)=>
  (some (y3,true))) fun j1=>
 zB9 x1 j1 fuel x0 0
def zEa (x0:zA3):Option (UInt64×Bool):=
 (zDv x0.Zero x0.Pos.Counts).bind fun p10=>
 if (!p10.2)=true then
 (some ((0:UInt64),false))
 else
 ((zDv p10.1 x0.Neg.Counts).bind fun p13=>
  some (p13.1,p13.2))
def zEb (x0:zA3):Option Int:=
 if (x0.Scale<(-10))∨(x0.Scale>20) then
 (some 1)
 else
 ((zDh x0.Pos).bind fun p13=>
  if p13≠0 then
  (some p13)
  else
  ((zDh x0.Neg).bind fun p16=>
   if p16≠0 then
   (some p16)
   else
   ((zEa x0).bind fun p19=>
    if (!p19.2)=true then
    (some 4)
    else
    (some 0))))
def zE7 (x0:zA6):Option Int:=
 (zE9 x0.Name x0.Attrs).bind fun p13=>
 if p13≠0 then
 (some p13)
 else
 (if (x0.Kind<1)∨(x0.Kind>5) then
  (some 14)
  else
  (if ((x0.Kind=3)∧(x0.Temp≠0))∨(((x0.Kind≠3)∧(x0.Temp≠1))∧(x0.Temp≠2)) then
   (some 14)
   else
   (if ((x0.Mono=true)∧(x0.Kind≠1))∧(x0.Kind≠2) then
    (some 1)
    else
    (if (((x0.Start<0)∨(x0.Time>4503599627370496))∨((x0.Kind=3)∧(x0.Start≠x0.Time)))∨((x0.Kind≠3)∧(x0.Start≥x0.Time)) then
     (some 1)
     else
     (jn (fun (y50:Bool)=>
      (if y50=true then
       (some 3)
       else
       (if ((((x0.Kind=1)∨(x0.Kind=4))∧(((x0.Re).toNat:Int)≠0))∨(x0.Flags<0))∨(x0.Flags>31) then
        (some 3)
        else
        (jn (fun (y64:Bool)=>
         (if y64=true then
          (some 11)
          else
          (jn (fun (y69:Bool)=>
           (if (y69=true)∨(((x0.Mono=true)∧(x0.Kind=1))∧(x0.Int_<0)) then
            (some 1)
            else
            (if x0.Kind=4 then
             ((zEb x0.Hist).bind fun p79=>
              some p79)
             else
             (some 0)))) fun j3=>
           if (x0.Mono=true)∧(x0.Kind=2) then
           ((zEr x0.Re (0:UInt64)).bind fun p82=>
            j3 p82)
           else
           (j3 false)))) fun j2=>
         if (x0.Mono=true)∧(x0.Kind=2) then
         ((zE0 x0.Re).bind fun p85=>
          j2 (!p85))
         else
         (j2 false))))) fun j1=>
      if ((x0.Kind≠1)∧(x0.Int_≠0))∨((x0.Kind≠5)∧(((x0.Im).toNat:Int)≠0)) then
      (j1 true)
      else
      (jn (fun (y88:Bool)=>
       (j1 y88)) fun j4=>
       if x0.Kind≠4 then
       ((zEo x0.Hist).bind fun p91=>
        j4 (!p91))
       else
       (j4 false)))))))
def zHy (x0:zAc):Option Int:=
 some x0.n
def zHd (x0:zAc):Option Int:=
 some x0.last
def zBg (x0:(List zA)) (y7:(List zA)) (y10:Int) (j2:Int→Option (List zA)):Nat→Int→Option (List zA)
 | 0,_=>none
 | n+1,y33=>
  jn (fun (y35:Bool)=>
   (if y35=true then
    (zBg x0 y7 y10 j2 n (W64 (y33-1)))
    else
    (j2 y33))) fun j3=>
  if y33>0 then
  ((idx y7 (W64 (y33-1))).bind fun z40=>
   (idx x0 y10).bind fun z41=>
   j3 (Op.bytesLess z41.Key z40.Key))
  else
  (j3 false)
def zAu (x0:(List zA)) (j1:(List zA)→Option (List zA)):Nat→(List zA)→Int→Option (List zA)
 | 0,_,_=>none
 | n+1,y7,y10=>
  if y10<(x0.length:Int) then
  (jn (fun (y15:Int)=>
   ((zM2 y7 0 y15).bind fun z17=>
    (zLr ([]:List zA) z17).bind fun z21=>
    (idx x0 y10).bind fun z25=>
    (zLr z21 [z25]).bind fun z27=>
    (zM2 y7 y15 ((y7).length)).bind fun z29=>
    (zLr z27 z29).bind fun z31=>
    zAu x0 j1 n z31 (W64 (y10+1)))) fun j2=>
   zBg x0 y7 y10 j2 fuel (y7.length:Int))
  else
  (j1 y7)
def zD3 (x0:(List zA)):Option (List zA):=
 jn (fun (y3:(List zA))=>
  (some y3)) fun j1=>
 zAu x0 j1 fuel ([]:List zA) 0
def zB2 (x0:(List zA)) (x1:(List zA)) (j1:Unit→Option Bool):Nat→Int→Option Bool
 | 0,_=>none
 | n+1,y7=>
  if y7<(x0.length:Int) then
  ((idx x0 y7).bind fun z11=>
   (idx x1 y7).bind fun z14=>
   if ¬(z11=z14) then
   (some false)
   else
   (zB2 x0 x1 j1 n (W64 (y7+1))))
  else
  (j1 ())
def zEq (x0:(List zA)) (x1:(List zA)):Option Bool:=
 if (x0.length:Int)≠(x1.length:Int) then
 (some false)
 else
 (jn (fun (_:Unit)=>
  (some true)) fun j1=>
  zB2 x0 x1 j1 fuel 0)
def zEp (x0:zA6) (x1:zA6):Option Bool:=
 jn (fun (y25:Bool)=>
  (if y25=true then
   (some false)
   else
   (if ((((x0.Kind≠x1.Kind)∨(x0.Temp≠x1.Temp))∨(x0.Mono≠x1.Mono))∨(x0.Start≠x1.Start))∨(x0.Time≠x1.Time) then
    (some false)
    else
    (jn (fun (y43:Bool)=>
     (some y43)) fun j2=>
     if (((x0.Int_=x1.Int_)∧(((x0.Re).toNat:Int)=((x1.Re).toNat:Int)))∧(((x0.Im).toNat:Int)=((x1.Im).toNat:Int)))∧(x0.Flags=x1.Flags) then
     ((zDi x0.Hist x1.Hist).bind fun p46=>
      j2 p46)
     else
     (j2 false))))) fun j1=>
 if x0.Name≠x1.Name then
 (j1 true)
 else
 ((zD3 x0.Attrs).bind fun p50=>
  (zD3 x1.Attrs).bind fun p53=>
  (zEq p50 p53).bind fun p56=>
  j1 (!p56))
def zBe (x0:zA6) (x1:Int) (j2:(Option zAc)→Option Bool):Nat→Int→(Option zAc)→Option Bool
 | 0,_,_=>none
 | n+1,y70,y71=>
  if y70<x1 then
  ((y71).bind fun z75=>
   (zDn z75 (W64 (300+y70)) x0).bind fun p74=>
   if p74.1≠6 then
   (some false)
   else
   (zBe x0 x1 j2 n (W64 (y70+1)) (some p74.2)))
  else
  (j2 y71)
def zBd (x0:zA6) (j1:(Option zAc)→Option Bool):Nat→Int→(Option zAc)→Option Bool
 | 0,_,_=>none
 | n+1,y88,y89=>
  if y88<128 then
  ((y89).bind fun z93=>
   (zDn z93 (W64 (2*y88)) x0).bind fun p92=>
   if p92.1≠0 then
   (some false)
   else
   (zBd x0 j1 n (W64 (y88+1)) (some p92.2)))
  else
  (j1 y89)
def zEk (x0:zA6) (x1:Int):Option Bool:=
 (zFn).bind fun p17=>
 if (!p17)=true then
 (some false)
 else
 ((zDb x0).bind fun p20=>
  if (((((!p20)=true)∨((x0.Hist.Pos.Counts.length:Int)>20))∨((x0.Hist.Neg.Counts.length:Int)>20))∨(x1<0))∨(x1>3) then
  (some true)
  else
  ((zJc x0 4611686018427387904).bind fun p31=>
   if ((p31.1).isNone)=true then
   ((zE7 x0).bind fun p35=>
    some (decide (p35≠0)))
   else
   (jn (fun (y37:(Option zAc))=>
    (jn (fun (y39:(Option zAc))=>
     ((y39).bind fun z42=>
      (zEl z42).bind fun p41=>
      (zIf p41).bind fun p46=>
      if p46.2=0 then
      (if (p46.1.length:Int)=128 then
       ((zHy z42).bind fun p54=>
        if p54=128 then
        ((zHd z42).bind fun p57=>
         if p57=254 then
         ((idx p46.1 127).bind fun z60=>
          (zEp z60.Point x0).bind fun p68=>
          some p68)
         else
         (some false))
        else
        (some false))
       else
       (some false))
      else
      (some false))) fun j2=>
     zBe x0 x1 j2 fuel 0 y37)) fun j1=>
    zBd x0 j1 fuel 0 p31.1)))
end Go.Proofs.YthjhejgjcdajdaaGreatDoor
namespace Go.Proofs.YthjhejgjcdajdaaGreatDoor
open Go Go.RowKit Go.Wk
set_option maxRecDepth 20000 in
theorem zKx (z6:(List UInt8)) (j2:Unit→Option Bool) (hE:z6.length<4611686018427387904) :
 zC0 z6 j2 fuel 0=zF2 z6 ()
 (fun ii xx ss kk=>
 (some xx).bind fun z12=>
 (zGe z12).bind fun p14=>
 if ((((!p14)=true)∧((((z12).toNat:Int)<48)∨(((z12).toNat:Int)>57)))∧(((z12).toNat:Int)≠95))∧(((z12).toNat:Int)≠46) then
 (some false)
 else
 (kk ()))
 (fun ss=>
 j2 ()):=by
 have hh:=fun B J h=>zG5 z6 hE (fun nn (ss:Unit) (yy:Int)=>zC0 z6 j2 nn yy) B J h ()
 have h0:(fun nn (ss:Unit) (yy:Int)=>zC0 z6 j2 nn yy) fuel () 0=zC0 z6 j2 fuel 0:=by dsimp only
 unfold zF2;refine h0.symm.trans (hh _ _ ?_);intro nn ss ii hi;show zC0 z6 j2 (nn+1) ii=_;rw [zC0]
 by_cases h:ii<z6.length
 ·rw [if_pos (by omega),dif_pos h]
  simp only [zH2 h,zDo (show ii+1≤9223372036854775807 by omega)]
 ·rw [if_neg (by omega),dif_neg h]
set_option maxRecDepth 20000 in
theorem zKj (z4:(List UInt8)) (j1:Unit→Option Bool) (hE:z4.length<4611686018427387904) :
 zBv z4 j1 fuel 0=zF2 z4 ()
 (fun ii xx ss kk=>
 (some xx).bind fun z10=>
 jn (fun (y12:Bool)=>
  (if y12=true then
   (some false)
   else
   (kk ()))) fun j2=>
 if ((z10).toNat:Int)<33 then
 (j2 (decide (((z10).toNat:Int)<33)))
 else
 (if ((z10).toNat:Int)>126 then
  (j2 (decide (((z10).toNat:Int)>126)))
  else
  (if ((z10).toNat:Int)=61 then
   (j2 (decide (((z10).toNat:Int)=61)))
   else
   (if ((z10).toNat:Int)=59 then
    (j2 (decide (((z10).toNat:Int)=59)))
    else
    (j2 (decide (((z10).toNat:Int)=44)))))))
 (fun ss=>
 j1 ()):=by
 have hh:=fun B J h=>zG5 z4 hE (fun nn (ss:Unit) (yy:Int)=>zBv z4 j1 nn yy) B J h ()
 have h0:(fun nn (ss:Unit) (yy:Int)=>zBv z4 j1 nn yy) fuel () 0=zBv z4 j1 fuel 0:=by dsimp only
 unfold zF2;refine h0.symm.trans (hh _ _ ?_);intro nn ss ii hi;show zBv z4 j1 (nn+1) ii=_;rw [zBv]
 by_cases h:ii<z4.length
 ·rw [if_pos (by omega),dif_pos h]
  simp only [zH2 h,zDo (show ii+1≤9223372036854775807 by omega)]
 ·rw [if_neg (by omega),dif_neg h]
set_option maxRecDepth 20000 in
theorem zF0 (x0:(List zA)) (x1_0:zA) (j1:Unit→Option Int) (hE:x0.length<4611686018427387904) :
 zAk x0 x1_0 j1 fuel 0=zF2 x0 ()
 (fun ii xx ss kk=>
 (some xx).bind fun z9=>
 (zHb z9 x1_0).bind fun p11=>
 if p11=true then
 (some (ii:Int))
 else
 (kk ()))
 (fun ss=>
 j1 ()):=by
 have hh:=fun B J h=>zG5 x0 hE (fun nn (ss:Unit) (yy:Int)=>zAk x0 x1_0 j1 nn yy) B J h ()
 have h0:(fun nn (ss:Unit) (yy:Int)=>zAk x0 x1_0 j1 nn yy) fuel () 0=zAk x0 x1_0 j1 fuel 0:=by dsimp only
 unfold zF2;refine h0.symm.trans (hh _ _ ?_);intro nn ss ii hi;show zAk x0 x1_0 j1 (nn+1) ii=_;rw [zAk]
 by_cases h:ii<x0.length
 ·rw [if_pos (by omega),dif_pos h]
  simp only [zH2 h,zDo (show ii+1≤9223372036854775807 by omega)]
 ·rw [if_neg (by omega),dif_neg h]
set_option maxRecDepth 20000 in
theorem zLa (x1:(List zA)) (j1:Unit→Option Int) (hE:x1.length<4611686018427387904) :
 zCc x1 j1 fuel 0=zF2 x1 ()
 (fun ii xx ss kk=>
 (some xx).bind fun z11=>
 (zEh z11.Key).bind fun p18=>
 jn (fun (y20:Bool)=>
  (if y20=true then
   (some 3)
   else
   ((zM2 x1 0 (ii:Int)).bind fun z23=>
    (zBj z23 z11).bind fun p25=>
    if p25=true then
    (some 8)
    else
    (kk ())))) fun j2=>
 if (!p18)=true then
 (j2 true)
 else
 ((zFc z11.Val).bind fun p29=>
  j2 (!p29)))
 (fun ss=>
 j1 ()):=by
 have hh:=fun B J h=>zG5 x1 hE (fun nn (ss:Unit) (yy:Int)=>zCc x1 j1 nn yy) B J h ()
 have h0:(fun nn (ss:Unit) (yy:Int)=>zCc x1 j1 nn yy) fuel () 0=zCc x1 j1 fuel 0:=by dsimp only
 unfold zF2;refine h0.symm.trans (hh _ _ ?_);intro nn ss ii hi;show zCc x1 j1 (nn+1) ii=_;rw [zCc]
 by_cases h:ii<x1.length
 ·rw [if_pos (by omega),dif_pos h]
  simp only [zH2 h,zDo (show ii+1≤9223372036854775807 by omega)]
 ·rw [if_neg (by omega),dif_neg h]
set_option maxRecDepth 20000 in
theorem zLy (z23:zA9) (j2:UInt64→UInt64→Option (UInt64×Bool)) (y32:UInt64) (y33:UInt64) (hE:z23.Counts.length<4611686018427387904) :
 zCd z23 j2 fuel y32 y33 0=zF2 z23.Counts (y32,y33)
 (fun ii xx ss kk=>
 (some xx).bind fun z37=>
 kk ((ss.1+z37),(ss.2|||(cry ss.1 z37))))
 (fun ss=>
 j2 ss.1 ss.2):=by
 have hh:=fun B J h=>zG5 z23.Counts hE (fun nn (ss:(UInt64)×(UInt64)) (yy:Int)=>zCd z23 j2 nn ss.1 ss.2 yy) B J h (y32,y33)
 have h0:(fun nn (ss:(UInt64)×(UInt64)) (yy:Int)=>zCd z23 j2 nn ss.1 ss.2 yy) fuel (y32,y33) 0=zCd z23 j2 fuel y32 y33 0:=by dsimp only
 unfold zF2;refine h0.symm.trans (hh _ _ ?_);intro nn ss ii hi;show zCd z23 j2 (nn+1) ss.1 ss.2 ii=_;rw [zCd]
 by_cases h:ii<z23.Counts.length
 ·rw [if_pos (by omega),dif_pos h]
  simp only [zH2 h,zDo (show ii+1≤9223372036854775807 by omega)]
 ·rw [if_neg (by omega),dif_neg h]
set_option maxRecDepth 20000 in
theorem zLx (p13:(List zA)) (j1:(List UInt8)→Option ((List UInt8)×Int)) (y23:(List UInt8)) (hE:p13.length<4611686018427387904) :
 zCb p13 j1 fuel 0 y23=zF2 p13 y23
 (fun ii xx ss kk=>
 (some xx).bind fun z27=>
 (catS ([59]:List UInt8) z27.Key).bind fun z31=>
 (catS z31 ([61]:List UInt8)).bind fun z32=>
 (catS z32 z27.Val).bind fun z33=>
 (zLr ss z33).bind fun z34=>
 kk z34)
 (fun ss=>
 j1 ss):=by
 have hh:=fun B J h=>zG5 p13 hE (fun nn (ss:((List UInt8))) (yy:Int)=>zCb p13 j1 nn yy ss) B J h y23
 have h0:(fun nn (ss:((List UInt8))) (yy:Int)=>zCb p13 j1 nn yy ss) fuel y23 0=zCb p13 j1 fuel 0 y23:=by dsimp only
 unfold zF2;refine h0.symm.trans (hh _ _ ?_);intro nn ss ii hi;show zCb p13 j1 (nn+1) ii ss=_;rw [zCb]
 by_cases h:ii<p13.length
 ·rw [if_pos (by omega),dif_pos h]
  simp only [zH2 h,zDo (show ii+1≤9223372036854775807 by omega)]
 ·rw [if_neg (by omega),dif_neg h]
set_option maxRecDepth 20000 in
theorem zJm (p43:(List UInt64)) (p46:(List UInt64)) (j3:zA2→Option (Int×zA4×zA2)) (y56:zA2) (hE:p46.length<4611686018427387904) :
 zBb p43 p46 j3 fuel 0 y56=zF2 p46 y56
 (fun ii xx ss kk=>
 (some xx).bind fun z59=>
 (idx p43 (ii:Int)).bind fun z60=>
 (zDq ss (W64 ((z59-z60).toNat:Int))).bind fun p61=>
 kk p61)
 (fun ss=>
 j3 ss):=by
 have hh:=fun B J h=>zG5 p46 hE (fun nn (ss:(zA2)) (yy:Int)=>zBb p43 p46 j3 nn yy ss) B J h y56
 have h0:(fun nn (ss:(zA2)) (yy:Int)=>zBb p43 p46 j3 nn yy ss) fuel y56 0=zBb p43 p46 j3 fuel 0 y56:=by dsimp only
 unfold zF2;refine h0.symm.trans (hh _ _ ?_);intro nn ss ii hi;show zBb p43 p46 j3 (nn+1) ii ss=_;rw [zBb]
 by_cases h:ii<p46.length
 ·rw [if_pos (by omega),dif_pos h]
  simp only [zH2 h,zDo (show ii+1≤9223372036854775807 by omega)]
 ·rw [if_neg (by omega),dif_neg h]
set_option maxRecDepth 20000 in
theorem zJl (p79:(List UInt64)) (j5:zA2→Option (Int×zA4×zA2)) (y87:zA2) (hE:p79.length<4611686018427387904) :
 zBa p79 j5 fuel 0 y87=zF2 p79 y87
 (fun ii xx ss kk=>
 (some xx).bind fun z90=>
 (zGa ss z90).bind fun p91=>
 kk p91)
 (fun ss=>
 j5 ss):=by
 have hh:=fun B J h=>zG5 p79 hE (fun nn (ss:(zA2)) (yy:Int)=>zBa p79 j5 nn yy ss) B J h y87
 have h0:(fun nn (ss:(zA2)) (yy:Int)=>zBa p79 j5 nn yy ss) fuel y87 0=zBa p79 j5 fuel 0 y87:=by dsimp only
 unfold zF2;refine h0.symm.trans (hh _ _ ?_);intro nn ss ii hi;show zBa p79 j5 (nn+1) ii ss=_;rw [zBa]
 by_cases h:ii<p79.length
 ·rw [if_pos (by omega),dif_pos h]
  simp only [zH2 h,zDo (show ii+1≤9223372036854775807 by omega)]
 ·rw [if_neg (by omega),dif_neg h]
set_option maxRecDepth 20000 in
theorem zKk (x0:(List zA)) (x1:(List UInt8)) (j1:Unit→Option Int) (hE:x0.length<4611686018427387904) :
 zBw x0 x1 j1 fuel 0=zF2 x0 ()
 (fun ii xx ss kk=>
 (some xx).bind fun z10=>
 if z10.Key=x1 then
 (some 8)
 else
 (kk ()))
 (fun ss=>
 j1 ()):=by
 have hh:=fun B J h=>zG5 x0 hE (fun nn (ss:Unit) (yy:Int)=>zBw x0 x1 j1 nn yy) B J h ()
 have h0:(fun nn (ss:Unit) (yy:Int)=>zBw x0 x1 j1 nn yy) fuel () 0=zBw x0 x1 j1 fuel 0:=by dsimp only
 unfold zF2;refine h0.symm.trans (hh _ _ ?_);intro nn ss ii hi;show zBw x0 x1 j1 (nn+1) ii=_;rw [zBw]
 by_cases h:ii<x0.length
 ·rw [if_pos (by omega),dif_pos h]
  simp only [zH2 h,zDo (show ii+1≤9223372036854775807 by omega)]
 ·rw [if_neg (by omega),dif_neg h]
set_option maxRecDepth 20000 in
theorem zHt (x0:(List zA)) (j1:Unit→Option Bool) (hE:x0.length<4611686018427387904) :
 zAy x0 j1 fuel 0=zF2 x0 ()
 (fun ii xx ss kk=>
 (some xx).bind fun z8=>
 jn (fun (y10:Bool)=>
  (if y10=true then
   (some false)
   else
   (kk ()))) fun j2=>
 if (z8.Key.length:Int)>100 then
 (j2 true)
 else
 ((some xx).bind fun z14=>
  j2 (decide ((z14.Val.length:Int)>100))))
 (fun ss=>
 j1 ()):=by
 have hh:=fun B J h=>zG5 x0 hE (fun nn (ss:Unit) (yy:Int)=>zAy x0 j1 nn yy) B J h ()
 have h0:(fun nn (ss:Unit) (yy:Int)=>zAy x0 j1 nn yy) fuel () 0=zAy x0 j1 fuel 0:=by dsimp only
 unfold zF2;refine h0.symm.trans (hh _ _ ?_);intro nn ss ii hi;show zAy x0 j1 (nn+1) ii=_;rw [zAy]
 by_cases h:ii<x0.length
 ·rw [if_pos (by omega),dif_pos h]
  simp only [zH2 h,zDo (show ii+1≤9223372036854775807 by omega)]
 ·rw [if_neg (by omega),dif_neg h]
set_option maxRecDepth 20000 in
theorem zIb (x0:(List UInt8)) (j1:Unit→Option Bool) (hE:x0.length<4611686018427387904) :
 zB3 x0 j1 fuel 0=zF2 x0 ()
 (fun ii xx ss kk=>
 (some xx).bind fun z8=>
 if (¬((((z8).toNat:Int)≥97)∧(((z8).toNat:Int)≤122)))∧(((ii:Int)=0)∨(¬((((((z8).toNat:Int)≥48)∧(((z8).toNat:Int)≤57))∨(((z8).toNat:Int)=95))∨(((z8).toNat:Int)=46)))) then
 (some false)
 else
 (kk ()))
 (fun ss=>
 j1 ()):=by
 have hh:=fun B J h=>zG5 x0 hE (fun nn (ss:Unit) (yy:Int)=>zB3 x0 j1 nn yy) B J h ()
 have h0:(fun nn (ss:Unit) (yy:Int)=>zB3 x0 j1 nn yy) fuel () 0=zB3 x0 j1 fuel 0:=by dsimp only
 unfold zF2;refine h0.symm.trans (hh _ _ ?_);intro nn ss ii hi;show zB3 x0 j1 (nn+1) ii=_;rw [zB3]
 by_cases h:ii<x0.length
 ·rw [if_pos (by omega),dif_pos h]
  simp only [zH2 h,zDo (show ii+1≤9223372036854775807 by omega)]
 ·rw [if_neg (by omega),dif_neg h]
set_option maxRecDepth 20000 in
theorem zHs (x0:(List UInt8)) (j1:Unit→Option Bool) (hE:x0.length<4611686018427387904) :
 zAx x0 j1 fuel 0=zF2 x0 ()
 (fun ii xx ss kk=>
 (some xx).bind fun z8=>
 if ((((((z8).toNat:Int)≤32)∨(((z8).toNat:Int)≥127))∨(((z8).toNat:Int)=61))∨(((z8).toNat:Int)=59))∨(((z8).toNat:Int)=44) then
 (some false)
 else
 (kk ()))
 (fun ss=>
 j1 ()):=by
 have hh:=fun B J h=>zG5 x0 hE (fun nn (ss:Unit) (yy:Int)=>zAx x0 j1 nn yy) B J h ()
 have h0:(fun nn (ss:Unit) (yy:Int)=>zAx x0 j1 nn yy) fuel () 0=zAx x0 j1 fuel 0:=by dsimp only
 unfold zF2;refine h0.symm.trans (hh _ _ ?_);intro nn ss ii hi;show zAx x0 j1 (nn+1) ii=_;rw [zAx]
 by_cases h:ii<x0.length
 ·rw [if_pos (by omega),dif_pos h]
  simp only [zH2 h,zDo (show ii+1≤9223372036854775807 by omega)]
 ·rw [if_neg (by omega),dif_neg h]
set_option maxRecDepth 20000 in
theorem zHu (x1:(List zA)) (j1:Unit→Option Int) (hE:x1.length<4611686018427387904) :
 zAz x1 j1 fuel 0=zF2 x1 ()
 (fun ii xx ss kk=>
 (some xx).bind fun z11=>
 (zCw z11.Key).bind fun p13=>
 jn (fun (y15:Bool)=>
  (if y15=true then
   (some 3)
   else
   (jn (fun (_:Unit)=>
    (kk ())) fun j3=>
    zBk x1 (ii:Int) j3 fuel 0))) fun j2=>
 if (!p13)=true then
 (j2 true)
 else
 ((some xx).bind fun z31=>
  (zDc z31.Val).bind fun p33=>
  j2 (!p33)))
 (fun ss=>
 j1 ()):=by
 have hh:=fun B J h=>zG5 x1 hE (fun nn (ss:Unit) (yy:Int)=>zAz x1 j1 nn yy) B J h ()
 have h0:(fun nn (ss:Unit) (yy:Int)=>zAz x1 j1 nn yy) fuel () 0=zAz x1 j1 fuel 0:=by dsimp only
 unfold zF2;refine h0.symm.trans (hh _ _ ?_);intro nn ss ii hi;show zAz x1 j1 (nn+1) ii=_;rw [zAz]
 by_cases h:ii<x1.length
 ·rw [if_pos (by omega),dif_pos h]
  simp only [zH2 h,zDo (show ii+1≤9223372036854775807 by omega)]
 ·rw [if_neg (by omega),dif_neg h]
set_option maxRecDepth 20000 in
theorem zH3 (x0:zA9) (x1:zA9) (j1:Unit→Option Bool) (hE:x0.Counts.length<4611686018427387904) :
 zAs x0 x1 j1 fuel 0=zF2 x0.Counts ()
 (fun ii xx ss kk=>
 (some xx).bind fun z21=>
 (idx x1.Counts (ii:Int)).bind fun z24=>
 if ((z21).toNat:Int)≠((z24).toNat:Int) then
 (some false)
 else
 (kk ()))
 (fun ss=>
 j1 ()):=by
 have hh:=fun B J h=>zG5 x0.Counts hE (fun nn (ss:Unit) (yy:Int)=>zAs x0 x1 j1 nn yy) B J h ()
 have h0:(fun nn (ss:Unit) (yy:Int)=>zAs x0 x1 j1 nn yy) fuel () 0=zAs x0 x1 j1 fuel 0:=by dsimp only
 unfold zF2;refine h0.symm.trans (hh _ _ ?_);intro nn ss ii hi;show zAs x0 x1 j1 (nn+1) ii=_;rw [zAs]
 by_cases h:ii<x0.Counts.length
 ·rw [if_pos (by omega),dif_pos h]
  simp only [zH2 h,zDo (show ii+1≤9223372036854775807 by omega)]
 ·rw [if_neg (by omega),dif_neg h]
set_option maxRecDepth 20000 in
theorem zIk (x1:(List UInt64)) (j1:UInt64→Option (UInt64×Bool)) (y5:UInt64) (hE:x1.length<4611686018427387904) :
 zB9 x1 j1 fuel y5 0=zF2 x1 y5
 (fun ii xx ss kk=>
 (some xx).bind fun z9=>
 if ((z9).toNat:Int)>(((18446744073709551615:UInt64)-ss).toNat:Int) then
 (some ((0:UInt64),false))
 else
 ((some xx).bind fun z12=>
  kk (ss+z12)))
 (fun ss=>
 j1 ss):=by
 have hh:=fun B J h=>zG5 x1 hE (fun nn (ss:(UInt64)) (yy:Int)=>zB9 x1 j1 nn ss yy) B J h y5
 have h0:(fun nn (ss:(UInt64)) (yy:Int)=>zB9 x1 j1 nn ss yy) fuel y5 0=zB9 x1 j1 fuel y5 0:=by dsimp only
 unfold zF2;refine h0.symm.trans (hh _ _ ?_);intro nn ss ii hi;show zB9 x1 j1 (nn+1) ss ii=_;rw [zB9]
 by_cases h:ii<x1.length
 ·rw [if_pos (by omega),dif_pos h]
  simp only [zH2 h,zDo (show ii+1≤9223372036854775807 by omega)]
 ·rw [if_neg (by omega),dif_neg h]
set_option maxRecDepth 20000 in
theorem zHh (x0:(List zA)) (j1:(List zA)→Option (List zA)) (y7:(List zA)) (hE:x0.length<4611686018427387904) :
 zAu x0 j1 fuel y7 0=zF2 x0 y7
 (fun ii xx ss kk=>
 jn (fun (y15:Int)=>
  ((zM2 ss 0 y15).bind fun z17=>
   (zLr ([]:List zA) z17).bind fun z21=>
   (some xx).bind fun z25=>
   (zLr z21 [z25]).bind fun z27=>
   (zM2 ss y15 ((ss).length)).bind fun z29=>
   (zLr z27 z29).bind fun z31=>
   kk z31)) fun j2=>
 zBg x0 ss (ii:Int) j2 fuel (ss.length:Int))
 (fun ss=>
 j1 ss):=by
 have hh:=fun B J h=>zG5 x0 hE (fun nn (ss:((List zA))) (yy:Int)=>zAu x0 j1 nn ss yy) B J h y7
 have h0:(fun nn (ss:((List zA))) (yy:Int)=>zAu x0 j1 nn ss yy) fuel y7 0=zAu x0 j1 fuel y7 0:=by dsimp only
 unfold zF2;refine h0.symm.trans (hh _ _ ?_);intro nn ss ii hi;show zAu x0 j1 (nn+1) ss ii=_;rw [zAu]
 by_cases h:ii<x0.length
 ·rw [if_pos (by omega),dif_pos h]
  simp only [zH2 h,zDo (show ii+1≤9223372036854775807 by omega)]
 ·rw [if_neg (by omega),dif_neg h]
set_option maxRecDepth 20000 in
theorem zIa (x0:(List zA)) (x1:(List zA)) (j1:Unit→Option Bool) (hE:x0.length<4611686018427387904) :
 zB2 x0 x1 j1 fuel 0=zF2 x0 ()
 (fun ii xx ss kk=>
 (some xx).bind fun z11=>
 (idx x1 (ii:Int)).bind fun z14=>
 if ¬(z11=z14) then
 (some false)
 else
 (kk ()))
 (fun ss=>
 j1 ()):=by
 have hh:=fun B J h=>zG5 x0 hE (fun nn (ss:Unit) (yy:Int)=>zB2 x0 x1 j1 nn yy) B J h ()
 have h0:(fun nn (ss:Unit) (yy:Int)=>zB2 x0 x1 j1 nn yy) fuel () 0=zB2 x0 x1 j1 fuel 0:=by dsimp only
 unfold zF2;refine h0.symm.trans (hh _ _ ?_);intro nn ss ii hi;show zB2 x0 x1 j1 (nn+1) ii=_;rw [zB2]
 by_cases h:ii<x0.length
 ·rw [if_pos (by omega),dif_pos h]
  simp only [zH2 h,zDo (show ii+1≤9223372036854775807 by omega)]
 ·rw [if_neg (by omega),dif_neg h]
end Go.Proofs.YthjhejgjcdajdaaGreatDoor
