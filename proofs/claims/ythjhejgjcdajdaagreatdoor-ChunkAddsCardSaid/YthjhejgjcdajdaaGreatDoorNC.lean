import Derived.Test.YthjhejgjcdajdaaGreatDoorVC2
set_option linter.unusedVariables false
set_option linter.unusedSimpArgs false
namespace Go.Proofs.YthjhejgjcdajdaaGreatDoor
open Go Go.RowKit Go.Wk
def gt3 : List UInt8:=[0,1,56,2,57,49,28,3,61,58,42,50,38,29,17,4,62,47,59,36,45,43,51,22,53,39,33,30,24,18,12,5,63,55,48,27,60,41,37,16,46,35,44,21,52,32,23,11,54,26,40,15,34,20,31,10,25,14,19,9,13,8,7,6]
structure zA where
  Key : (List UInt8)
  Val : (List UInt8)
  deriving DecidableEq
def zA.rep : Rep zA:=Rep.map (fun x=>(x.Key,x.Val)) (Rep.two zV0 zV0)
theorem zA.flat : zA.rep.Flat:=zL5 _ (zFh zS0 zS0)
structure zAd where
  Offset : Int
  Counts : (List UInt64)
  deriving DecidableEq
def zAd.rep : Rep zAd:=Rep.map (fun x=>(x.Offset,x.Counts)) (Rep.two (zDd .i64) (Rep.sl zAp))
structure zA2 where
  Scale : Int
  Zero : UInt64
  Pos : zAd
  Neg : zAd
  deriving DecidableEq
def zA2.rep : Rep zA2:=Rep.map (fun x=>(x.Scale,(x.Zero,(x.Pos,x.Neg)))) (Rep.two (zDd .i64) (Rep.two zAp (Rep.two zAd.rep zAd.rep)))
structure zA9 where
  Name : (List UInt8)
  Attrs : (List zA)
  Kind : Int
  Temp : Int
  Mono : Bool
  Start : Int
  Time : Int
  Int_ : Int
  Re : UInt64
  Im : UInt64
  Hist : zA2
  Flags : Int
  deriving DecidableEq
def zA9.rep : Rep zA9:=Rep.map (fun x=>(x.Name,(x.Attrs,(x.Kind,(x.Temp,(x.Mono,(x.Start,(x.Time,(x.Int_,(x.Re,(x.Im,(x.Hist,x.Flags)))))))))))) (Rep.two zV0 (Rep.two (Rep.sl zA.rep) (Rep.two (zDd .i64) (Rep.two (zDd .i64) (Rep.two zbm (Rep.two (zDd .i64) (Rep.two (zDd .i64) (Rep.two (zDd .i64) (Rep.two zAp (Rep.two zAp (Rep.two zA2.rep (zDd .i64))))))))))))
structure zA8 where
  Ord : Int
  Point : zA9
  deriving DecidableEq
def zA8.rep : Rep zA8:=Rep.map (fun x=>(x.Ord,x.Point)) (Rep.two (zDd .i64) zA9.rep)
structure zFg where
  a0 : zAd
  a1 : zAd
  deriving DecidableEq
def zFg.rep : Rep zFg:=Rep.map (fun x=>(x.a0,x.a1)) (Rep.two zAd.rep zAd.rep)
structure zA0 where
  b : (List UInt8)
  n : Int
  deriving DecidableEq
def zA0.rep : Rep zA0:=Rep.map (fun x=>(x.b,x.n)) (Rep.two (Rep.sl zCa) (zDd .i64))
structure zA5 where
  n : Int
  last : UInt64
  step : UInt64
  deriving DecidableEq
def zA5.rep : Rep zA5:=Rep.map (fun x=>(x.n,(x.last,x.step))) (Rep.two (zDd .i64) (Rep.two zAp zAp))
theorem zA5.flat : zA5.rep.Flat:=zL5 _ (zFh (zBe _) (zFh zD8 zD8))
structure zBb where
  ahead : Int
  size : Int
  deriving DecidableEq
def zBb.rep : Rep zBb:=Rep.map (fun x=>(x.ahead,x.size)) (Rep.two (zDd .i64) (zDd .i64))
theorem zBb.flat : zBb.rep.Flat:=zL5 _ (zFh (zBe _) (zBe _))
structure zAg where
  n : Int
  last : UInt64
  win : zBb
  deriving DecidableEq
def zAg.rep : Rep zAg:=Rep.map (fun x=>(x.n,(x.last,x.win))) (Rep.two (zDd .i64) (Rep.two zAp zBb.rep))
theorem zAg.flat : zAg.rep.Flat:=zL5 _ (zFh (zBe _) (zFh zD8 zBb.flat))
structure zA6 where
  n : Int
  last : zA2
  deriving DecidableEq
def zA6.rep : Rep zA6:=Rep.map (fun x=>(x.n,x.last)) (Rep.two (zDd .i64) zA2.rep)
structure zAt where
  ords : zA5
  times : zA5
  spans : zA5
  ints : zA5
  re : zAg
  im : zAg
  hists : zA6
  deriving DecidableEq
structure zA7 where
  key : (List UInt8)
  most : Int
  n : Int
  last : Int
  w : zA0
  rows : zAt
  deriving DecidableEq
structure zIc where
  a0 : Int
  a1 : Int
  a2 : Int
  a3 : Int
  deriving DecidableEq
def zIc.rep : Rep zIc:=Rep.map (fun x=>(x.a0,(x.a1,(x.a2,x.a3)))) (Rep.two (zDd .i64) (Rep.two (zDd .i64) (Rep.two (zDd .i64) (zDd .i64))))
theorem zIc.flat : zIc.rep.Flat:=zL5 _ (zFh (zBe _) (zFh (zBe _) (zFh (zBe _) (zBe _))))
structure zIb where
  a0 : Int
  a1 : Int
  a2 : Int
  a3 : Int
  a4 : Int
  deriving DecidableEq
def zIb.rep : Rep zIb:=Rep.map (fun x=>(x.a0,(x.a1,(x.a2,(x.a3,x.a4))))) (Rep.two (zDd .i64) (Rep.two (zDd .i64) (Rep.two (zDd .i64) (Rep.two (zDd .i64) (zDd .i64)))))
theorem zIb.flat : zIb.rep.Flat:=zL5 _ (zFh (zBe _) (zFh (zBe _) (zFh (zBe _) (zFh (zBe _) (zBe _)))))
structure zCy where
  scale : Int
  posAt : Int
  posSize : Int
  negAt : Int
  negSize : Int
  deriving DecidableEq
def zCy.rep : Rep zCy:=Rep.map (fun x=>(x.scale,(x.posAt,(x.posSize,(x.negAt,x.negSize))))) (Rep.two (zDd .i64) (Rep.two (zDd .i64) (Rep.two (zDd .i64) (Rep.two (zDd .i64) (zDd .i64)))))
theorem zCy.flat : zCy.rep.Flat:=zL5 _ (zFh (zBe _) (zFh (zBe _) (zFh (zBe _) (zFh (zBe _) (zBe _)))))
structure zAb where
  b : (List UInt8)
  deriving DecidableEq
def zAb.rep : Rep zAb:=Rep.map (fun x=>x.b) (Rep.sl zCa)
structure zAa where
  b : (List UInt8)
  at_ : Int
  e : Int
  deriving DecidableEq
def zAa.rep : Rep zAa:=Rep.map (fun x=>(x.b,(x.at_,x.e))) (Rep.two (Rep.sl zCa) (Rep.two (zDd .i64) (zDd .i64)))
structure zA3 where
  b : (List UInt8)
  n : Int
  at_ : Int
  deriving DecidableEq
def zA3.rep : Rep zA3:=Rep.map (fun x=>(x.b,(x.n,x.at_))) (Rep.two (Rep.sl zCa) (Rep.two (zDd .i64) (zDd .i64)))
structure zAf where
  r : zA3
  rows : zAt
  e : Int
  deriving DecidableEq
structure zAj where
  From : Int
  Size : Int
  deriving DecidableEq
def zAj.rep : Rep zAj:=Rep.map (fun x=>(x.From,x.Size)) (Rep.two (zDd .i64) (zDd .i64))
theorem zAj.flat : zAj.rep.Flat:=zL5 _ (zFh (zBe _) (zBe _))
structure zAc where
  L : (List UInt64)
  W : zAj
  deriving DecidableEq
def zAc.rep : Rep zAc:=Rep.map (fun x=>(x.L,x.W)) (Rep.two (Rep.sl zAp) zAj.rep)
def zA0.sh (b : Nat) (x : zA0) : List Rs → Prop:=fun L=>∃ (A1_0 : Option Addr) (c1_0 : Nat),L = [zAr b 172 [.slice A1_0 (x.b).length c1_0,iv x.n],zBd 5 A1_0 c1_0 zCa x.b]
def zA0.obj (F : Nat → Prop) (b : Nat) (x : zA0) : Rs:=zTa F (zA0.sh b x)
theorem zA0.oflat (F : Nat → Prop) (b : Nat) (x : zA0) : (zA0.obj F b x).Flat:=zKa fun L hL=>by
  obtain ⟨_,_,rfl⟩:=hL;exact (flC (zE _ _ _) (flC (zAl zE9 _ _ _ _) fl0))
def zA6.sh (b : Nat) (x : zA6) : List Rs → Prop:=fun L=>∃ (A1_0 : Option Addr) (c1_0 : Nat) (A1_1 : Option Addr) (c1_1 : Nat),L = [zAr b 192 [iv x.n,iv x.last.Scale,zAo x.last.Zero,iv x.last.Pos.Offset,.slice A1_0 (x.last.Pos.Counts).length c1_0,iv x.last.Neg.Offset,.slice A1_1 (x.last.Neg.Counts).length c1_1],zBd 35 A1_0 c1_0 zAp x.last.Pos.Counts,zBd 35 A1_1 c1_1 zAp x.last.Neg.Counts]
def zA6.obj (F : Nat → Prop) (b : Nat) (x : zA6) : Rs:=zTa F (zA6.sh b x)
theorem zA6.oflat (F : Nat → Prop) (b : Nat) (x : zA6) : (zA6.obj F b x).Flat:=zKa fun L hL=>by
  obtain ⟨_,_,_,_,rfl⟩:=hL;exact (flC (zE _ _ _) (flC (zAl zD8 _ _ _ _) (flC (zAl zD8 _ _ _ _) fl0)))
def zA5.sh (b : Nat) (x : zA5) : List Rs → Prop:=fun L=>L = [zAr b 186 [iv x.n,zAo x.last,zAo x.step]]
def zA5.obj (F : Nat → Prop) (b : Nat) (x : zA5) : Rs:=zTa F (zA5.sh b x)
theorem zA5.oflat (F : Nat → Prop) (b : Nat) (x : zA5) : (zA5.obj F b x).Flat:=zKa fun L hL=>by
  obtain rfl:=hL;exact (flC (zE _ _ _) fl0)
def zAg.sh (b : Nat) (x : zAg) : List Rs → Prop:=fun L=>L = [zAr b 190 [iv x.n,zAo x.last,iv x.win.ahead,iv x.win.size]]
def zAg.obj (F : Nat → Prop) (b : Nat) (x : zAg) : Rs:=zTa F (zAg.sh b x)
theorem zAg.oflat (F : Nat → Prop) (b : Nat) (x : zAg) : (zAg.obj F b x).Flat:=zKa fun L hL=>by
  obtain rfl:=hL;exact (flC (zE _ _ _) fl0)
def zA7.sh (b : Nat) (x : zA7) : List Rs → Prop:=fun L=>∃ (F1_0 : (Nat → Prop)) (b1_0 : Nat) (F1_1 : (Nat → Prop)) (b1_1 : Nat) (F1_2 : (Nat → Prop)) (b1_2 : Nat) (F1_3 : (Nat → Prop)) (b1_3 : Nat) (F1_4 : (Nat → Prop)) (b1_4 : Nat) (F1_5 : (Nat → Prop)) (b1_5 : Nat) (F1_6 : (Nat → Prop)) (b1_6 : Nat) (F1_7 : (Nat → Prop)) (b1_7 : Nat),L = [zAr b 122 [Str (x.key),iv x.most,iv x.n,iv x.last,pt b1_0 0,pt b1_1 0,pt b1_2 0,pt b1_3 0,pt b1_4 0,pt b1_5 0,pt b1_6 0,pt b1_7 0],zA0.obj F1_0 b1_0 x.w,zA5.obj F1_1 b1_1 x.rows.ords,zA5.obj F1_2 b1_2 x.rows.times,zA5.obj F1_3 b1_3 x.rows.spans,zA5.obj F1_4 b1_4 x.rows.ints,zAg.obj F1_5 b1_5 x.rows.re,zAg.obj F1_6 b1_6 x.rows.im,zA6.obj F1_7 b1_7 x.rows.hists]
def zA7.obj (F : Nat → Prop) (b : Nat) (x : zA7) : Rs:=zTa F (zA7.sh b x)
theorem zA7.oflat (F : Nat → Prop) (b : Nat) (x : zA7) : (zA7.obj F b x).Flat:=zKa fun L hL=>by
  obtain ⟨_,_,_,_,_,_,_,_,_,_,_,_,_,_,_,_,rfl⟩:=hL;exact (flC (zE _ _ _) (flC (zA0.oflat _ _ _) (flC (zA5.oflat _ _ _) (flC (zA5.oflat _ _ _) (flC (zA5.oflat _ _ _) (flC (zA5.oflat _ _ _) (flC (zAg.oflat _ _ _) (flC (zAg.oflat _ _ _) (flC (zA6.oflat _ _ _) fl0)))))))))
def zAt.sh (b : Nat) (x : zAt) : List Rs → Prop:=fun L=>∃ (F1_0 : (Nat → Prop)) (b1_0 : Nat) (F1_1 : (Nat → Prop)) (b1_1 : Nat) (F1_2 : (Nat → Prop)) (b1_2 : Nat) (F1_3 : (Nat → Prop)) (b1_3 : Nat) (F1_4 : (Nat → Prop)) (b1_4 : Nat) (F1_5 : (Nat → Prop)) (b1_5 : Nat) (F1_6 : (Nat → Prop)) (b1_6 : Nat),L = [zAr b 80 [pt b1_0 0,pt b1_1 0,pt b1_2 0,pt b1_3 0,pt b1_4 0,pt b1_5 0,pt b1_6 0],zA5.obj F1_0 b1_0 x.ords,zA5.obj F1_1 b1_1 x.times,zA5.obj F1_2 b1_2 x.spans,zA5.obj F1_3 b1_3 x.ints,zAg.obj F1_4 b1_4 x.re,zAg.obj F1_5 b1_5 x.im,zA6.obj F1_6 b1_6 x.hists]
def zAt.obj (F : Nat → Prop) (b : Nat) (x : zAt) : Rs:=zTa F (zAt.sh b x)
theorem zAt.oflat (F : Nat → Prop) (b : Nat) (x : zAt) : (zAt.obj F b x).Flat:=zKa fun L hL=>by
  obtain ⟨_,_,_,_,_,_,_,_,_,_,_,_,_,_,rfl⟩:=hL;exact (flC (zE _ _ _) (flC (zA5.oflat _ _ _) (flC (zA5.oflat _ _ _) (flC (zA5.oflat _ _ _) (flC (zA5.oflat _ _ _) (flC (zAg.oflat _ _ _) (flC (zAg.oflat _ _ _) (flC (zA6.oflat _ _ _) fl0))))))))
def zAb.sh (b : Nat) (x : zAb) : List Rs → Prop:=fun L=>∃ (A1_0 : Option Addr) (c1_0 : Nat),L = [zAr b 179 [.slice A1_0 (x.b).length c1_0],zBd 5 A1_0 c1_0 zCa x.b]
def zAb.obj (F : Nat → Prop) (b : Nat) (x : zAb) : Rs:=zTa F (zAb.sh b x)
theorem zAb.oflat (F : Nat → Prop) (b : Nat) (x : zAb) : (zAb.obj F b x).Flat:=zKa fun L hL=>by
  obtain ⟨_,_,rfl⟩:=hL;exact (flC (zE _ _ _) (flC (zAl zE9 _ _ _ _) fl0))
def zAa.sh (b : Nat) (x : zAa) : List Rs → Prop:=fun L=>∃ (A1_0 : Option Addr) (c1_0 : Nat),L = [zAr b 134 [.slice A1_0 (x.b).length c1_0,iv x.at_,iv x.e],slR A1_0 c1_0 zCa x.b]
def zAa.obj (F : Nat → Prop) (b : Nat) (x : zAa) : Rs:=zTa F (zAa.sh b x)
def zA3.sh (b : Nat) (x : zA3) : List Rs → Prop:=fun L=>∃ (A1_0 : Option Addr) (c1_0 : Nat),L = [zAr b 139 [.slice A1_0 (x.b).length c1_0,iv x.n,iv x.at_],slR A1_0 c1_0 zCa x.b]
def zA3.obj (F : Nat → Prop) (b : Nat) (x : zA3) : Rs:=zTa F (zA3.sh b x)
def zAf.sh (b : Nat) (p0 : Nat) (x : zAf) : List Rs → Prop:=fun L=>∃ (F1_0 : (Nat → Prop)) (F1_1 : (Nat → Prop)) (b1_1 : Nat) (F1_2 : (Nat → Prop)) (b1_2 : Nat) (F1_3 : (Nat → Prop)) (b1_3 : Nat) (F1_4 : (Nat → Prop)) (b1_4 : Nat) (F1_5 : (Nat → Prop)) (b1_5 : Nat) (F1_6 : (Nat → Prop)) (b1_6 : Nat) (F1_7 : (Nat → Prop)) (b1_7 : Nat),L = [zAr b 83 [pt p0 0,pt b1_1 0,pt b1_2 0,pt b1_3 0,pt b1_4 0,pt b1_5 0,pt b1_6 0,pt b1_7 0,iv x.e],zA3.obj F1_0 p0 x.r,zA5.obj F1_1 b1_1 x.rows.ords,zA5.obj F1_2 b1_2 x.rows.times,zA5.obj F1_3 b1_3 x.rows.spans,zA5.obj F1_4 b1_4 x.rows.ints,zAg.obj F1_5 b1_5 x.rows.re,zAg.obj F1_6 b1_6 x.rows.im,zA6.obj F1_7 b1_7 x.rows.hists]
def zAf.obj (F : Nat → Prop) (b : Nat) (p0 : Nat) (x : zAf) : Rs:=zTa F (zAf.sh b p0 x)
def zHl (x0 : UInt8) : Option Bool:=
  some (decide ((((x0).toNat : Int) ≥ 97) ∧ (((x0).toNat : Int) ≤ 122)))
def zCn (z6 : (List UInt8)) (j2 : Unit → Option Bool) : Nat → Int → Option Bool
  | 0,_=>none
  | n + 1,y9=>
    if y9 < (z6.length : Int) then
    ((idx z6 y9).bind fun z12=>
      (zHl z12).bind fun p14=>
      if ((((!p14) = true) ∧ ((((z12).toNat : Int) < 48) ∨ (((z12).toNat : Int) > 57))) ∧ (((z12).toNat : Int) ≠ 95)) ∧ (((z12).toNat : Int) ≠ 46) then
      (some false)
      else
      (zCn z6 j2 n (W64 (y9 + 1))))
    else
    (j2 ())
def zG5 (x0 : (List UInt8)) : Option Bool:=
  jn (fun (y3 : Bool)=>
    (if y3 = true then
      (some false)
      else
      ((lenS x0).bind fun z6=>
        jn (fun (_ : Unit)=>
          (some true)) fun j2=>
        zCn z6 j2 fuel 0))) fun j1=>
  if (x0 = ([] : List UInt8)) ∨ ((x0.length : Int) > 32) then
  (j1 true)
  else
  ((idx x0 0).bind fun z26=>
    (zHl z26).bind fun p27=>
    j1 (!p27))
def zCi (z4 : (List UInt8)) (j1 : Unit → Option Bool) : Nat → Int → Option Bool
  | 0,_=>none
  | n + 1,y7=>
    if y7 < (z4.length : Int) then
    ((idx z4 y7).bind fun z10=>
      jn (fun (y12 : Bool)=>
        (if y12 = true then
          (some false)
          else
          (zCi z4 j1 n (W64 (y7 + 1))))) fun j2=>
      if ((z10).toNat : Int) < 33 then
      (j2 (decide (((z10).toNat : Int) < 33)))
      else
      (if ((z10).toNat : Int) > 126 then
        (j2 (decide (((z10).toNat : Int) > 126)))
        else
        (if ((z10).toNat : Int) = 61 then
          (j2 (decide (((z10).toNat : Int) = 61)))
          else
          (if ((z10).toNat : Int) = 59 then
            (j2 (decide (((z10).toNat : Int) = 59)))
            else
            (j2 (decide (((z10).toNat : Int) = 44)))))))
    else
    (j1 ())
def zHa (x0 : (List UInt8)) : Option Bool:=
  if (x0 = ([] : List UInt8)) ∨ ((x0.length : Int) > 32) then
  (some false)
  else
  ((lenS x0).bind fun z4=>
    jn (fun (_ : Unit)=>
      (some true)) fun j1=>
    zCi z4 j1 fuel 0)
def zIi (x0 : zA) (x1 : zA) : Option Bool:=
  some (decide (x0.Key = x1.Key))
def zAk (x0 : (List zA)) (x1_0 : zA) (j1 : Unit → Option Int) : Nat → Int → Option Int
  | 0,_=>none
  | n + 1,y6=>
    if y6 < (x0.length : Int) then
    ((idx x0 y6).bind fun z9=>
      (zIi z9 x1_0).bind fun p11=>
      if p11 = true then
      (some y6)
      else
      (zAk x0 x1_0 j1 n (W64 (y6 + 1))))
    else
    (j1 ())
def zD3 (x0 : (List zA)) (x1_0 : zA) : Option Int:=
  jn (fun (_ : Unit)=>
    (some (-1))) fun j1=>
  zAk x0 x1_0 j1 fuel 0
def zBt (x0 : (List zA)) (x1_0 : zA) : Option Bool:=
  (zD3 x0 x1_0).bind fun p5=>
  some (decide (p5 ≥ 0))
def zCw (x1 : (List zA)) (j1 : Unit → Option Int) : Nat → Int → Option Int
  | 0,_=>none
  | n + 1,y8=>
    if y8 < (x1.length : Int) then
    ((idx x1 y8).bind fun z11=>
      (zG5 z11.Key).bind fun p18=>
      jn (fun (y20 : Bool)=>
        (if y20 = true then
          (some 3)
          else
          ((zNx x1 0 y8).bind fun z23=>
            (zBt z23 z11).bind fun p25=>
            if p25 = true then
            (some 8)
            else
            (zCw x1 j1 n (W64 (y8 + 1)))))) fun j2=>
      if (!p18) = true then
      (j2 true)
      else
      ((zHa z11.Val).bind fun p29=>
        j2 (!p29)))
    else
    (j1 ())
def zIj (x0 : (List UInt8)) (x1 : (List zA)) : Option Int:=
  (zG5 x0).bind fun p3=>
  if (!p3) = true then
  (some 3)
  else
  (if (x1.length : Int) > 4 then
    (some 4)
    else
    (jn (fun (_ : Unit)=>
        (some 0)) fun j1=>
      zCw x1 j1 fuel 0))
def zK1 (x0 : zA9) : Option Bool:=
  if x0.Kind = 3 then
  (some (decide (x0.Temp = 0)))
  else
  (jn (fun (y14 : Bool)=>
      (if y14 = true then
        (some (decide ((x0.Temp = 1) ∨ (x0.Temp = 2))))
        else
        (some false))) fun j1=>
    if x0.Kind = 1 then
    (j1 (decide (x0.Kind = 1)))
    else
    (if x0.Kind = 2 then
      (j1 (decide (x0.Kind = 2)))
      else
      (if x0.Kind = 4 then
        (j1 (decide (x0.Kind = 4)))
        else
        (j1 (decide (x0.Kind = 5))))))
def zO5 (x0 : zA9) : Option Bool:=
  some (decide ((x0.Kind = 1) ∨ (x0.Kind = 2)))
def zK0 (x0 : zA9) : Option Bool:=
  if (x0.Start < 0) ∨ (x0.Time > 4503599627370496) then
  (some false)
  else
  (if x0.Kind = 3 then
    (some (decide (x0.Start = x0.Time)))
    else
    (some (decide (x0.Start < x0.Time))))
def zL7 (x0 : zA2) : Option Bool:=
  jn (fun (y16 : Bool)=>
    (some y16)) fun j1=>
  if (((x0.Scale = 0) ∧ (((x0.Zero).toNat : Int) = 0)) ∧ (x0.Pos.Offset = 0)) ∧ (x0.Neg.Offset = 0) then
  (j1 (decide (W64 ((x0.Pos.Counts.length : Int) + (x0.Neg.Counts.length : Int)) = 0)))
  else
  (j1 false)
def zMb (x0 : zA9) : Option Bool:=
  jn (fun (y19 : Bool)=>
    (if y19 = true then
      (some false)
      else
      (some true))) fun j1=>
  if (x0.Kind ≠ 1) ∧ (x0.Int_ ≠ 0) then
  (j1 (decide ((x0.Kind ≠ 1) ∧ (x0.Int_ ≠ 0))))
  else
  (if (¬ (((x0.Kind = 2) ∨ (x0.Kind = 3)) ∨ (x0.Kind = 5))) ∧ (((x0.Re).toNat : Int) ≠ 0) then
    (j1 (decide ((¬ (((x0.Kind = 2) ∨ (x0.Kind = 3)) ∨ (x0.Kind = 5))) ∧ (((x0.Re).toNat : Int) ≠ 0))))
    else
    (if (x0.Kind ≠ 5) ∧ (((x0.Im).toNat : Int) ≠ 0) then
      (j1 (decide ((x0.Kind ≠ 5) ∧ (((x0.Im).toNat : Int) ≠ 0))))
      else
      (jn (fun (y29 : Bool)=>
          (if y29 = true then
            (j1 y29)
            else
            (j1 (decide ((x0.Flags < 0) ∨ (x0.Flags > 31)))))) fun j2=>
        if x0.Kind ≠ 4 then
        ((zL7 x0.Hist).bind fun p35=>
          j2 (!p35))
        else
        (j2 false))))
def zLb (x0 : UInt64) : Option Bool:=
  some (decide (((x0 &&& (9218868437227405312 : UInt64)).toNat : Int) ≠ 9218868437227405312))
def zPs (x0 : UInt64) : Option UInt64:=
  some x0
def zNo (x0 : UInt64) (x1 : UInt64) : Option Bool:=
  (zPs x0).bind fun p1=>
  (zPs x1).bind fun p3=>
  some (zXs p1 p3)
def zJl (x0 : zA2) : Option zFg:=
  some ({ a0:=x0.Pos,a1:=x0.Neg } : zFg)
def zLc (x0 : zAd) : Option Int:=
  if (x0.Counts.length : Int) > 160 then
  (some 4)
  else
  (if ((x0.Counts.length : Int) = 0) ∧ (x0.Offset ≠ 0) then
    (some 3)
    else
    (if (x0.Counts.length : Int) = 0 then
      (some 0)
      else
      ((idx x0.Counts 0).bind fun z12=>
        jn (fun (y14 : Bool)=>
          (if y14 = true then
            (some 3)
            else
            (jn (fun (y17 : Bool)=>
                (if y17 = true then
                  (some 1)
                  else
                  (some 0))) fun j2=>
              if x0.Offset < (-1073741824) then
              (j2 true)
              else
              (j2 (decide (x0.Offset > W64 (1073741824 - (W64 ((x0.Counts.length : Int) - 1))))))))) fun j1=>
        if ((z12).toNat : Int) = 0 then
        (j1 true)
        else
        ((idx x0.Counts (W64 ((x0.Counts.length : Int) - 1))).bind fun z22=>
          j1 (decide (((z22).toNat : Int) = 0))))))
def zCx (z23 : zAd) (j2 : UInt64 → UInt64 → Option (UInt64 × Bool)) : Nat → UInt64 → UInt64 → Int → Option (UInt64 × Bool)
  | 0,_,_,_=>none
  | n + 1,y32,y33,y34=>
    if y34 < (z23.Counts.length : Int) then
    ((idx z23.Counts y34).bind fun z37=>
      zCx z23 j2 n (y32 + z37) (y33 ||| (cry y32 z37)) (W64 (y34 + 1)))
    else
    (j2 y32 y33)
def zDi (p10 : zFg) (j1 : UInt64 → UInt64 → Option (UInt64 × Bool)) : Nat → UInt64 → UInt64 → Int → Option (UInt64 × Bool)
  | 0,_,_,_=>none
  | n + 1,y18,y19,y20=>
    if y20 < 2 then
    ((idx ([p10.a0,p10.a1] : List zAd) y20).bind fun z23=>
      jn (fun (y29 : UInt64) (y30 : UInt64)=>
        (zDi p10 j1 n y29 y30 (W64 (y20 + 1)))) fun j2=>
      zCx z23 j2 fuel y18 y19 0)
    else
    (j1 y18 y19)
def zLd (x0 : zA2) : Option (UInt64 × Bool):=
  (zJl x0).bind fun p10=>
  jn (fun (y14 : UInt64) (y15 : UInt64)=>
    (if ((y15).toNat : Int) ≠ 0 then
      (some ((0 : UInt64),false))
      else
      (some (y14,true)))) fun j1=>
  zDi p10 j1 fuel x0.Zero (0 : UInt64) 0
def zEk (p13 : zFg) (j1 : Unit → Option Int) : Nat → Int → Option Int
  | 0,_=>none
  | n + 1,y21=>
    if y21 < 2 then
    ((idx ([p13.a0,p13.a1] : List zAd) y21).bind fun z24=>
      (zLc z24).bind fun p30=>
      if p30 ≠ 0 then
      (some p30)
      else
      (zEk p13 j1 n (W64 (y21 + 1))))
    else
    (j1 ())
def zJm (x0 : zA2) : Option Int:=
  if (x0.Scale < (-10)) ∨ (x0.Scale > 20) then
  (some 1)
  else
  ((zJl x0).bind fun p13=>
    jn (fun (_ : Unit)=>
      ((zLd x0).bind fun p18=>
        if (!p18.2) = true then
        (some 4)
        else
        (some 0))) fun j1=>
    zEk p13 j1 fuel 0)
def zHk (x0 : zA9) : Option Int:=
  (zIj x0.Name x0.Attrs).bind fun p13=>
  if p13 ≠ 0 then
  (some p13)
  else
  ((zK1 x0).bind fun p16=>
    if (!p16) = true then
    (some 14)
    else
    (jn (fun (y19 : Bool)=>
        (jn (fun (y21 : Bool)=>
            (if y21 = true then
              (some 1)
              else
              ((zMb x0).bind fun p24=>
                if (!p24) = true then
                (some 3)
                else
                (jn (fun (y29 : Bool)=>
                    (if y29 = true then
                      (some 11)
                      else
                      (jn (fun (y32 : Bool)=>
                          (if y32 = true then
                            (some 1)
                            else
                            (if x0.Kind = 4 then
                              ((zJm x0.Hist).bind fun p36=>
                                some p36)
                              else
                              (some 0)))) fun j4=>
                        if x0.Mono = true then
                        (jn (fun (y39 : Bool)=>
                            (j4 y39)) fun j5=>
                          if x0.Int_ < 0 then
                          (j5 true)
                          else
                          ((zNo x0.Re (0 : UInt64)).bind fun p42=>
                            j5 p42))
                        else
                        (j4 false)))) fun j3=>
                  if (x0.Mono = true) ∧ (x0.Kind = 2) then
                  ((zLb x0.Re).bind fun p45=>
                    j3 (!p45))
                  else
                  (j3 false))))) fun j2=>
          if y19 = true then
          (j2 y19)
          else
          ((zK0 x0).bind fun p48=>
            j2 (!p48)))) fun j1=>
      if x0.Mono = true then
      ((zO5 x0).bind fun p51=>
        j1 (!p51))
      else
      (j1 false)))
def zD2 (x0 : (List zA)) : Option (List zA):=
  zDn [] x0
def zH0 (x0 : (List UInt8)) : Option Bool:=
  some (decide (x0 ≠ x0))
def zHu (x0 : (List UInt8)) (x1 : (List UInt8)) : Option Int:=
  (zH0 x0).bind fun p1=>
  (zH0 x1).bind fun p3=>
  if p1 = true then
  (if p3 = true then
    (some 0)
    else
    (some (-1)))
  else
  (if p3 = true then
    (some 1)
    else
    (if (Op.bytesLess x0 x1) = true then
      (some (-1))
      else
      (if (Op.bytesLess x1 x0) = true then
        (some 1)
        else
        (some 0))))
def zEs (x0 : zA) (x1 : zA) : Option Int:=
  (zHu x0.Key x1.Key).bind fun p7=>
  some p7
def zAq (x1 : Int) (j2 : (List zA) → Option (List zA)) : Nat → (List zA) → Int → Option (List zA)
  | 0,_,_=>none
  | n + 1,y10,y11=>
    jn (fun (y13 : Bool)=>
      (if y13 = true then
        ((idx y10 (W64 (y11 - 1))).bind fun z17=>
          (idx y10 y11).bind fun z18=>
          (idx y10 y11).bind fun z20=>
          (idx (zK9 y10 y11 z17) (W64 (y11 - 1))).bind fun z22=>
          zAq x1 j2 n (zK9 (zK9 y10 y11 z17) (W64 (y11 - 1)) z18) (W64 (y11 - 1)))
        else
        (j2 y10))) fun j3=>
    if y11 > x1 then
    ((idx y10 y11).bind fun z30=>
      (idx y10 (W64 (y11 - 1))).bind fun z31=>
      (zEs z30 z31).bind fun p32=>
      j3 (decide (p32 < 0)))
    else
    (j3 false)
def zAm (x1 : Int) (x2 : Int) (j1 : (List zA) → Option (List zA)) : Nat → (List zA) → Int → Option (List zA)
  | 0,_,_=>none
  | n + 1,y4,y5=>
    if y5 < x2 then
    (jn (fun (y8 : (List zA))=>
        (zAm x1 x2 j1 n y8 (W64 (y5 + 1)))) fun j2=>
      zAq x1 j2 fuel y4 y5)
    else
    (j1 y4)
def zB8 (x0 : (List zA)) (x1 : Int) (x2 : Int) : Option (List zA):=
  jn (fun (y2 : (List zA))=>
    (some y2)) fun j1=>
  zAm x1 x2 j1 fuel x0 (W64 (x1 + 1))
def zBx (x1 : Int) (x2 : Int) (x3 : Int) (j1 : (List zA) → Option (List zA)) : Nat → (List zA) → Int → Option (List zA)
  | 0,_,_=>none
  | n + 1,y4,y5=>
    if y5 < x3 then
    ((idx y4 (W64 (x2 + y5))).bind fun z9=>
      (idx y4 (W64 (x1 + y5))).bind fun z10=>
      (idx y4 (W64 (x1 + y5))).bind fun z12=>
      (idx (zK9 y4 (W64 (x1 + y5)) z9) (W64 (x2 + y5))).bind fun z14=>
      zBx x1 x2 x3 j1 n (zK9 (zK9 y4 (W64 (x1 + y5)) z9) (W64 (x2 + y5)) z10) (W64 (y5 + 1)))
    else
    (j1 y4)
def zCl (x0 : (List zA)) (x1 : Int) (x2 : Int) (x3 : Int) : Option (List zA):=
  jn (fun (y2 : (List zA))=>
    (some y2)) fun j1=>
  zBx x1 x2 x3 j1 fuel x0 0
def zBs (x2 : Int) (j1 : (List zA) → Int → Option (List zA)) : Nat → (List zA) → Int → Int → Option (List zA)
  | 0,_,_,_=>none
  | n + 1,y9,y10,y11=>
    if y10 ≠ y11 then
    (if y10 > y11 then
      ((zCl y9 (W64 (x2 - y10)) x2 y11).bind fun p15=>
        zBs x2 j1 n p15 (W64 (y10 - y11)) y11)
      else
      ((zCl y9 (W64 (x2 - y10)) (W64 ((W64 (x2 + y11)) - y10)) y10).bind fun p19=>
        zBs x2 j1 n p19 y10 (W64 (y11 - y10))))
    else
    (j1 y9 y10)
def zFq (x0 : (List zA)) (x1 : Int) (x2 : Int) (x3 : Int) : Option (List zA):=
  jn (fun (y2 : (List zA)) (y3 : Int)=>
    ((zCl y2 (W64 (x2 - y3)) x2 y3).bind fun p5=>
      some p5)) fun j1=>
  zBs x2 j1 fuel x0 (W64 (x2 - x1)) (W64 (x3 - x2))
def zBz (y3 : Int) (j2 : (List zA) → Option (List zA)) : Nat → (List zA) → Int → Option (List zA)
  | 0,_,_=>none
  | n + 1,y7,y8=>
    if y8 < W64 (y3 - 1) then
    ((idx y7 (W64 (y8 + 1))).bind fun z12=>
      (idx y7 y8).bind fun z13=>
      (idx y7 y8).bind fun z15=>
      (idx (zK9 y7 y8 z12) (W64 (y8 + 1))).bind fun z17=>
      zBz y3 j2 n (zK9 (zK9 y7 y8 z12) (W64 (y8 + 1)) z13) (W64 (y8 + 1)))
    else
    (j2 y7)
def zBi (x0 : (List zA)) (x1 : Int) (j1 : Int → Option (List zA)) : Nat → Int → Int → Option (List zA)
  | 0,_,_=>none
  | n + 1,y23,y24=>
    if y23 < y24 then
    ((idx x0 (W64 (((zAe (W64 (y23 + y24))) >>> UInt64.ofNat 1).toNat : Int))).bind fun z28=>
      (idx x0 x1).bind fun z29=>
      (zEs z28 z29).bind fun p30=>
      if p30 < 0 then
      (zBi x0 x1 j1 n (W64 ((W64 (((zAe (W64 (y23 + y24))) >>> UInt64.ofNat 1).toNat : Int)) + 1)) y24)
      else
      (zBi x0 x1 j1 n y23 (W64 (((zAe (W64 (y23 + y24))) >>> UInt64.ofNat 1).toNat : Int))))
    else
    (j1 y23)
def zBy (y34 : Int) (j4 : (List zA) → Option (List zA)) : Nat → (List zA) → Int → Option (List zA)
  | 0,_,_=>none
  | n + 1,y38,y39=>
    if y39 > y34 then
    ((idx y38 (W64 (y39 - 1))).bind fun z43=>
      (idx y38 y39).bind fun z44=>
      (idx y38 y39).bind fun z46=>
      (idx (zK9 y38 y39 z43) (W64 (y39 - 1))).bind fun z48=>
      zBy y34 j4 n (zK9 (zK9 y38 y39 z43) (W64 (y39 - 1)) z44) (W64 (y39 - 1)))
    else
    (j4 y38)
def zBh (x0 : (List zA)) (x2 : Int) (j3 : Int → Option (List zA)) : Nat → Int → Int → Option (List zA)
  | 0,_,_=>none
  | n + 1,y54,y55=>
    if y54 < y55 then
    ((idx x0 x2).bind fun z59=>
      (idx x0 (W64 (((zAe (W64 (y54 + y55))) >>> UInt64.ofNat 1).toNat : Int))).bind fun z60=>
      (zEs z59 z60).bind fun p61=>
      if ¬ (p61 < 0) then
      (zBh x0 x2 j3 n (W64 ((W64 (((zAe (W64 (y54 + y55))) >>> UInt64.ofNat 1).toNat : Int)) + 1)) y55)
      else
      (zBh x0 x2 j3 n y54 (W64 (((zAe (W64 (y54 + y55))) >>> UInt64.ofNat 1).toNat : Int))))
    else
    (j3 y54)
def zBg (x0 : (List zA)) (x1 : Int) (x2 : Int) (x3 : Int) (j6 : Int → Option (List zA)) : Nat → Int → Int → Option (List zA)
  | 0,_,_=>none
  | n + 1,y87,y88=>
    if y87 < y88 then
    ((idx x0 (W64 ((W64 ((W64 ((W64 (((zAe (W64 (x1 + x3))) >>> UInt64.ofNat 1).toNat : Int)) + x2)) - 1)) - (W64 (((zAe (W64 (y87 + y88))) >>> UInt64.ofNat 1).toNat : Int))))).bind fun z92=>
      (idx x0 (W64 (((zAe (W64 (y87 + y88))) >>> UInt64.ofNat 1).toNat : Int))).bind fun z93=>
      (zEs z92 z93).bind fun p94=>
      if ¬ (p94 < 0) then
      (zBg x0 x1 x2 x3 j6 n (W64 ((W64 (((zAe (W64 (y87 + y88))) >>> UInt64.ofNat 1).toNat : Int)) + 1)) y88)
      else
      (zBg x0 x1 x2 x3 j6 n y87 (W64 (((zAe (W64 (y87 + y88))) >>> UInt64.ofNat 1).toNat : Int))))
    else
    (j6 y87)
def zDh (x0 : (List zA)) (x1 : Int) (x2 : Int) (x3 : Int) : Option (List zA):=
  if W64 (x2 - x1) = 1 then
  (jn (fun (y3 : Int)=>
      (jn (fun (y5 : (List zA))=>
          (some y5)) fun j2=>
        zBz y3 j2 fuel x0 x1)) fun j1=>
    zBi x0 x1 j1 fuel x2 x3)
  else
  (if W64 (x3 - x2) = 1 then
    (jn (fun (y34 : Int)=>
        (jn (fun (y36 : (List zA))=>
            (some y36)) fun j4=>
          zBy y34 j4 fuel x0 x2)) fun j3=>
      zBh x0 x2 j3 fuel x1 x2)
    else
    (jn (fun (y64 : Int) (y65 : Int)=>
        (jn (fun (y67 : Int)=>
            (jn (fun (y71 : (List zA))=>
                (jn (fun (_ : Unit)=>
                    (if (W64 (((zAe (W64 (x1 + x3))) >>> UInt64.ofNat 1).toNat : Int) < W64 ((W64 ((W64 (((zAe (W64 (x1 + x3))) >>> UInt64.ofNat 1).toNat : Int)) + x2)) - y67)) ∧ (W64 ((W64 ((W64 (((zAe (W64 (x1 + x3))) >>> UInt64.ofNat 1).toNat : Int)) + x2)) - y67) < x3) then
                      (none)
                      else
                      (some y71))) fun j8=>
                  if (x1 < y67) ∧ (y67 < W64 (((zAe (W64 (x1 + x3))) >>> UInt64.ofNat 1).toNat : Int)) then
                  (none)
                  else
                  (j8 ()))) fun j7=>
              if (y67 < x2) ∧ (x2 < W64 ((W64 ((W64 (((zAe (W64 (x1 + x3))) >>> UInt64.ofNat 1).toNat : Int)) + x2)) - y67)) then
              ((zFq x0 y67 x2 (W64 ((W64 ((W64 (((zAe (W64 (x1 + x3))) >>> UInt64.ofNat 1).toNat : Int)) + x2)) - y67))).bind fun p83=>
                j7 p83)
              else
              (j7 x0))) fun j6=>
          zBg x0 x1 x2 x3 j6 fuel y64 y65)) fun j5=>
      if x2 > W64 (((zAe (W64 (x1 + x3))) >>> UInt64.ofNat 1).toNat : Int) then
      (j5 (W64 ((W64 ((W64 (((zAe (W64 (x1 + x3))) >>> UInt64.ofNat 1).toNat : Int)) + x2)) - x3)) (W64 (((zAe (W64 (x1 + x3))) >>> UInt64.ofNat 1).toNat : Int)))
      else
      (j5 x1 x2)))
def zC9 (x1 : Int) (y12 : Int) (j3 : (List zA) → Int → Option (List zA)) : Nat → (List zA) → Int → Int → Option (List zA)
  | 0,_,_,_=>none
  | n + 1,y25,y26,y27=>
    if y27 ≤ x1 then
    ((zDh y25 y26 (W64 (y26 + y12)) y27).bind fun p30=>
      zC9 x1 y12 j3 n p30 y27 (W64 (y27 + (W64 (2 * y12)))))
    else
    (j3 y25 y26)
def zB7 (x1 : Int) (j2 : (List zA) → Option (List zA)) : Nat → (List zA) → Int → Option (List zA)
  | 0,_,_=>none
  | n + 1,y11,y12=>
    if y12 < x1 then
    (jn (fun (y15 : (List zA)) (y16 : Int)=>
        (jn (fun (y18 : (List zA))=>
            (zB7 x1 j2 n y18 (W64 (y12 * 2)))) fun j4=>
          if W64 (y16 + y12) < x1 then
          ((zDh y15 y16 (W64 (y16 + y12)) x1).bind fun p21=>
            j4 p21)
          else
          (j4 y15))) fun j3=>
      zC9 x1 y12 j3 fuel y11 0 (W64 (2 * y12)))
    else
    (j2 y11)
def zB6 (x1 : Int) (j1 : (List zA) → Int → Option (List zA)) : Nat → (List zA) → Int → Int → Option (List zA)
  | 0,_,_,_=>none
  | n + 1,y34,y35,y36=>
    if y36 ≤ x1 then
    ((zB8 y34 y35 y36).bind fun p39=>
      zB6 x1 j1 n p39 y36 (W64 (y36 + 20)))
    else
    (j1 y34 y35)
def zCz (x0 : (List zA)) (x1 : Int) : Option (List zA):=
  jn (fun (y2 : (List zA)) (y3 : Int)=>
    ((zB8 y2 y3 x1).bind fun p5=>
      jn (fun (y9 : (List zA))=>
        (some y9)) fun j2=>
      zB7 x1 j2 fuel p5 20)) fun j1=>
  zB6 x1 j1 fuel x0 0 20
def zCp (x0 : (List zA)) : Option (List zA):=
  (zCz x0 (x0.length : Int)).bind fun p2=>
  some p2
def zJ9 (x0 : (List zA)) : Option (List zA):=
  (zD2 x0).bind fun p3=>
  (zCp p3).bind fun p6=>
  some p6
def zCv (p13 : (List zA)) (j1 : (List UInt8) → Option ((List UInt8) × Int)) : Nat → Int → (List UInt8) → Option ((List UInt8) × Int)
  | 0,_,_=>none
  | n + 1,y22,y23=>
    if y22 < (p13.length : Int) then
    ((idx p13 y22).bind fun z27=>
      (catS ([59] : List UInt8) z27.Key).bind fun z31=>
      (catS z31 ([61] : List UInt8)).bind fun z32=>
      (catS z32 z27.Val).bind fun z33=>
      (zDn y23 z33).bind fun z34=>
      zCv p13 j1 n (W64 (y22 + 1)) z34)
    else
    (j1 y23)
def zJj (x0 : (List UInt8)) (x1 : (List zA)) : Option ((List UInt8) × Int):=
  (zIj x0 x1).bind fun p3=>
  if p3 ≠ 0 then
  (some (([] : List UInt8),p3))
  else
  ((zDn ([] : List UInt8) x0).bind fun z10=>
    (zJ9 x1).bind fun p13=>
    jn (fun (y16 : (List UInt8))=>
      (some (y16,0))) fun j1=>
    zCv p13 j1 fuel 0 z10)
def zMc (x0 : Bool) : Option Int:=
  if x0 = true then
  (some 1)
  else
  (some 0)
def zKd (x0 : zA9) : Option ((List UInt8) × Int):=
  (zHk x0).bind fun p13=>
  if p13 ≠ 0 then
  (some (([] : List UInt8),p13))
  else
  ((zJj x0.Name x0.Attrs).bind fun p16=>
    (catS p16.1 ([32] : List UInt8)).bind fun z19=>
    (zMc x0.Mono).bind fun p20=>
    (catS z19 ([toU8 (W64 (48 + x0.Kind)),toU8 (W64 (48 + x0.Temp)),toU8 (W64 (48 + p20))] : List UInt8)).bind fun z25=>
    some (z25,0))
def zJ6  : Option zA0:=
  some ({ b:=([] : List UInt8),n:=0 } : zA0)
def zHj  : Option zA5:=
  some ({ n:=0,last:=(0 : UInt64),step:=(0 : UInt64) } : zA5)
def zL6  : Option zAg:=
  some ({ n:=0,last:=(0 : UInt64),win:=({ ahead:=0,size:=0 } : zBb) } : zAg)
def zJ4  : Option zA6:=
  some ({ n:=0,last:=({ Scale:=0,Zero:=(0 : UInt64),Pos:=({ Offset:=0,Counts:=([] : List UInt64) } : zAd),Neg:=({ Offset:=0,Counts:=([] : List UInt64) } : zAd) } : zA2) } : zA6)
def zIl  : Option zAt:=
  (zHj).bind fun p4=>
  (zHj).bind fun p7=>
  (zHj).bind fun p10=>
  (zHj).bind fun p13=>
  (zL6).bind fun p16=>
  (zL6).bind fun p19=>
  (zJ4).bind fun p22=>
  some ({ ords:=p4,times:=p7,spans:=p10,ints:=p13,re:=p16,im:=p19,hists:=p22 } : zAt)
def zKr (x0 : zA9) (x1 : Int) : Option ((Option zA7) × Int):=
  (zKd x0).bind fun p13=>
  if p13.2 ≠ 0 then
  (some ((none : Option zA7),p13.2))
  else
  ((zJ6).bind fun p18=>
    (zIl).bind fun p21=>
    some ((some ({ key:=p13.1,most:=x1,n:=0,last:=(-1),w:=p18,rows:=p21 } : zA7)),0))
def zDz (x0 : zA0) : Option Int:=
  some x0.n
def zFt (x0 : zA5) : Option zA5:=
  some x0
def zIf (x0 : zAg) : Option zAg:=
  some x0
def zDt (x0 : (List UInt64)) : Option (List UInt64):=
  zDn [] x0
def zG (x0 : zA2) : Option zA2:=
  (zDt x0.Pos.Counts).bind fun p14=>
  (zDt x0.Neg.Counts).bind fun p17=>
  some ({ Scale:=x0.Scale,Zero:=x0.Zero,Pos:=({ Offset:=x0.Pos.Offset,Counts:=p14 } : zAd),Neg:=({ Offset:=x0.Neg.Offset,Counts:=p17 } : zAd) } : zA2)
def zHt (x0 : zA6) : Option zA6:=
  (zG x0.last).bind fun p12=>
  some ({ n:=x0.n,last:=p12 } : zA6)
def zH1 (x0 : zAt) : Option zAt:=
  (zFt x0.ords).bind fun p34=>
  (zFt x0.times).bind fun p37=>
  (zFt x0.spans).bind fun p40=>
  (zFt x0.ints).bind fun p43=>
  (zIf x0.re).bind fun p46=>
  (zIf x0.im).bind fun p49=>
  (zHt x0.hists).bind fun p52=>
  some ({ ords:=p34,times:=p37,spans:=p40,ints:=p43,re:=p46,im:=p49,hists:=p52 } : zAt)
def zNn (x0 : Int) : Option UInt64:=
  some (((zAe x0) <<< UInt64.ofNat 1) ^^^ (zAe (shrZ x0 63)))
def zIa  : Option zIc:=
  some ({ a0:=0,a1:=7,a2:=20,a3:=64 } : zIc)
def zEe (x0 : UInt64) (p1 : zIc) (j1 : Unit → Option Int) : Nat → Int → Option Int
  | 0,_=>none
  | n + 1,y4=>
    if y4 < 4 then
    ((idx ([p1.a0,p1.a1,p1.a2,p1.a3] : List Int) y4).bind fun z7=>
      if ((shr64 x0 ((zAe z7).toNat)).toNat : Int) = 0 then
      (some y4)
      else
      (zEe x0 p1 j1 n (W64 (y4 + 1))))
    else
    (j1 ())
def zJe (x0 : UInt64) : Option Int:=
  (zIa).bind fun p1=>
  jn (fun (_ : Unit)=>
    (some 3)) fun j1=>
  zEe x0 p1 j1 fuel 0
def zD6 (x0 : zA0) : Option Int:=
  some (W64 ((W64 (8 * (x0.b.length : Int))) - x0.n))
def zCr (x1 : UInt64) (j2 : zA0 → Option (Bool × zA0)) : Nat → Int → zA0 → Option (Bool × zA0)
  | 0,_,_=>none
  | n + 1,y10,y11=>
    if y10 > 0 then
    ((zD6 y11).bind fun p14=>
      jn (fun (y16 : zA0)=>
        ((zD6 y16).bind fun p18=>
          jn (fun (y21 : UInt64)=>
            ((idx y16.b (W64 ((y16.b.length : Int) - 1))).bind fun z26=>
              (idx y16.b (W64 ((y16.b.length : Int) - 1))).bind fun z27=>
              zCr x1 j2 n (W64 (y10 - (min y10 p18))) ({ b:=(zK9 y16.b (W64 ((y16.b.length : Int) - 1)) (z26 ||| (toU8 ((shl64 y21 ((zAe (W64 (p18 - (min y10 p18)))).toNat)).toNat : Int)))),n:=W64 (y16.n + (min y10 p18)) } : zA0))) fun j4=>
          if min y10 p18 < 64 then
          (j4 ((shr64 x1 ((zAe (W64 (y10 - (min y10 p18)))).toNat)) &&& ((shl64 (1 : UInt64) ((zAe (min y10 p18)).toNat)) - (1 : UInt64))))
          else
          (j4 (shr64 x1 ((zAe (W64 (y10 - (min y10 p18)))).toNat))))) fun j3=>
      if p14 = 0 then
      ((zDn y11.b [(0 : UInt8)]).bind fun z38=>
        j3 ({ b:=z38,n:=y11.n } : zA0))
      else
      (j3 y11))
    else
    (j2 y11)
def zAh (x0 : zA0) (x1 : UInt64) (x2 : Int) : Option (Bool × zA0):=
  jn (fun (y5 : Bool)=>
    (if y5 = true then
      (some (false,x0))
      else
      (jn (fun (y8 : zA0)=>
          (some (true,y8))) fun j2=>
        zCr x1 j2 fuel x2 x0))) fun j1=>
  if (x2 < 0) ∨ (x2 > 64) then
  (j1 true)
  else
  (jn (fun (y46 : Bool)=>
      (j1 y46)) fun j5=>
    if x2 < 64 then
    (j5 (decide (((shr64 x1 ((zAe x2).toNat)).toNat : Int) ≠ 0)))
    else
    (j5 false))
def zHh (x0 : zA0) (x1 : UInt64) : Option zA0:=
  (zJe x1).bind fun p2=>
  (zAh x0 (zAe p2) 2).bind fun p4=>
  (zIa).bind fun p8=>
  (idx ([p8.a0,p8.a1,p8.a2,p8.a3] : List Int) p2).bind fun z10=>
  (zAh p4.2 x1 z10).bind fun p11=>
  some p11.2
def zEc (x0 : zA0) (x1 : Int) : Option zA0:=
  (zNn x1).bind fun p2=>
  (zHh x0 p2).bind fun p4=>
  some p4
def zHg  : Option zIb:=
  some ({ a0:=0,a1:=6,a2:=10,a3:=16,a4:=64 } : zIb)
def zKc (x0 : Int) (x1 : Int) : Option Bool:=
  if x1 = 0 then
  (some (decide (x0 = 0)))
  else
  (if x1 = 64 then
    (some true)
    else
    (jn (fun (y3 : Bool)=>
        (some y3)) fun j1=>
      if x0 ≥ shlZ (-1) ((zAe (W64 (x1 - 1))).toNat) then
      (j1 (decide (x0 < shlZ 1 ((zAe (W64 (x1 - 1))).toNat))))
      else
      (j1 false)))
def zFw (x0 : Int) (p1 : zIb) (j1 : Unit → Option Int) : Nat → Int → Option Int
  | 0,_=>none
  | n + 1,y4=>
    if y4 < 5 then
    ((idx ([p1.a0,p1.a1,p1.a2,p1.a3,p1.a4] : List Int) y4).bind fun z7=>
      (zKc x0 z7).bind fun p8=>
      if p8 = true then
      (some y4)
      else
      (zFw x0 p1 j1 n (W64 (y4 + 1))))
    else
    (j1 ())
def zNm (x0 : Int) : Option Int:=
  (zHg).bind fun p1=>
  jn (fun (_ : Unit)=>
    (some 4)) fun j1=>
  zFw x0 p1 j1 fuel 0
def zEa (x0 : zA5) (x1 : UInt64) : Option zA5:=
  jn (fun (y2 : zA5)=>
    (some ({ n:=W64 (y2.n + 1),last:=x1,step:=y2.step } : zA5))) fun j1=>
  if x0.n > 0 then
  (j1 ({ n:=x0.n,last:=x0.last,step:=x1 - x0.last } : zA5))
  else
  (j1 x0)
def zDo (p20 : Int) (j2 : zA0 → Option (zA0 × zA5)) : Nat → Int → zA0 → Option (zA0 × zA5)
  | 0,_,_=>none
  | n + 1,y38,y39=>
    if y38 < p20 then
    ((zAh y39 (1 : UInt64) 1).bind fun p42=>
      zDo p20 j2 n (W64 (y38 + 1)) p42.2)
    else
    (j2 y39)
def zF4 (x0 : zA5) (x1 : zA0) (x2 : Int) : Option (zA0 × zA5):=
  jn (fun (y3 : zA0)=>
    ((zEa x0 (zAe x2)).bind fun p5=>
      some (y3,p5))) fun j1=>
  if x0.n = 0 then
  ((zEc x1 x2).bind fun p10=>
    j1 p10)
  else
  (if x0.n = 1 then
    ((zEc x1 (W64 (((zAe x2) - x0.last).toNat : Int))).bind fun p15=>
      j1 p15)
    else
    ((zNm (W64 ((((zAe x2) - x0.last) - x0.step).toNat : Int))).bind fun p20=>
      jn (fun (y22 : zA0)=>
        (jn (fun (y24 : zA0)=>
            ((zHg).bind fun p26=>
              (idx ([p26.a0,p26.a1,p26.a2,p26.a3,p26.a4] : List Int) p20).bind fun z28=>
              (zAh y24 (shr64 (shl64 (zAe (W64 ((((zAe x2) - x0.last) - x0.step).toNat : Int))) ((zAe (W64 (64 - z28))).toNat)) ((zAe (W64 (64 - z28))).toNat)) z28).bind fun p29=>
              j1 p29.2)) fun j3=>
          if p20 < 4 then
          ((zAh y22 (0 : UInt64) 1).bind fun p34=>
            j3 p34.2)
          else
          (j3 y22))) fun j2=>
      zDo p20 j2 fuel 0 x1))
def zK6 (x0 : zA2) : Option zCy:=
  some ({ scale:=x0.Scale,posAt:=x0.Pos.Offset,posSize:=(x0.Pos.Counts.length : Int),negAt:=x0.Neg.Offset,negSize:=(x0.Neg.Counts.length : Int) } : zCy)
def zDc (x0 : zA2) : Option (List UInt64):=
  (zDn ([x0.Zero] : List UInt64) x0.Pos.Counts).bind fun z13=>
  (zDn z13 x0.Neg.Counts).bind fun z15=>
  some z15
def zBm (p43 : (List UInt64)) (p46 : (List UInt64)) (j3 : zA0 → Option (Int × zA6 × zA0)) : Nat → Int → zA0 → Option (Int × zA6 × zA0)
  | 0,_,_=>none
  | n + 1,y55,y56=>
    if y55 < (p46.length : Int) then
    ((idx p46 y55).bind fun z59=>
      (idx p43 y55).bind fun z60=>
      (zEc y56 (W64 ((z59 - z60).toNat : Int))).bind fun p61=>
      zBm p43 p46 j3 n (W64 (y55 + 1)) p61)
    else
    (j3 y56)
def zBl (p79 : (List UInt64)) (j5 : zA0 → Option (Int × zA6 × zA0)) : Nat → Int → zA0 → Option (Int × zA6 × zA0)
  | 0,_,_=>none
  | n + 1,y86,y87=>
    if y86 < (p79.length : Int) then
    ((idx p79 y86).bind fun z90=>
      (zHh y87 z90).bind fun p91=>
      zBl p79 j5 n (W64 (y86 + 1)) p91)
    else
    (j5 y87)
def zC4 (x2 : zA2) (j4 : zA0 → Option (Int × zA6 × zA0)) : Nat → Int → zA0 → Option (Int × zA6 × zA0)
  | 0,_,_=>none
  | n + 1,y96,y97=>
    if y96 < (([x2.Pos,x2.Neg] : List zAd).length : Int) then
    (jn (fun (y101 : zA0)=>
        (zC4 x2 j4 n (W64 (y96 + 1)) y101)) fun j6=>
      (idx ([x2.Pos,x2.Neg] : List zAd) y96).bind fun z103=>
      (zAh y97 (zAe (z103.Counts.length : Int)) 8).bind fun p110=>
      if (z103.Counts.length : Int) > 0 then
      ((zEc p110.2 z103.Offset).bind fun p115=>
        j6 p115)
      else
      (j6 p110.2))
    else
    (j4 y97)
def zEr (x0 : zA6) (x1 : zA0) (x2 : zA2) : Option (Int × zA6 × zA0):=
  (zJm x2).bind fun p12=>
  if p12 ≠ 0 then
  (some (p12,x0,x1))
  else
  (jn (fun (y17 : Bool)=>
      (jn (fun (y20 : zA0)=>
          ((zG x2).bind fun p27=>
            some (0,({ n:=W64 (x0.n + 1),last:=p27 } : zA6),y20))) fun j2=>
        if y17 = true then
        ((zAh x1 (1 : UInt64) 1).bind fun p36=>
          (zDc x0.last).bind fun p43=>
          (zDc x2).bind fun p46=>
          jn (fun (y52 : zA0)=>
            (j2 y52)) fun j3=>
          zBm p43 p46 j3 fuel 0 p36.2)
        else
        ((zAh x1 (0 : UInt64) 1).bind fun p65=>
          (zAh p65.2 (zAe (W64 (x2.Scale - (-10)))) 5).bind fun p69=>
          jn (fun (y77 : zA0)=>
            ((zDc x2).bind fun p79=>
              jn (fun (y83 : zA0)=>
                (j2 y83)) fun j5=>
              zBl p79 j5 fuel 0 y77)) fun j4=>
          zC4 x2 j4 fuel 0 p69.2))) fun j1=>
    if x0.n > 0 then
    ((zK6 x2).bind fun p124=>
      (zK6 x0.last).bind fun p126=>
      j1 (decide (p124 = p126)))
    else
    (j1 false))
def zGh (x0 : UInt64) : Option Int:=
  jn (fun (y1 : UInt64) (y2 : Int)=>
    (jn (fun (y4 : UInt64) (y5 : Int)=>
        (jn (fun (y7 : UInt64) (y8 : Int)=>
            ((idx ([0,1,2,2,3,3,3,3,4,4,4,4,4,4,4,4,5,5,5,5,5,5,5,5,5,5,5,5,5,5,5,5,6,6,6,6,6,6,6,6,6,6,6,6,6,6,6,6,6,6,6,6,6,6,6,6,6,6,6,6,6,6,6,6,7,7,7,7,7,7,7,7,7,7,7,7,7,7,7,7,7,7,7,7,7,7,7,7,7,7,7,7,7,7,7,7,7,7,7,7,7,7,7,7,7,7,7,7,7,7,7,7,7,7,7,7,7,7,7,7,7,7,7,7,7,7,7,7,8,8,8,8,8,8,8,8,8,8,8,8,8,8,8,8,8,8,8,8,8,8,8,8,8,8,8,8,8,8,8,8,8,8,8,8,8,8,8,8,8,8,8,8,8,8,8,8,8,8,8,8,8,8,8,8,8,8,8,8,8,8,8,8,8,8,8,8,8,8,8,8,8,8,8,8,8,8,8,8,8,8,8,8,8,8,8,8,8,8,8,8,8,8,8,8,8,8,8,8,8,8,8,8,8,8,8,8,8,8,8,8,8,8,8,8,8,8,8,8,8,8,8,8,8,8,8,8] : List UInt8) ((toU8 ((y7).toNat : Int)).toNat : Int)).bind fun z10=>
              some (W64 (y8 + (z10.toNat : Int))))) fun j3=>
          if ((y4).toNat : Int) ≥ 256 then
          (j3 (y4 >>> UInt64.ofNat 8) (W64 (y5 + 8)))
          else
          (j3 y4 y5))) fun j2=>
      if ((y1).toNat : Int) ≥ 65536 then
      (j2 (y1 >>> UInt64.ofNat 16) (W64 (y2 + 16)))
      else
      (j2 y1 y2))) fun j1=>
  if ((x0).toNat : Int) ≥ 4294967296 then
  (j1 (x0 >>> UInt64.ofNat 32) 32)
  else
  (j1 x0 0)
def zDe (x0 : UInt64) : Option Int:=
  (zGh x0).bind fun p1=>
  some (W64 (64 - p1))
def zD4 (x0 : UInt64) : Option Int:=
  if ((x0).toNat : Int) = 0 then
  (some 64)
  else
  ((idx gt3 ((((x0 &&& (0 - x0)) * (285870213051353865 : UInt64)) >>> UInt64.ofNat 58).toNat : Int)).bind fun z4=>
    some (z4.toNat : Int))
def zCj (x0 : zBb) : Option Int:=
  some (W64 ((W64 (64 - x0.ahead)) - x0.size))
def zFv (x0 : zBb) (x1 : UInt64) : Option Bool:=
  if ¬ (x0 = ({ ahead:=0,size:=0 } : zBb)) then
  ((zDe x1).bind fun p10=>
    if p10 ≥ x0.ahead then
    ((zD4 x1).bind fun p13=>
      (zCj x0).bind fun p15=>
      some (decide (p13 ≥ p15)))
    else
    (some false))
  else
  (some false)
def zJd (x0 : UInt64) : Option zBb:=
  (zDe x0).bind fun p6=>
  (zD4 x0).bind fun p8=>
  some ({ ahead:=min p6 31,size:=W64 ((W64 (64 - (min p6 31))) - p8) } : zBb)
def zEb (x0 : zAg) (x1 : zA0) (x2 : UInt64) : Option (zA0 × zAg):=
  jn (fun (y5 : zA0) (y6 : zAg)=>
    (some (y5,({ n:=W64 (y6.n + 1),last:=x2,win:=y6.win } : zAg)))) fun j1=>
  if x0.n = 0 then
  ((zAh x1 x2 64).bind fun p13=>
    j1 p13.2 x0)
  else
  (if ((x2 ^^^ x0.last).toNat : Int) = 0 then
    ((zAh x1 (0 : UInt64) 1).bind fun p18=>
      j1 p18.2 x0)
    else
    ((zFv x0.win (x2 ^^^ x0.last)).bind fun p22=>
      if p22 = true then
      ((zAh x1 (2 : UInt64) 2).bind fun p25=>
        (zCj x0.win).bind fun p30=>
        (zAh p25.2 (shr64 (x2 ^^^ x0.last) ((zAe p30).toNat)) x0.win.size).bind fun p32=>
        j1 p32.2 x0)
      else
      ((zJd (x2 ^^^ x0.last)).bind fun p36=>
        (zAh x1 (3 : UInt64) 2).bind fun p40=>
        (zAh p40.2 (zAe p36.ahead) 5).bind fun p44=>
        (zAh p44.2 (zAe (W64 (p36.size - 1))) 6).bind fun p48=>
        (zCj p36).bind fun p57=>
        (zAh p48.2 (shr64 (x2 ^^^ x0.last) ((zAe p57).toNat)) p36.size).bind fun p59=>
        j1 p59.2 ({ n:=x0.n,last:=x0.last,win:=p36 } : zAg))))
def zI3 (x0 : zAt) (x1 : zA0) (x2 : Int) (x3 : zA9) : Option (zA5 × zA5 × zA5 × zA5 × zAg × zAg × zA6 × zA0):=
  (zF4 x0.ords x1 x2).bind fun p25=>
  (zF4 x0.times p25.1 x3.Time).bind fun p31=>
  jn (fun (y41 : zA5) (y42 : zA0)=>
    ((zHh y42 (zAe x3.Flags)).bind fun p44=>
      if x3.Kind = 1 then
      ((zF4 x0.ints p44 x3.Int_).bind fun p49=>
        some (p25.2,p31.2,y41,p49.2,x0.re,x0.im,x0.hists,p49.1))
      else
      (if x3.Kind = 4 then
        ((zEr x0.hists p44 x3.Hist).bind fun p62=>
          some (p25.2,p31.2,y41,x0.ints,x0.re,x0.im,p62.2.1,p62.2.2))
        else
        (if x3.Kind = 5 then
          ((zEb x0.re p44 x3.Re).bind fun p74=>
            (zEb x0.im p74.1 x3.Im).bind fun p84=>
            some (p25.2,p31.2,y41,x0.ints,p74.2,p84.2,x0.hists,p84.1))
          else
          ((zEb x0.re p44 x3.Re).bind fun p102=>
            some (p25.2,p31.2,y41,x0.ints,p102.2,x0.im,x0.hists,p102.1)))))) fun j1=>
  if x3.Kind ≠ 3 then
  ((zF4 x0.spans p31.1 (W64 (x3.Time - x3.Start))).bind fun p119=>
    j1 p119.2 p119.1)
  else
  (j1 x0.spans p31.1)
def zJq  : Option zAb:=
  some ({ b:=([] : List UInt8) } : zAb)
def zIg (x0 : UInt64) : Option Int:=
  (zGh x0).bind fun p1=>
  if p1 > 56 then
  (some 8)
  else
  ((quoZ (max (W64 (p1 - 1)) 0) 7).bind fun z4=>
    some z4)
def zD (x1 : UInt64) (j2 : zAb → Option zAb) : Nat → Int → zAb → Option zAb
  | 0,_,_=>none
  | n + 1,y17,y18=>
    if y17 > 0 then
    ((zDn y18.b [toU8 ((shr64 x1 ((zAe (W64 ((W64 (8 * y17)) - 8))).toNat)).toNat : Int)]).bind fun z23=>
      zD x1 j2 n (W64 (y17 - 1)) ({ b:=z23 } : zAb))
    else
    (j2 y18)
def zF6 (x0 : zAb) (x1 : UInt64) : Option zAb:=
  (zIg x1).bind fun p2=>
  jn (fun (y5 : UInt8)=>
    ((zDn x0.b [y5]).bind fun z9=>
      jn (fun (y15 : zAb)=>
        (some y15)) fun j2=>
      zD x1 j2 fuel p2 ({ b:=z9 } : zAb))) fun j1=>
  if p2 < 8 then
  (j1 ((shl8 (255 : UInt8) ((zAe (W64 (8 - p2))).toNat)) ||| (toU8 ((shr64 x1 ((zAe (W64 (8 * p2))).toNat)).toNat : Int))))
  else
  (j1 (shl8 (255 : UInt8) ((zAe (W64 (8 - p2))).toNat)))
def zGy (x0 : zAb) (x1 : (List UInt8)) : Option zAb:=
  (zF6 x0 (zAe (x1.length : Int))).bind fun p2=>
  (zDn p2.b x1).bind fun z8=>
  some ({ b:=z8 } : zAb)
def zG0 (x0 : zA7) : Option zAb:=
  (zJq).bind fun p3=>
  (zGy p3 x0.key).bind fun p16=>
  (zF6 p16 (zAe x0.n)).bind fun p20=>
  (zDz x0.w).bind fun p24=>
  (zF6 p20 (zAe p24)).bind fun p26=>
  some p26
def zIy (x0 : zAb) : Option Int:=
  some (x0.b.length : Int)
def zG1 (x0 : zA7) : Option Int:=
  (zG0 x0).bind fun p14=>
  (zIy p14).bind fun p17=>
  (zDz x0.w).bind fun p19=>
  (quoZ (W64 (p19 + 7)) 8).bind fun z21=>
  some (W64 (p17 + z21))
def zH3 (x0 : zA0) (x1 : Int) : Option (Bool × zA0):=
  jn (fun (y5 : Bool)=>
    (if y5 = true then
      (some (false,x0))
      else
      ((quoZ (W64 (x1 + 7)) 8).bind fun z10=>
        (zNx x0.b 0 z10).bind fun z11=>
        (remZ x1 8).bind fun z16=>
        jn (fun (y19 : zA0)=>
          (some (true,({ b:=y19.b,n:=x1 } : zA0)))) fun j2=>
        if z16 > 0 then
        ((idx z11 (W64 ((z11.length : Int) - 1))).bind fun z31=>
          (idx z11 (W64 ((z11.length : Int) - 1))).bind fun z32=>
          j2 ({ b:=(zK9 z11 (W64 ((z11.length : Int) - 1)) (z31 &&& (shl8 (255 : UInt8) ((zAe (W64 (8 - z16))).toNat)))),n:=x0.n } : zA0))
        else
        (j2 ({ b:=z11,n:=x0.n } : zA0))))) fun j1=>
  if x1 < 0 then
  (j1 true)
  else
  (j1 (decide (x1 > x0.n)))
def zF7 (x0 : zA7) (x1 : Int) (x2 : zA9) : Option (Int × zA7):=
  (zKd x2).bind fun p15=>
  if p15.2 ≠ 0 then
  (some (p15.2,x0))
  else
  (if p15.1 ≠ x0.key then
    (some (14,x0))
    else
    (if (x1 < 0) ∨ (x1 > 4503599627370496) then
      (some (1,x0))
      else
      (if x1 ≤ x0.last then
        (some (9,x0))
        else
        (if x0.n = 128 then
          (some (6,x0))
          else
          (jn (fun (y44 : Int) (y45 : zAt)=>
              ((zI3 y45 x0.w x1 x2).bind fun p66=>
                (zG1 ({ key:=x0.key,most:=x0.most,n:=W64 (x0.n + 1),last:=x0.last,w:=p66.2.2.2.2.2.2.2,rows:=x0.rows } : zA7)).bind fun p86=>
                if p86 > x0.most then
                ((zH3 p66.2.2.2.2.2.2.2 y44).bind fun p102=>
                  some (6,({ key:=x0.key,most:=x0.most,n:=W64 ((W64 (x0.n + 1)) - 1),last:=x0.last,w:=p102.2,rows:=x0.rows } : zA7)))
                else
                (some (0,({ key:=x0.key,most:=x0.most,n:=W64 (x0.n + 1),last:=x1,w:=p66.2.2.2.2.2.2.2,rows:=({ ords:=p66.1,times:=p66.2.1,spans:=p66.2.2.1,ints:=p66.2.2.2.1,re:=p66.2.2.2.2.1,im:=p66.2.2.2.2.2.1,hists:=p66.2.2.2.2.2.2.1 } : zAt) } : zA7))))) fun j1=>
            (zDz x0.w).bind fun p133=>
            (zH1 x0.rows).bind fun p135=>
            j1 p133 p135)))))
def zF1 (x0 : (List UInt8)) : Option (List UInt8):=
  zDn [] x0
def zGd (x0 : zA0) : Option (List UInt8):=
  (zF1 x0.b).bind fun p8=>
  some p8
def zIx (x0 : zAb) (x1 : (List UInt8)) : Option zAb:=
  (zDn x0.b x1).bind fun z5=>
  some ({ b:=z5 } : zAb)
def zI4 (x0 : zAb) : Option (List UInt8):=
  (zF1 x0.b).bind fun p8=>
  some p8
def zFd (x0 : zA7) : Option (List UInt8):=
  (zG0 x0).bind fun p3=>
  (zGd x0.w).bind fun p16=>
  (zIx p3 p16).bind fun p19=>
  (zI4 p19).bind fun p27=>
  some p27
def zHe (x0 : (List zA8)) (j1 : (Option zA7) → Option ((List UInt8) × Int)) : Nat → Int → (Option zA7) → Option ((List UInt8) × Int)
  | 0,_,_=>none
  | n + 1,y28,y29=>
    if y28 < (x0.length : Int) then
    ((idx x0 y28).bind fun z32=>
      (y29).bind fun z45=>
      (zF7 z45 z32.Ord z32.Point).bind fun p44=>
      if p44.1 ≠ 0 then
      (none)
      else
      (zHe x0 j1 n (W64 (y28 + 1)) (some p44.2)))
    else
    (j1 y29)
def zP9 (x0 : (List zA8)) : Option ((List UInt8) × Int):=
  if (x0.length : Int) = 0 then
  (none)
  else
  ((idx x0 0).bind fun z8=>
    (zKr z8.Point 4611686018427387904).bind fun p17=>
    if p17.2 ≠ 0 then
    (none)
    else
    (jn (fun (y21 : (Option zA7))=>
        ((y21).bind fun z24=>
          (zFd z24).bind fun p23=>
          some (p23,0))) fun j1=>
      zHe x0 j1 fuel 0 p17.1))
def zMn (x0 : (List UInt8)) : Option zAa:=
  (zF1 x0).bind fun p3=>
  some ({ b:=p3,at_:=0,e:=0 } : zAa)
def zFx (x0 : zAa) : Option Int:=
  some (W64 ((x0.b.length : Int) - x0.at_))
def zMo (x0 : UInt8) : Option Int:=
  (idx ([0,1,2,2,3,3,3,3,4,4,4,4,4,4,4,4,5,5,5,5,5,5,5,5,5,5,5,5,5,5,5,5,6,6,6,6,6,6,6,6,6,6,6,6,6,6,6,6,6,6,6,6,6,6,6,6,6,6,6,6,6,6,6,6,7,7,7,7,7,7,7,7,7,7,7,7,7,7,7,7,7,7,7,7,7,7,7,7,7,7,7,7,7,7,7,7,7,7,7,7,7,7,7,7,7,7,7,7,7,7,7,7,7,7,7,7,7,7,7,7,7,7,7,7,7,7,7,7,8,8,8,8,8,8,8,8,8,8,8,8,8,8,8,8,8,8,8,8,8,8,8,8,8,8,8,8,8,8,8,8,8,8,8,8,8,8,8,8,8,8,8,8,8,8,8,8,8,8,8,8,8,8,8,8,8,8,8,8,8,8,8,8,8,8,8,8,8,8,8,8,8,8,8,8,8,8,8,8,8,8,8,8,8,8,8,8,8,8,8,8,8,8,8,8,8,8,8,8,8,8,8,8,8,8,8,8,8,8,8,8,8,8,8,8,8,8,8,8,8,8,8,8,8,8,8,8] : List UInt8) ((x0).toNat : Int)).bind fun z1=>
  some (z1.toNat : Int)
def zHv (x0 : UInt8) : Option Int:=
  (zMo x0).bind fun p1=>
  some (W64 (8 - p1))
def zL8 (x0 : zAa) (x1 : Int) : Option zAa:=
  if x0.e = 0 then
  (some ({ b:=x0.b,at_:=x0.at_,e:=x1 } : zAa))
  else
  (some x0)
def zGa (z41 : (List UInt8)) (j2 : UInt64 → Option (UInt64 × zAa)) : Nat → UInt64 → Int → Option (UInt64 × zAa)
  | 0,_,_=>none
  | n + 1,y62,y63=>
    if y63 < (z41.length : Int) then
    (none)
    else
    (j2 y62)
def zLx (x0 : zAa) : Option (UInt64 × zAa):=
  jn (fun (_ : Unit)=>
    ((zL8 x0 2).bind fun p4=>
      some ((0 : UInt64),p4))) fun j1=>
  if x0.e ≠ 0 then
  (none)
  else
  ((zFx x0).bind fun p11=>
    if p11 = 0 then
    (none)
    else
    ((idx x0.b x0.at_).bind fun z21=>
      (zHv (~~~ z21)).bind fun p24=>
      (zFx x0).bind fun p26=>
      if p24 ≥ p26 then
      (none)
      else
      (if p24 < 8 then
        ((idx x0.b x0.at_).bind fun z37=>
          (zNx x0.b (W64 (x0.at_ + 1)) (W64 ((W64 (x0.at_ + 1)) + p24))).bind fun z41=>
          jn (fun (y48 : UInt64)=>
            ((zIg y48).bind fun p50=>
              if p50 ≠ p24 then
              (none)
              else
              (some (y48,({ b:=x0.b,at_:=W64 (x0.at_ + (W64 (1 + p24))),e:=x0.e } : zAa))))) fun j2=>
          zGa z41 j2 fuel (zAe ((z37 &&& (shr8 (127 : UInt8) ((zAe p24).toNat))).toNat : Int)) 0)
        else
        (none))))
def zGo (x0 : zAa) (x1 : Int) : Option (Int × zAa):=
  (zLx x0).bind fun p4=>
  if (p4.2.e = 0) ∧ ((x1 < 0) ∨ (((p4.1).toNat : Int) > ((zAe x1).toNat : Int))) then
  (none)
  else
  (some (W64 ((p4.1).toNat : Int),p4.2))
def zIz (x0 : zAa) (x1 : Int) : Option ((List UInt8) × zAa):=
  if x0.e ≠ 0 then
  (none)
  else
  (if x1 < 0 then
    (none)
    else
    ((zFx x0).bind fun p6=>
      if x1 > p6 then
      (none)
      else
      ((zNx x0.b (W64 ((W64 (x0.at_ + x1)) - x1)) (W64 (x0.at_ + x1))).bind fun z18=>
        (zF1 z18).bind fun p20=>
        some (p20,({ b:=x0.b,at_:=W64 (x0.at_ + x1),e:=x0.e } : zAa)))))
def zL9 (x0 : zAa) (x1 : Int) : Option ((List UInt8) × zAa):=
  (zGo x0 x1).bind fun p4=>
  (zIz p4.2 p4.1).bind fun p12=>
  if p12.2.e ≠ 0 then
  (none)
  else
  (some (p12.1,p12.2))
def zLa (x0 : zAa) : Option Int:=
  jn (fun (y8 : Bool)=>
    (if y8 = true then
      (none)
      else
      (some x0.e))) fun j1=>
  if x0.e = 0 then
  ((zFx x0).bind fun p12=>
    j1 (decide (p12 > 0)))
  else
  (none)
def zG7 (x0 : (List UInt8)) (x1 : UInt8) : Option Int:=
  some (Lib.indexByte x0 x1)
def zH (x0 : (List UInt8)) (x1 : (List UInt8)) : Option Int:=
  if ((x1.length : Int) = 0) ∨ (x1 = x0) then
  (none)
  else
  (if (x1.length : Int) = 1 then
    ((idx x1 0).bind fun z5=>
      (zG7 x0 z5).bind fun p6=>
      some p6)
    else
    (none))
def zHs (x0 : (List UInt8)) (x1 : (List UInt8)) : Option ((List UInt8) × (List UInt8) × Bool):=
  (zH x0 x1).bind fun p1=>
  if p1 ≥ 0 then
  ((zNx x0 0 p1).bind fun z5=>
    (zNx x0 (W64 (p1 + (x1.length : Int))) ((x0).length)).bind fun z6=>
    some (z5,z6,true))
  else
  (some (x0,([] : List UInt8),false))
def zMa (x0 : (List UInt8)) (x1 : (List UInt8)) : Option ((List UInt8) × (List UInt8) × Bool):=
  (zHs x0 x1).bind fun p1=>
  some (p1.1,p1.2.1,p1.2.2)
def zI2 (j1 : (List zA) → Option ((List UInt8) × (List zA) × Int × Int)) : Nat → (List zA) → Int → (List UInt8) → Bool → Option ((List UInt8) × (List zA) × Int × Int)
  | 0,_,_,_,_=>none
  | n + 1,y10,y13,y14,y15=>
    if y15 = true then
    (none)
    else
    (j1 y10)
def zOl (x0 : (List UInt8)) : Option ((List UInt8) × (List zA) × Int × Int):=
  (zMa x0 ([59] : List UInt8)).bind fun p1=>
  (zG5 p1.1).bind fun p3=>
  if (!p3) = true then
  (none)
  else
  (jn (fun (y6 : (List zA))=>
      (some (p1.1,y6,0,0))) fun j1=>
    zI2 j1 fuel ([] : List zA) (W64 ((p1.1.length : Int) + 1)) p1.2.1 p1.2.2)
def zO2 (x0 : (List UInt8)) : Option (zA9 × Int):=
  (zMa x0 ([32] : List UInt8)).bind fun p4=>
  (zOl p4.1).bind fun p6=>
  jn (fun (y13 : Bool)=>
    (if y13 = true then
      (none)
      else
      ((idx p4.2.1 0).bind fun z17=>
        (idx p4.2.1 1).bind fun z18=>
        (idx p4.2.1 2).bind fun z19=>
        if W64 ((z17.toNat : Int) - 48) = 3 then
        ((zHk ({ Name:=p6.1,Attrs:=p6.2.1,Kind:=W64 ((z17.toNat : Int) - 48),Temp:=W64 ((z18.toNat : Int) - 48),Mono:=decide (((z19).toNat : Int) = 49),Start:=1,Time:=1,Int_:=0,Re:=(0 : UInt64),Im:=(0 : UInt64),Hist:=({ Scale:=0,Zero:=(0 : UInt64),Pos:=({ Offset:=0,Counts:=[] } : zAd),Neg:=({ Offset:=0,Counts:=[] } : zAd) } : zA2),Flags:=0 } : zA9)).bind fun p35=>
          if p35 ≠ 0 then
          (none)
          else
          (some (({ Name:=p6.1,Attrs:=p6.2.1,Kind:=W64 ((z17.toNat : Int) - 48),Temp:=W64 ((z18.toNat : Int) - 48),Mono:=decide (((z19).toNat : Int) = 49),Start:=0,Time:=0,Int_:=0,Re:=(0 : UInt64),Im:=(0 : UInt64),Hist:=({ Scale:=0,Zero:=(0 : UInt64),Pos:=({ Offset:=0,Counts:=([] : List UInt64) } : zAd),Neg:=({ Offset:=0,Counts:=([] : List UInt64) } : zAd) } : zA2),Flags:=0 } : zA9),0)))
        else
        (none)))) fun j1=>
  if (((!p4.2.2) = true) ∨ (p6.2.2.2 ≠ 0)) ∨ ((p4.2.1.length : Int) ≠ 3) then
  (none)
  else
  ((idx p4.2.1 2).bind fun z49=>
    jn (fun (y50 : Bool)=>
      (j1 y50)) fun j2=>
    if ((z49).toNat : Int) ≠ 48 then
    (none)
    else
    (j2 false))
def zM6 (x0 : (List UInt8)) (x1 : Int) : Option (zA3 × Int):=
  if x1 < 0 then
  (none)
  else
  ((quoZ x1 8).bind fun z4=>
    jn (fun (y5 : Bool)=>
      (if y5 = true then
        (none)
        else
        ((quoZ (W64 (x1 + 7)) 8).bind fun z8=>
          if (x0.length : Int) > z8 then
          (none)
          else
          ((remZ x1 8).bind fun z10=>
            jn (fun (y11 : Bool)=>
              (if y11 = true then
                (none)
                else
                ((zF1 x0).bind fun p14=>
                  some (({ b:=p14,n:=x1,at_:=0 } : zA3),0)))) fun j2=>
            if z10 > 0 then
            ((quoZ x1 8).bind fun z27=>
              (idx x0 z27).bind fun z28=>
              (remZ x1 8).bind fun z30=>
              j2 (decide (((shl8 z28 ((zAe z30).toNat)).toNat : Int) ≠ 0)))
            else
            (none))))) fun j1=>
    if (x0.length : Int) < z4 then
    (none)
    else
    ((quoZ x1 8).bind fun z32=>
      jn (fun (y33 : Bool)=>
        (j1 y33)) fun j3=>
      if (x0.length : Int) = z32 then
      (none)
      else
      (j3 false)))
def zOj (x0 : zA9) : Option zA9:=
  (zD2 x0.Attrs).bind fun p16=>
  (zG x0.Hist).bind fun p21=>
  some ({ Name:=x0.Name,Attrs:=p16,Kind:=x0.Kind,Temp:=x0.Temp,Mono:=x0.Mono,Start:=x0.Start,Time:=x0.Time,Int_:=x0.Int_,Re:=x0.Re,Im:=x0.Im,Hist:=p21,Flags:=x0.Flags } : zA9)
def zFe (x0 : zA3) : Option Int:=
  some (W64 (x0.n - x0.at_))
def zE7 (x0 : zA3) (j2 : UInt64 → Option (UInt64 × Bool)) : Nat → Int → UInt64 → Int → Option (UInt64 × Bool)
  | 0,_,_,_=>none
  | n + 1,y15,y16,y17=>
    if y15 > 0 then
    ((remZ y17 8).bind fun z20=>
      (quoZ y17 8).bind fun z21=>
      (idx x0.b z21).bind fun z22=>
      zE7 x0 j2 n (W64 (y15 - (min y15 (W64 (8 - z20))))) ((shl64 y16 ((zAe (min y15 (W64 (8 - z20)))).toNat)) ||| (zAe (((shr8 z22 ((zAe (W64 ((W64 (8 - z20)) - (min y15 (W64 (8 - z20)))))).toNat)) &&& ((shl8 (1 : UInt8) ((zAe (min y15 (W64 (8 - z20)))).toNat)) - (1 : UInt8))).toNat : Int))) (W64 (y17 + (min y15 (W64 (8 - z20))))))
    else
    (j2 y16)
def zGs (x0 : zA3) (x1 : Int) : Option (UInt64 × Bool):=
  jn (fun (y5 : Bool)=>
    (if y5 = true then
      (none)
      else
      (jn (fun (y13 : UInt64)=>
          (some (y13,true))) fun j2=>
        zE7 x0 j2 fuel x1 (0 : UInt64) x0.at_))) fun j1=>
  if (x1 < 0) ∨ (x1 > 64) then
  (none)
  else
  ((zFe x0).bind fun p25=>
    j1 (decide (x1 > p25)))
def zI6 (x0 : zA3) (x1 : Int) : Option (Bool × zA3):=
  jn (fun (y3 : Bool)=>
    (if y3 = true then
      (none)
      else
      (some (true,({ b:=x0.b,n:=x0.n,at_:=W64 (x0.at_ + x1) } : zA3))))) fun j1=>
  if x1 < 0 then
  (none)
  else
  ((zFe x0).bind fun p15=>
    j1 (decide (x1 > p15)))
def zOu (x0 : zA3) : Option (UInt64 × Int × zA3):=
  (zGs x0 2).bind fun p2=>
  if (!p2.2) = true then
  (none)
  else
  ((zIa).bind fun p5=>
    (idx ([p5.a0,p5.a1,p5.a2,p5.a3] : List Int) ((p2.1).toNat : Int)).bind fun z7=>
    (zFe x0).bind fun p8=>
    if W64 (2 + z7) > p8 then
    (none)
    else
    ((zGs x0 (min (W64 (2 + z7)) 64)).bind fun p11=>
      if z7 < 64 then
      ((zJe (p11.1 &&& ((shl64 (1 : UInt64) ((zAe z7).toNat)) - (1 : UInt64)))).bind fun p14=>
        if p14 ≠ W64 ((p2.1).toNat : Int) then
        (none)
        else
        ((zI6 x0 (W64 (2 + z7))).bind fun p17=>
          some (p11.1 &&& ((shl64 (1 : UInt64) ((zAe z7).toNat)) - (1 : UInt64)),0,p17.2)))
      else
      (none)))
def zR1 (x0 : UInt64) : Option Int:=
  some (xorZ (W64 ((x0 >>> UInt64.ofNat 1).toNat : Int)) (IntKind.i64.wrap (0 - (W64 ((x0 &&& (1 : UInt64)).toNat : Int)))))
def zOi (x0 : zA3) : Option (Int × Int × zA3):=
  (zOu x0).bind fun p2=>
  (zR1 p2.1).bind fun p6=>
  some (p6,p2.2.1,p2.2.2)
def zO0 (x0 : zA5) (x1 : zA3) : Option (Int × Int × zA3 × zA5):=
  if x0.n < 2 then
  ((zOi x1).bind fun p4=>
    if p4.2.1 ≠ 0 then
    (none)
    else
    ((zEa x0 (x0.last + (zAe p4.1))).bind fun p9=>
      some (W64 ((x0.last + (zAe p4.1)).toNat : Int),0,p4.2.2,p9)))
  else
  (none)
def zO1 (x0 : zAf) (x1 : Int) (x2 : Int) : Option (Int × zAf):=
  if x0.e = 0 then
  (some (x1,({ r:=x0.r,rows:=x0.rows,e:=x2 } : zAf)))
  else
  (none)
def zM4 (x0_e : Int) (x1 : Int) (x2 : Int) : Option (Int × Int):=
  if x0_e = 0 then
  (some (x1,x2))
  else
  (none)
def zHc (x0_r : zA3) (x0_e : Int) (x1 : zA5) : Option (Int × zA3 × Int × zA5):=
  if x0_e ≠ 0 then
  (none)
  else
  ((zO0 x1 x0_r).bind fun p5=>
    (zM4 x0_e p5.1 p5.2.1).bind fun p10=>
    some (p10.1,p5.2.2.1,p10.2,p5.2.2.2))
def zM3 (x0 : zAf) (x1 : UInt64) (x2 : Int) : Option (UInt64 × zAf):=
  if x0.e = 0 then
  (some (x1,({ r:=x0.r,rows:=x0.rows,e:=x2 } : zAf)))
  else
  (none)
def zJy (x0 : zAf) : Option (UInt64 × zAf):=
  if x0.e ≠ 0 then
  (none)
  else
  ((zOu x0.r).bind fun p12=>
    (zM3 ({ r:=p12.2.2,rows:=x0.rows,e:=x0.e } : zAf) p12.1 p12.2.1).bind fun p16=>
    some (p16.1,p16.2))
def zKs (x0 : zA3) (x1 : Int) : Option (UInt64 × Bool × zA3):=
  (zGs x0 x1).bind fun p2=>
  if p2.2 = true then
  (some (p2.1,p2.2,({ b:=x0.b,n:=x0.n,at_:=W64 (x0.at_ + x1) } : zA3)))
  else
  (none)
def zI9 (x0 : zA3) (x1 : Int) (x2 : Int) : Option (UInt64 × zA3 × Int):=
  (zKs x0 x2).bind fun p3=>
  jn (fun (y10 : Int)=>
    (some (p3.1,p3.2.2,y10))) fun j1=>
  if ((!p3.2.1) = true) ∧ (x1 = 0) then
  (j1 2)
  else
  (j1 x1)
def zO (x0 : zAg) (x1 : zA3) (x2 : Int) : Option (UInt64 × zA3 × zAg × Int):=
  if x0.n = 0 then
  ((zI9 x1 x2 64).bind fun p7=>
    some (p7.1,p7.2.1,x0,p7.2.2))
  else
  ((zI9 x1 x2 1).bind fun p12=>
    if ((p12.1).toNat : Int) = 0 then
    (some ((0 : UInt64),p12.2.1,x0,p12.2.2))
    else
    ((zI9 p12.2.1 p12.2.2 1).bind fun p18=>
      if ((p18.1).toNat : Int) = 0 then
      (jn (fun (y25 : Bool)=>
          (jn (fun (y28 : Int)=>
              ((zI9 p18.2.1 y28 x0.win.size).bind fun p35=>
                (zCj x0.win).bind fun p40=>
                (remZ p40 64).bind fun z42=>
                jn (fun (y48 : Int)=>
                  (some (shl64 p35.1 ((zAe z42).toNat),p35.2.1,x0,y48))) fun j3=>
                if (((shl64 p35.1 ((zAe z42).toNat)).toNat : Int) = 0) ∧ (p35.2.2 = 0) then
                (j3 3)
                else
                (j3 p35.2.2))) fun j2=>
            if y25 = true then
            (j2 3)
            else
            (j2 p18.2.2))) fun j1=>
        if x0.win = ({ ahead:=0,size:=0 } : zBb) then
        (j1 (decide (p18.2.2 = 0)))
        else
        (j1 false))
      else
      ((zI9 p18.2.1 p18.2.2 5).bind fun p58=>
        (zI9 p58.2.1 p58.2.2 6).bind fun p66=>
        jn (fun (y74 : Bool)=>
          (jn (fun (y77 : Int)=>
              ((zI9 p66.2.1 y77 (W64 ((W64 ((p66.1).toNat : Int)) + 1))).bind fun p79=>
                if p79.2.2 ≠ 0 then
                (some ((0 : UInt64),p79.2.1,x0,p79.2.2))
                else
                ((zCj ({ ahead:=W64 ((p58.1).toNat : Int),size:=W64 ((W64 ((p66.1).toNat : Int)) + 1) } : zBb)).bind fun p85=>
                  jn (fun (y88 : Bool)=>
                    (jn (fun (y91 : Int)=>
                        (some (shl64 p79.1 ((zAe p85).toNat),p79.2.1,({ n:=x0.n,last:=x0.last,win:=({ ahead:=W64 ((p58.1).toNat : Int),size:=W64 ((W64 ((p66.1).toNat : Int)) + 1) } : zBb) } : zAg),y91))) fun j7=>
                      if y88 = true then
                      (j7 3)
                      else
                      (j7 p79.2.2))) fun j6=>
                  if ((shl64 p79.1 ((zAe p85).toNat)).toNat : Int) = 0 then
                  (j6 true)
                  else
                  ((zJd (shl64 p79.1 ((zAe p85).toNat))).bind fun p106=>
                    if ¬ (p106 = ({ ahead:=W64 ((p58.1).toNat : Int),size:=W64 ((W64 ((p66.1).toNat : Int)) + 1) } : zBb)) then
                    (j6 true)
                    else
                    ((zFv x0.win (shl64 p79.1 ((zAe p85).toNat))).bind fun p111=>
                      j6 p111))))) fun j5=>
            if y74 = true then
            (j5 3)
            else
            (j5 p66.2.2))) fun j4=>
        if p66.2.2 = 0 then
        ((zCj ({ ahead:=W64 ((p58.1).toNat : Int),size:=W64 ((W64 ((p66.1).toNat : Int)) + 1) } : zBb)).bind fun p119=>
          j4 (decide (p119 < 0)))
        else
        (j4 false))))
def zJ5 (x0 : zA3) : Option Int:=
  some x0.at_
def zOh (x0 : zAg) (x1 : zA3) : Option (UInt64 × Int × zA3 × zAg):=
  jn (fun (y6 : zAg) (y8 : zA3)=>
    ((zO y6 y8 0).bind fun p14=>
      if p14.2.2.2 ≠ 0 then
      (none)
      else
      ((zJ5 p14.2.1).bind fun p30=>
        (zJ5 x1).bind fun p32=>
        (zI6 x1 (W64 (p30 - p32))).bind fun p34=>
        some (p14.2.2.1.last ^^^ p14.1,0,p34.2,({ n:=W64 (p14.2.2.1.n + 1),last:=p14.2.2.1.last ^^^ p14.1,win:=p14.2.2.1.win } : zAg))))) fun j1=>
  j1 x0 x1
def zJz (x0_e : Int) (x1 : UInt64) (x2 : Int) : Option (UInt64 × Int):=
  if x0_e = 0 then
  (some (x1,x2))
  else
  (none)
def zIk (x0_r : zA3) (x0_e : Int) (x1 : zAg) : Option (UInt64 × zA3 × Int × zAg):=
  if x0_e ≠ 0 then
  (none)
  else
  ((zOh x1 x0_r).bind fun p7=>
    (zJz x0_e p7.1 p7.2.1).bind fun p16=>
    some (p16.1,p7.2.2.1,p16.2,p7.2.2.2))
def zEl (x0 : Bool) (x1 : Int) : Option Unit:=
  if x0 = true then
  (none)
  else
  (some ())
def zKp (x0 : zAf) (x1 : zA9) (x2 : Int) : Option (zA8 × zAf):=
  (zHc x0.r x0.e x0.rows.ords).bind fun p31=>
  (zHc p31.2.1 p31.2.2.1 x0.rows.times).bind fun p38=>
  if x1.Kind ≠ 3 then
  (none)
  else
  ((zJy ({ r:=p38.2.1,rows:=({ ords:=p31.2.2.2,times:=p38.2.2.2,spans:=x0.rows.spans,ints:=x0.rows.ints,re:=x0.rows.re,im:=x0.rows.im,hists:=x0.rows.hists } : zAt),e:=p38.2.2.1 } : zAf)).bind fun p46=>
    if x1.Kind = 1 then
    (none)
    else
    (if x1.Kind = 4 then
      (none)
      else
      (if x1.Kind = 5 then
        (none)
        else
        ((zIk p46.2.r p46.2.e p46.2.rows.re).bind fun p69=>
          (zEl (decide ((p31.1 < 0) ∨ (p31.1 > 4503599627370496))) 1).bind fun p84=>
          (zEl (decide (p31.1 ≤ x2)) 9).bind fun p88=>
          (zEl (decide ((p38.1 < 0) ∨ (p38.1 > 4503599627370496))) 1).bind fun p94=>
          (zEl (decide ((x1.Kind ≠ 3) ∧ ((0 < 1) ∨ (0 > p38.1)))) 1).bind fun p102=>
          if p69.2.2.1 ≠ 0 then
          (none)
          else
          ((zHk ({ Name:=x1.Name,Attrs:=x1.Attrs,Kind:=x1.Kind,Temp:=x1.Temp,Mono:=x1.Mono,Start:=W64 (p38.1 - 0),Time:=p38.1,Int_:=x1.Int_,Re:=p69.1,Im:=x1.Im,Hist:=x1.Hist,Flags:=W64 ((minU p46.1 (1048576 : UInt64)).toNat : Int) } : zA9)).bind fun p126=>
            (zO1 ({ r:=p69.2.1,rows:=({ ords:=p46.2.rows.ords,times:=p46.2.rows.times,spans:=p46.2.rows.spans,ints:=p46.2.rows.ints,re:=p69.2.2.2,im:=p46.2.rows.im,hists:=p46.2.rows.hists } : zAt),e:=p69.2.2.1 } : zAf) 0 p126).bind fun p128=>
            some (({ Ord:=p31.1,Point:=({ Name:=x1.Name,Attrs:=x1.Attrs,Kind:=x1.Kind,Temp:=x1.Temp,Mono:=x1.Mono,Start:=W64 (p38.1 - 0),Time:=p38.1,Int_:=x1.Int_,Re:=p69.1,Im:=x1.Im,Hist:=x1.Hist,Flags:=W64 ((minU p46.1 (1048576 : UInt64)).toNat : Int) } : zA9) } : zA8),p128.2))))))
def zHd (p14 : (Int × zAa)) (p31 : (zA9 × Int)) (j1 : (List zA8) → zAf → Option ((List zA8) × Int)) : Nat → (List zA8) → Int → Int → zAf → Option ((List zA8) × Int)
  | 0,_,_,_,_=>none
  | n + 1,y79,y82,y83,y84=>
    if y83 < p14.1 then
    ((zOj p31.1).bind fun p89=>
      (zKp y84 p89 y82).bind fun p94=>
      if p94.2.e ≠ 0 then
      (none)
      else
      ((zDn y79 [p94.1]).bind fun z126=>
        zHd p14 p31 j1 n z126 p94.1.Ord (W64 (y83 + 1)) p94.2))
    else
    (j1 y79 y84)
def zP8 (x0 : (List UInt8)) : Option ((List zA8) × Int):=
  (zMn x0).bind fun p7=>
  (zL9 p7 420).bind fun p10=>
  (zGo p10.2 128).bind fun p14=>
  (zGo p14.2 16777216).bind fun p18=>
  (quoZ (W64 (p18.1 + 7)) 8).bind fun z22=>
  (zIz p18.2 z22).bind fun p23=>
  (zLa p23.2).bind fun p28=>
  if p28 ≠ 0 then
  (none)
  else
  ((zO2 p10.1).bind fun p31=>
    if p31.2 ≠ 0 then
    (none)
    else
    ((zM6 p23.1 p18.1).bind fun p40=>
      if p40.2 ≠ 0 then
      (none)
      else
      ((zIl).bind fun p46=>
        jn (fun (y61 : (List zA8)) (y64 : zAf)=>
          ((zFe y64.r).bind fun p75=>
            if p75 > 0 then
            (none)
            else
            (some (y61,0)))) fun j1=>
        zHd p14 p31 j1 fuel ([] : List zA8) (-1) 0 ({ r:=p40.1,rows:=p46,e:=0 } : zAf))))
def zGq  : Option Bool:=
  (zP9 ([({ Ord:=0,Point:=({ Name:=([120] : List UInt8),Attrs:=[],Kind:=3,Temp:=0,Mono:=false,Start:=10,Time:=10,Int_:=0,Re:=(0 : UInt64),Im:=(0 : UInt64),Hist:=({ Scale:=0,Zero:=(0 : UInt64),Pos:=({ Offset:=0,Counts:=[] } : zAd),Neg:=({ Offset:=0,Counts:=[] } : zAd) } : zA2),Flags:=0 } : zA9) } : zA8)] : List zA8)).bind fun p11=>
  (zP8 p11.1).bind fun p14=>
  jn (fun (y21 : Bool)=>
    (jn (fun (y27 : Bool)=>
        (some y27)) fun j2=>
      if ((y21 = true) ∧ (p14.2 = 0)) ∧ ((p14.1.length : Int) = 1) then
      ((idx p14.1 0).bind fun z30=>
        j2 (decide (z30.Point.Time = 10)))
      else
      (none))) fun j1=>
  if (p11.2 = 0) ∧ ((p11.1.length : Int) = 18) then
  ((zNx p11.1 0 8).bind fun z39=>
    j1 (decide (z39 = ([5,120,32,51,48,48,1,77] : List UInt8))))
  else
  (none)
def zB2 (x0 : (List zA)) (j1 : Unit → Option Bool) : Nat → Int → Option Bool
  | 0,_=>none
  | n + 1,y5=>
    if y5 < (x0.length : Int) then
    ((idx x0 y5).bind fun z8=>
      jn (fun (y10 : Bool)=>
        (if y10 = true then
          (some false)
          else
          (zB2 x0 j1 n (W64 (y5 + 1))))) fun j2=>
      if (z8.Key.length : Int) > 100 then
      (j2 true)
      else
      ((idx x0 y5).bind fun z14=>
        j2 (decide ((z14.Val.length : Int) > 100))))
    else
    (j1 ())
def zEw (x0 : (List zA)) : Option Bool:=
  if (x0.length : Int) > 20 then
  (some false)
  else
  (jn (fun (_ : Unit)=>
      (some true)) fun j1=>
    zB2 x0 j1 fuel 0)
def zGp (x0 : zA2) : Option Bool:=
  some (decide (((x0.Pos.Counts.length : Int) ≤ 300) ∧ ((x0.Neg.Counts.length : Int) ≤ 300)))
def zCs (x0 : zA9) : Option Bool:=
  jn (fun (y13 : Bool)=>
    (jn (fun (y15 : Bool)=>
        (some y15)) fun j2=>
      if y13 = true then
      ((zGp x0.Hist).bind fun p18=>
        j2 p18)
      else
      (j2 false))) fun j1=>
  if (x0.Name.length : Int) ≤ 100 then
  ((zEw x0.Attrs).bind fun p21=>
    j1 p21)
  else
  (j1 false)
def zB0 (x0 : (List zA8)) (j1 : Unit → Option Bool) : Nat → Int → Option Bool
  | 0,_=>none
  | n + 1,y5=>
    if y5 < (x0.length : Int) then
    ((idx x0 y5).bind fun z8=>
      (zCs z8.Point).bind fun p17=>
      if (!p17) = true then
      (some false)
      else
      (zB0 x0 j1 n (W64 (y5 + 1))))
    else
    (j1 ())
def zEu (x0 : (List zA8)) (x1 : Int) : Option Bool:=
  if (x0.length : Int) > x1 then
  (some false)
  else
  (jn (fun (_ : Unit)=>
      (some true)) fun j1=>
    zB0 x0 j1 fuel 0)
def zBa (x0 : (List UInt8)) (j1 : Unit → Option Bool) : Nat → Int → Option Bool
  | 0,_=>none
  | n + 1,y5=>
    if y5 < (x0.length : Int) then
    ((idx x0 y5).bind fun z8=>
      if (¬ ((((z8).toNat : Int) ≥ 97) ∧ (((z8).toNat : Int) ≤ 122))) ∧ ((y5 = 0) ∨ (¬ ((((((z8).toNat : Int) ≥ 48) ∧ (((z8).toNat : Int) ≤ 57)) ∨ (((z8).toNat : Int) = 95)) ∨ (((z8).toNat : Int) = 46)))) then
      (some false)
      else
      (zBa x0 j1 n (W64 (y5 + 1))))
    else
    (j1 ())
def zDg (x0 : (List UInt8)) : Option Bool:=
  if ((x0.length : Int) < 1) ∨ ((x0.length : Int) > 32) then
  (some false)
  else
  (jn (fun (_ : Unit)=>
      (some true)) fun j1=>
    zBa x0 j1 fuel 0)
def zB1 (x0 : (List UInt8)) (j1 : Unit → Option Bool) : Nat → Int → Option Bool
  | 0,_=>none
  | n + 1,y5=>
    if y5 < (x0.length : Int) then
    ((idx x0 y5).bind fun z8=>
      if ((((((z8).toNat : Int) ≤ 32) ∨ (((z8).toNat : Int) ≥ 127)) ∨ (((z8).toNat : Int) = 61)) ∨ (((z8).toNat : Int) = 59)) ∨ (((z8).toNat : Int) = 44) then
      (some false)
      else
      (zB1 x0 j1 n (W64 (y5 + 1))))
    else
    (j1 ())
def zDw (x0 : (List UInt8)) : Option Bool:=
  if ((x0.length : Int) < 1) ∨ ((x0.length : Int) > 32) then
  (some false)
  else
  (jn (fun (_ : Unit)=>
      (some true)) fun j1=>
    zB1 x0 j1 fuel 0)
def zBv (x1 : (List zA)) (y8 : Int) (j3 : Unit → Option Int) : Nat → Int → Option Int
  | 0,_=>none
  | n + 1,y19=>
    if y19 < y8 then
    ((idx x1 y19).bind fun z23=>
      (idx x1 y8).bind fun z26=>
      if z23.Key = z26.Key then
      (some 8)
      else
      (zBv x1 y8 j3 n (W64 (y19 + 1))))
    else
    (j3 ())
def zB3 (x1 : (List zA)) (j1 : Unit → Option Int) : Nat → Int → Option Int
  | 0,_=>none
  | n + 1,y8=>
    if y8 < (x1.length : Int) then
    ((idx x1 y8).bind fun z11=>
      (zDg z11.Key).bind fun p13=>
      jn (fun (y15 : Bool)=>
        (if y15 = true then
          (some 3)
          else
          (jn (fun (_ : Unit)=>
              (zB3 x1 j1 n (W64 (y8 + 1)))) fun j3=>
            zBv x1 y8 j3 fuel 0))) fun j2=>
      if (!p13) = true then
      (j2 true)
      else
      ((idx x1 y8).bind fun z31=>
        (zDw z31.Val).bind fun p33=>
        j2 (!p33)))
    else
    (j1 ())
def zDx (x0 : (List UInt8)) (x1 : (List zA)) : Option Int:=
  (zDg x0).bind fun p3=>
  if (!p3) = true then
  (some 3)
  else
  (if (x1.length : Int) > 4 then
    (some 4)
    else
    (jn (fun (_ : Unit)=>
        (some 0)) fun j1=>
      zB3 x1 j1 fuel 0))
def zAv (x0 : zAd) (x1 : zAd) (j1 : Unit → Option Bool) : Nat → Int → Option Bool
  | 0,_=>none
  | n + 1,y17=>
    if y17 < (x0.Counts.length : Int) then
    ((idx x0.Counts y17).bind fun z21=>
      (idx x1.Counts y17).bind fun z24=>
      if ((z21).toNat : Int) ≠ ((z24).toNat : Int) then
      (some false)
      else
      (zAv x0 x1 j1 n (W64 (y17 + 1))))
    else
    (j1 ())
def zDf (x0 : zAd) (x1 : zAd) : Option Bool:=
  if (x0.Offset ≠ x1.Offset) ∨ ((x0.Counts.length : Int) ≠ (x1.Counts.length : Int)) then
  (some false)
  else
  (jn (fun (_ : Unit)=>
      (some true)) fun j1=>
    zAv x0 x1 j1 fuel 0)
def zFl (x0 : zA2) (x1 : zA2) : Option Bool:=
  jn (fun (y21 : Bool)=>
    (jn (fun (y23 : Bool)=>
        (some y23)) fun j2=>
      if y21 = true then
      ((zDf x0.Neg x1.Neg).bind fun p26=>
        j2 p26)
      else
      (j2 false))) fun j1=>
  if (x0.Scale = x1.Scale) ∧ (((x0.Zero).toNat : Int) = ((x1.Zero).toNat : Int)) then
  ((zDf x0.Pos x1.Pos).bind fun p29=>
    j1 p29)
  else
  (j1 false)
def zFk (x0 : zA2) : Option Bool:=
  (zFl x0 ({ Scale:=0,Zero:=(0 : UInt64),Pos:=({ Offset:=0,Counts:=[] } : zAd),Neg:=({ Offset:=0,Counts:=[] } : zAd) } : zA2)).bind fun p10=>
  some p10
def zEp (x0 : UInt64) : Option Bool:=
  (quo64 x0 (4503599627370496 : UInt64)).bind fun z1=>
  (rem64 z1 (2048 : UInt64)).bind fun z2=>
  some (decide (((z2).toNat : Int) ≠ 2047))
def zDr (x0 : UInt64) : Option Bool:=
  (quo64 x0 (4503599627370496 : UInt64)).bind fun z1=>
  (rem64 z1 (2048 : UInt64)).bind fun z2=>
  jn (fun (y3 : Bool)=>
    (some y3)) fun j1=>
  if ((z2).toNat : Int) = 2047 then
  ((rem64 x0 (4503599627370496 : UInt64)).bind fun z6=>
    j1 (decide (((z6).toNat : Int) ≠ 0)))
  else
  (j1 false)
def zFm (x0 : UInt64) (x1 : UInt64) : Option Bool:=
  (zDr x0).bind fun p1=>
  jn (fun (y3 : Bool)=>
    (if y3 = true then
      (some false)
      else
      ((rem64 x0 (9223372036854775808 : UInt64)).bind fun z6=>
        (rem64 x1 (9223372036854775808 : UInt64)).bind fun z7=>
        if (((z6).toNat : Int) = 0) ∧ (((z7).toNat : Int) = 0) then
        (some false)
        else
        (if (((x0).toNat : Int) ≥ 9223372036854775808) ∧ (((x1).toNat : Int) ≥ 9223372036854775808) then
          (some (decide (((z6).toNat : Int) > ((z7).toNat : Int))))
          else
          (if (((x0).toNat : Int) < 9223372036854775808) ∧ (((x1).toNat : Int) < 9223372036854775808) then
            (some (decide (((z6).toNat : Int) < ((z7).toNat : Int))))
            else
            (some (decide (((x0).toNat : Int) ≥ 9223372036854775808)))))))) fun j1=>
  if p1 = true then
  (j1 true)
  else
  ((zDr x1).bind fun p18=>
    j1 p18)
def zE3 (x0 : zAd) : Option Int:=
  if (x0.Counts.length : Int) > 160 then
  (some 4)
  else
  (if (x0.Counts.length : Int) = 0 then
    (if x0.Offset ≠ 0 then
      (some 3)
      else
      (some 0))
    else
    ((idx x0.Counts 0).bind fun z10=>
      jn (fun (y12 : Bool)=>
        (if y12 = true then
          (some 3)
          else
          (jn (fun (y17 : Bool)=>
              (if y17 = true then
                (some 1)
                else
                (some 0))) fun j2=>
            if (x0.Offset < (-1073741824)) ∨ (x0.Offset > 1073741824) then
            (j2 true)
            else
            (j2 (decide (W64 ((W64 (x0.Offset + (x0.Counts.length : Int))) - 1) > 1073741824)))))) fun j1=>
      if ((z10).toNat : Int) = 0 then
      (j1 true)
      else
      ((idx x0.Counts (W64 ((x0.Counts.length : Int) - 1))).bind fun z22=>
        j1 (decide (((z22).toNat : Int) = 0)))))
def zBj (x1 : (List UInt64)) (j1 : UInt64 → Option (UInt64 × Bool)) : Nat → UInt64 → Int → Option (UInt64 × Bool)
  | 0,_,_=>none
  | n + 1,y5,y6=>
    if y6 < (x1.length : Int) then
    ((idx x1 y6).bind fun z9=>
      if ((z9).toNat : Int) > (((18446744073709551615 : UInt64) - y5).toNat : Int) then
      (some ((0 : UInt64),false))
      else
      ((idx x1 y6).bind fun z12=>
        zBj x1 j1 n (y5 + z12) (W64 (y6 + 1))))
    else
    (j1 y5)
def zEh (x0 : UInt64) (x1 : (List UInt64)) : Option (UInt64 × Bool):=
  jn (fun (y3 : UInt64)=>
    (some (y3,true))) fun j1=>
  zBj x1 j1 fuel x0 0
def zEy (x0 : zA2) : Option (UInt64 × Bool):=
  (zEh x0.Zero x0.Pos.Counts).bind fun p10=>
  if (!p10.2) = true then
  (some ((0 : UInt64),false))
  else
  ((zEh p10.1 x0.Neg.Counts).bind fun p13=>
    some (p13.1,p13.2))
def zEz (x0 : zA2) : Option Int:=
  if (x0.Scale < (-10)) ∨ (x0.Scale > 20) then
  (some 1)
  else
  ((zE3 x0.Pos).bind fun p13=>
    if p13 ≠ 0 then
    (some p13)
    else
    ((zE3 x0.Neg).bind fun p16=>
      if p16 ≠ 0 then
      (some p16)
      else
      ((zEy x0).bind fun p19=>
        if (!p19.2) = true then
        (some 4)
        else
        (some 0))))
def zEv (x0 : zA9) : Option Int:=
  (zDx x0.Name x0.Attrs).bind fun p13=>
  if p13 ≠ 0 then
  (some p13)
  else
  (if (x0.Kind < 1) ∨ (x0.Kind > 5) then
    (some 14)
    else
    (if ((x0.Kind = 3) ∧ (x0.Temp ≠ 0)) ∨ (((x0.Kind ≠ 3) ∧ (x0.Temp ≠ 1)) ∧ (x0.Temp ≠ 2)) then
      (some 14)
      else
      (if ((x0.Mono = true) ∧ (x0.Kind ≠ 1)) ∧ (x0.Kind ≠ 2) then
        (some 1)
        else
        (if (((x0.Start < 0) ∨ (x0.Time > 4503599627370496)) ∨ ((x0.Kind = 3) ∧ (x0.Start ≠ x0.Time))) ∨ ((x0.Kind ≠ 3) ∧ (x0.Start ≥ x0.Time)) then
          (some 1)
          else
          (jn (fun (y50 : Bool)=>
              (if y50 = true then
                (some 3)
                else
                (if ((((x0.Kind = 1) ∨ (x0.Kind = 4)) ∧ (((x0.Re).toNat : Int) ≠ 0)) ∨ (x0.Flags < 0)) ∨ (x0.Flags > 31) then
                  (some 3)
                  else
                  (jn (fun (y64 : Bool)=>
                      (if y64 = true then
                        (some 11)
                        else
                        (jn (fun (y69 : Bool)=>
                            (if (y69 = true) ∨ (((x0.Mono = true) ∧ (x0.Kind = 1)) ∧ (x0.Int_ < 0)) then
                              (some 1)
                              else
                              (if x0.Kind = 4 then
                                ((zEz x0.Hist).bind fun p79=>
                                  some p79)
                                else
                                (some 0)))) fun j3=>
                          if (x0.Mono = true) ∧ (x0.Kind = 2) then
                          ((zFm x0.Re (0 : UInt64)).bind fun p82=>
                            j3 p82)
                          else
                          (j3 false)))) fun j2=>
                    if (x0.Mono = true) ∧ (x0.Kind = 2) then
                    ((zEp x0.Re).bind fun p85=>
                      j2 (!p85))
                    else
                    (j2 false))))) fun j1=>
            if ((x0.Kind ≠ 1) ∧ (x0.Int_ ≠ 0)) ∨ ((x0.Kind ≠ 5) ∧ (((x0.Im).toNat : Int) ≠ 0)) then
            (j1 true)
            else
            (jn (fun (y88 : Bool)=>
                (j1 y88)) fun j4=>
              if x0.Kind ≠ 4 then
              ((zFk x0.Hist).bind fun p91=>
                j4 (!p91))
              else
              (j4 false)))))))
def zBq (x0 : (List zA)) (y7 : (List zA)) (y10 : Int) (j2 : Int → Option (List zA)) : Nat → Int → Option (List zA)
  | 0,_=>none
  | n + 1,y33=>
    jn (fun (y35 : Bool)=>
      (if y35 = true then
        (zBq x0 y7 y10 j2 n (W64 (y33 - 1)))
        else
        (j2 y33))) fun j3=>
    if y33 > 0 then
    ((idx y7 (W64 (y33 - 1))).bind fun z40=>
      (idx x0 y10).bind fun z41=>
      j3 (Op.bytesLess z41.Key z40.Key))
    else
    (j3 false)
def zAx (x0 : (List zA)) (j1 : (List zA) → Option (List zA)) : Nat → (List zA) → Int → Option (List zA)
  | 0,_,_=>none
  | n + 1,y7,y10=>
    if y10 < (x0.length : Int) then
    (jn (fun (y15 : Int)=>
        ((zNx y7 0 y15).bind fun z17=>
          (zDn ([] : List zA) z17).bind fun z21=>
          (idx x0 y10).bind fun z25=>
          (zDn z21 [z25]).bind fun z27=>
          (zNx y7 y15 ((y7).length)).bind fun z29=>
          (zDn z27 z29).bind fun z31=>
          zAx x0 j1 n z31 (W64 (y10 + 1)))) fun j2=>
      zBq x0 y7 y10 j2 fuel (y7.length : Int))
    else
    (j1 y7)
def zEn (x0 : (List zA)) : Option (List zA):=
  jn (fun (y3 : (List zA))=>
    (some y3)) fun j1=>
  zAx x0 j1 fuel ([] : List zA) 0
def zAz (p6 : (List zA)) (j1 : (List UInt8) → Option ((List UInt8) × Int)) : Nat → (List UInt8) → Int → Option ((List UInt8) × Int)
  | 0,_,_=>none
  | n + 1,y11,y12=>
    if y12 < (p6.length : Int) then
    ((catS y11 ([59] : List UInt8)).bind fun z16=>
      (idx p6 y12).bind fun z17=>
      (catS z16 z17.Key).bind fun z18=>
      (catS z18 ([61] : List UInt8)).bind fun z19=>
      (idx p6 y12).bind fun z20=>
      (catS z19 z20.Val).bind fun z21=>
      zAz p6 j1 n z21 (W64 (y12 + 1)))
    else
    (j1 y11)
def zE2 (x0 : (List UInt8)) (x1 : (List zA)) : Option ((List UInt8) × Int):=
  (zDx x0 x1).bind fun p3=>
  if p3 ≠ 0 then
  (some (([] : List UInt8),p3))
  else
  ((zEn x1).bind fun p6=>
    jn (fun (y9 : (List UInt8))=>
      (some (y9,0))) fun j1=>
    zAz p6 j1 fuel x0 0)
def zDv (x0 : Int) : Option (List UInt8):=
  some ([toU8 (W64 (48 + x0))] : List UInt8)
def zFy (x0 : Bool) : Option Int:=
  if x0 = true then
  (some 1)
  else
  (some 0)
def zEg (x0 : zA9) : Option ((List UInt8) × Int):=
  (zEv x0).bind fun p13=>
  if p13 ≠ 0 then
  (some (([] : List UInt8),p13))
  else
  ((zE2 x0.Name x0.Attrs).bind fun p16=>
    (catS p16.1 ([32] : List UInt8)).bind fun z19=>
    (zDv x0.Kind).bind fun p20=>
    (catS z19 p20).bind fun z22=>
    (zDv x0.Temp).bind fun p23=>
    (catS z22 p23).bind fun z25=>
    (zFy x0.Mono).bind fun p26=>
    (zDv p26).bind fun p28=>
    (catS z25 p28).bind fun z30=>
    some (z30,0))
def zC2 (x0 : Int) : Option UInt64:=
  if x0 ≥ 0 then
  (some ((2 : UInt64) * (zAe x0)))
  else
  (some (((2 : UInt64) * (zAe (W64 ((-1) - x0)))) + (1 : UInt64)))
def zE5 (x0 : Int) : Option Int:=
  (idx ([0,7,20,64] : List Int) x0).bind fun z4=>
  some z4
def zC6 (x0 : Int) (j1 : UInt64 → Option UInt64) : Nat → UInt64 → Int → Option UInt64
  | 0,_,_=>none
  | n + 1,y3,y4=>
    if y4 < x0 then
    (zC6 x0 j1 n ((2 : UInt64) * y3) (W64 (y4 + 1)))
    else
    (j1 y3)
def zCu (x0 : Int) : Option UInt64:=
  jn (fun (y1 : UInt64)=>
    (some y1)) fun j1=>
  zC6 x0 j1 fuel (1 : UInt64) 0
def zBf (x0 : UInt64) (j1 : Unit → Option Int) : Nat → Int → Option Int
  | 0,_=>none
  | n + 1,y2=>
    if y2 < 3 then
    ((zE5 y2).bind fun p5=>
      (zCu p5).bind fun p7=>
      if ((x0).toNat : Int) < ((p7).toNat : Int) then
      (some y2)
      else
      (zBf x0 j1 n (W64 (y2 + 1))))
    else
    (j1 ())
def zF (x0 : UInt64) : Option Int:=
  jn (fun (_ : Unit)=>
    (some 3)) fun j1=>
  zBf x0 j1 fuel 0
def zCh (x1 : Int) (j1 : UInt64 → (List Int) → Option ((List Int) × Bool)) : Nat → UInt64 → (List Int) → Int → Option ((List Int) × Bool)
  | 0,_,_,_=>none
  | n + 1,y11,y12,y15=>
    if y15 < x1 then
    ((rem64 y11 (2 : UInt64)).bind fun z20=>
      (zDn ([W64 ((z20).toNat : Int)] : List Int) y12).bind fun z24=>
      (quo64 y11 (2 : UInt64)).bind fun z26=>
      zCh x1 j1 n z26 z24 (W64 (y15 + 1)))
    else
    (j1 y11 y12)
def zAy (x0 : UInt64) (x1 : Int) : Option ((List Int) × Bool):=
  if (x1 < 0) ∨ (x1 > 64) then
  (some (([] : List Int),false))
  else
  (jn (fun (y6 : UInt64) (y7 : (List Int))=>
      (some (y7,decide (((y6).toNat : Int) = 0)))) fun j1=>
    zCh x1 j1 fuel x0 ([] : List Int) 0)
def zAs (x0 : UInt64) : Option (List Int):=
  (zF x0).bind fun p1=>
  (zAy (zAe p1) 2).bind fun p3=>
  (zE5 p1).bind fun p6=>
  (zAy x0 p6).bind fun p8=>
  (zDn p3.1 p8.1).bind fun z11=>
  some z11
def zBr (x0 : Int) : Option Int:=
  (idx ([0,6,10,16,64] : List Int) x0).bind fun z4=>
  some z4
def zBu (x0 : Int) (j1 : Unit → Option Int) : Nat → Int → Option Int
  | 0,_=>none
  | n + 1,y3=>
    if y3 < 4 then
    ((zBr y3).bind fun p6=>
      (zCu (W64 (p6 - 1))).bind fun p8=>
      if (x0 ≥ W64 (0 - (W64 ((p8).toNat : Int)))) ∧ (x0 < W64 ((p8).toNat : Int)) then
      (some y3)
      else
      (zBu x0 j1 n (W64 (y3 + 1))))
    else
    (j1 ())
def zFz (x0 : Int) : Option Int:=
  if x0 = 0 then
  (some 0)
  else
  (jn (fun (_ : Unit)=>
      (some 4)) fun j1=>
    zBu x0 j1 fuel 1)
def zCd (p1 : Int) (j1 : (List Int) → Option (List Int)) : Nat → (List Int) → Int → Option (List Int)
  | 0,_,_=>none
  | n + 1,y29,y32=>
    if y32 < p1 then
    ((zDn y29 [1]).bind fun z37=>
      zCd p1 j1 n z37 (W64 (y32 + 1)))
    else
    (j1 y29)
def zE6 (x0 : Int) : Option (List Int):=
  (zFz x0).bind fun p1=>
  jn (fun (y3 : (List Int))=>
    (jn (fun (y7 : (List Int))=>
        (jn (fun (y11 : UInt64)=>
            ((zBr p1).bind fun p13=>
              (zAy y11 p13).bind fun p15=>
              (zDn y7 p15.1).bind fun z18=>
              some z18)) fun j3=>
          if p1 < 4 then
          ((zBr p1).bind fun p21=>
            (zCu p21).bind fun p23=>
            (rem64 (zAe x0) p23).bind fun z25=>
            j3 z25)
          else
          (j3 (zAe x0)))) fun j2=>
      if p1 < 4 then
      ((zDn y3 [0]).bind fun z27=>
        j2 z27)
      else
      (j2 y3))) fun j1=>
  zCd p1 j1 fuel ([] : List Int) 0
def zBk (x0 : (List Int)) (j1 : (List Int) → Option (List Int)) : Nat → (List Int) → Int → Option (List Int)
  | 0,_,_=>none
  | n + 1,y7,y10=>
    if y10 < (x0.length : Int) then
    (jn (fun (y15 : (List Int))=>
        (zBk x0 j1 n y15 (W64 (y10 + 1)))) fun j2=>
      if y10 = 0 then
      ((idx x0 0).bind fun z20=>
        (zC2 z20).bind fun p22=>
        (zAs p22).bind fun p24=>
        (zDn y7 p24).bind fun z27=>
        j2 z27)
      else
      (if y10 = 1 then
        ((idx x0 1).bind fun z31=>
          (idx x0 0).bind fun z34=>
          (zC2 (W64 (((zAe z31) - (zAe z34)).toNat : Int))).bind fun p37=>
          (zAs p37).bind fun p39=>
          (zDn y7 p39).bind fun z42=>
          j2 z42)
        else
        ((idx x0 y10).bind fun z45=>
          (idx x0 (W64 (y10 - 1))).bind fun z48=>
          (idx x0 (W64 (y10 - 2))).bind fun z51=>
          (zE6 (W64 ((((zAe z45) - ((2 : UInt64) * (zAe z48))) + (zAe z51)).toNat : Int))).bind fun p54=>
          (zDn y7 p54).bind fun z57=>
          j2 z57)))
    else
    (j1 y7)
def zEj (x0 : (List Int)) : Option (List Int):=
  jn (fun (y3 : (List Int))=>
    (some y3)) fun j1=>
  zBk x0 j1 fuel ([] : List Int) 0
def zBn (x0 : (List Int)) (x1 : Int) : Option (List Int):=
  (zEj x0).bind fun p3=>
  (zDn ([] : List Int) x0).bind fun z6=>
  (zDn z6 [x1]).bind fun z10=>
  (zEj z10).bind fun p12=>
  (zNx p12 (p3.length : Int) ((p12).length)).bind fun z15=>
  some z15
def zEi (x0 : UInt64) : Option (List Int):=
  (zAy x0 64).bind fun p1=>
  some p1.1
def zD0 (x0 : zAc) (x1 : UInt64) (x2 : zAj) : Option zAc:=
  (zDn ([] : List UInt64) x0.L).bind fun z13=>
  (zDn z13 ([x1] : List UInt64)).bind fun z24=>
  some ({ L:=z24,W:=x2 } : zAc)
def zE4 (x0 : zAc) : Option UInt64:=
  if (x0.L.length : Int) = 0 then
  (some (0 : UInt64))
  else
  ((idx x0.L (W64 ((x0.L.length : Int) - 1))).bind fun z8=>
    some z8)
def zCb (x0 : (List Int)) (x1 : zAj) (j1 : Unit → Option Bool) : Nat → Int → Option Bool
  | 0,_=>none
  | n + 1,y7=>
    if y7 < 64 then
    ((idx x0 y7).bind fun z10=>
      jn (fun (y12 : Bool)=>
        (if y12 = true then
          (some false)
          else
          (zCb x0 x1 j1 n (W64 (y7 + 1))))) fun j2=>
      if z10 = 1 then
      (jn (fun (y16 : Bool)=>
          (j2 y16)) fun j3=>
        if y7 < x1.From then
        (j3 true)
        else
        (j3 (decide (y7 ≥ W64 (x1.From + x1.Size)))))
      else
      (j2 false))
    else
    (j1 ())
def zGb (x0 : (List Int)) (x1 : zAj) : Option Bool:=
  jn (fun (_ : Unit)=>
    (some (decide (x1.Size > 0)))) fun j1=>
  zCb x0 x1 j1 fuel 0
def zC1 (x0 : (List Int)) (y6 : Int) (j2 : Int → Option zAj) : Nat → Int → Option zAj
  | 0,_=>none
  | n + 1,y12=>
    jn (fun (y14 : Bool)=>
      (if y14 = true then
        (zC1 x0 y6 j2 n (W64 (y12 - 1)))
        else
        (j2 y12))) fun j3=>
    if y12 > y6 then
    ((idx x0 (W64 (y12 - 1))).bind fun z18=>
      j3 (decide (z18 = 0)))
    else
    (j3 false)
def zC0 (x0 : (List Int)) (j1 : Int → Option zAj) : Nat → Int → Option zAj
  | 0,_=>none
  | n + 1,y20=>
    jn (fun (y22 : Bool)=>
      (if y22 = true then
        (zC0 x0 j1 n (W64 (y20 + 1)))
        else
        (j1 y20))) fun j4=>
    if y20 < 31 then
    ((idx x0 y20).bind fun z26=>
      j4 (decide (z26 = 0)))
    else
    (j4 false)
def zEo (x0 : (List Int)) : Option zAj:=
  jn (fun (y6 : Int)=>
    (jn (fun (y8 : Int)=>
        (some ({ From:=y6,Size:=W64 (y8 - y6) } : zAj))) fun j2=>
      zC1 x0 y6 j2 fuel 64)) fun j1=>
  zC0 x0 j1 fuel 0
def zDq (x0 : zAc) (x1 : UInt64) : Option ((List Int) × zAc):=
  if (x0.L.length : Int) = 0 then
  ((zEi x1).bind fun p12=>
    (zD0 x0 x1 x0.W).bind fun p15=>
    some (p12,p15))
  else
  ((zE4 x0).bind fun p20=>
    (zEi (x1 ^^^ p20)).bind fun p22=>
    (zE4 x0).bind fun p25=>
    if ((x1).toNat : Int) = ((p25).toNat : Int) then
    ((zD0 x0 x1 x0.W).bind fun p31=>
      some (([0] : List Int),p31))
    else
    ((zGb p22 x0.W).bind fun p36=>
      if p36 = true then
      ((zNx p22 x0.W.From (W64 (x0.W.From + x0.W.Size))).bind fun z46=>
        (zDn ([1,0] : List Int) z46).bind fun z51=>
        (zD0 x0 x1 x0.W).bind fun p53=>
        some (z51,p53))
      else
      ((zEo p22).bind fun p60=>
        (zAy (zAe p60.From) 5).bind fun p65=>
        (zAy (zAe (W64 (p60.Size - 1))) 6).bind fun p68=>
        (zDn ([1,1] : List Int) p65.1).bind fun z74=>
        (zDn z74 p68.1).bind fun z76=>
        (zNx p22 p60.From (W64 (p60.From + p60.Size))).bind fun z85=>
        (zDn z76 z85).bind fun z87=>
        (zD0 x0 x1 p60).bind fun p89=>
        some (z87,p89))))
def zC (x0 : (List UInt64)) (j1 : zAc → Option (List Int)) : Nat → Int → zAc → Option (List Int)
  | 0,_,_=>none
  | n + 1,y19,y20=>
    if y19 < (x0.length : Int) then
    ((idx x0 y19).bind fun z28=>
      (zDq y20 z28).bind fun p31=>
      zC x0 j1 n (W64 (y19 + 1)) p31.2)
    else
    (j1 y20)
def zB4 (x0 : (List UInt64)) (x1 : UInt64) : Option (List Int):=
  jn (fun (y6 : zAc)=>
    ((zDq y6 x1).bind fun p10=>
      some p10.1)) fun j1=>
  zC x0 j1 fuel 0 ({ L:=([] : List UInt64),W:=({ From:=0,Size:=0 } : zAj) } : zAc)
def zEx (x0 : zA2) (x1 : zA2) : Option Bool:=
  some (decide (((((x0.Scale = x1.Scale) ∧ (x0.Pos.Offset = x1.Pos.Offset)) ∧ (x0.Neg.Offset = x1.Neg.Offset)) ∧ ((x0.Pos.Counts.length : Int) = (x1.Pos.Counts.length : Int))) ∧ ((x0.Neg.Counts.length : Int) = (x1.Neg.Counts.length : Int))))
def zD5 (x0 : zA2) : Option (List UInt64):=
  (zDn ([x0.Zero] : List UInt64) x0.Pos.Counts).bind fun z13=>
  (zDn z13 x0.Neg.Counts).bind fun z15=>
  some z15
def zCe (x0 : Int) (x1 : Int) : Option (List Int):=
  (zAy (zAe x0) x1).bind fun p1=>
  some p1.1
def zCt (x0 : zAd) : Option (List Int):=
  (zCe (x0.Counts.length : Int) 8).bind fun p7=>
  jn (fun (y10 : (List Int))=>
    (some y10)) fun j1=>
  if (x0.Counts.length : Int) > 0 then
  ((zC2 x0.Offset).bind fun p15=>
    (zAs p15).bind fun p17=>
    (zDn p7 p17).bind fun z20=>
    j1 z20)
  else
  (j1 p7)
def zB5 (p26 : (List UInt64)) (p29 : (List UInt64)) (j2 : (List Int) → Option (List Int)) : Nat → (List Int) → Int → Option (List Int)
  | 0,_,_=>none
  | n + 1,y36,y39=>
    if y39 < (p26.length : Int) then
    ((idx p26 y39).bind fun z43=>
      (idx p29 y39).bind fun z44=>
      (zC2 (W64 ((z43 - z44).toNat : Int))).bind fun p45=>
      (zAs p45).bind fun p47=>
      (zDn y36 p47).bind fun z50=>
      zB5 p26 p29 j2 n z50 (W64 (y39 + 1)))
    else
    (j2 y36)
def zAw (p70 : (List UInt64)) (j3 : (List Int) → Option (List Int)) : Nat → (List Int) → Int → Option (List Int)
  | 0,_,_=>none
  | n + 1,y77,y80=>
    if y80 < (p70.length : Int) then
    ((idx p70 y80).bind fun z83=>
      (zAs z83).bind fun p84=>
      (zDn y77 p84).bind fun z87=>
      zAw p70 j3 n z87 (W64 (y80 + 1)))
    else
    (j3 y77)
def zDp (x0 : (List zA2)) (x1 : zA2) : Option (List Int):=
  jn (fun (y12 : Bool)=>
    (if y12 = true then
      ((idx x0 (W64 ((x0.length : Int) - 1))).bind fun z19=>
        (zD5 x1).bind fun p26=>
        (zD5 z19).bind fun p29=>
        jn (fun (y32 : (List Int))=>
          (some y32)) fun j2=>
        zB5 p26 p29 j2 fuel ([1] : List Int) 0)
      else
      ((zCe (W64 (x1.Scale + 10)) 5).bind fun p55=>
        (zDn ([0] : List Int) p55).bind fun z58=>
        (zCt x1.Pos).bind fun p60=>
        (zDn z58 p60).bind fun z63=>
        (zCt x1.Neg).bind fun p65=>
        (zDn z63 p65).bind fun z68=>
        (zD5 x1).bind fun p70=>
        jn (fun (y73 : (List Int))=>
          (some y73)) fun j3=>
        zAw p70 j3 fuel z68 0))) fun j1=>
  if (x0.length : Int) > 0 then
  ((idx x0 (W64 ((x0.length : Int) - 1))).bind fun z91=>
    (zEx z91 x1).bind fun p98=>
    j1 p98)
  else
  (j1 false)
def zB9 (x0 : (List zA8)) (j1 : (List Int) → Option (List Int)) : Nat → (List Int) → (List Int) → (List Int) → (List Int) → (List Int) → (List UInt64) → (List UInt64) → (List zA2) → Int → Option (List Int)
  | 0,_,_,_,_,_,_,_,_,_=>none
  | n + 1,y7,y10,y13,y16,y19,y22,y25,y28,y31=>
    if y31 < (x0.length : Int) then
    ((idx x0 y31).bind fun z50=>
      (idx x0 y31).bind fun z62=>
      (zBn y10 z62.Ord).bind fun p71=>
      (zDn y7 p71).bind fun z76=>
      (idx x0 y31).bind fun z78=>
      (zDn y10 [z78.Ord]).bind fun z87=>
      (zBn y13 z50.Point.Time).bind fun p89=>
      (zDn z76 p89).bind fun z94=>
      (zDn y13 [z50.Point.Time]).bind fun z96=>
      jn (fun (y98 : (List Int)) (y101 : (List Int))=>
        ((zAs (zAe z50.Point.Flags)).bind fun p105=>
          (zDn y98 p105).bind fun z108=>
          jn (fun (y110 : (List Int)) (y113 : (List Int)) (y116 : (List UInt64)) (y119 : (List UInt64)) (y122 : (List zA2))=>
            (zB9 x0 j1 n y110 z87 z96 y101 y113 y116 y119 y122 (W64 (y31 + 1)))) fun j3=>
          if z50.Point.Kind = 1 then
          ((zBn y19 z50.Point.Int_).bind fun p127=>
            (zDn z108 p127).bind fun z132=>
            (zDn y19 [z50.Point.Int_]).bind fun z134=>
            j3 z132 z134 y22 y25 y28)
          else
          (jn (fun (y136 : Bool)=>
              (if y136 = true then
                ((zB4 y22 z50.Point.Re).bind fun p139=>
                  (zDn z108 p139).bind fun z142=>
                  (zDn y22 [z50.Point.Re]).bind fun z144=>
                  j3 z142 y19 z144 y25 y28)
                else
                (if z50.Point.Kind = 4 then
                  ((zDp y28 z50.Point.Hist).bind fun p147=>
                    (zDn z108 p147).bind fun z150=>
                    (zDn y28 [z50.Point.Hist]).bind fun z152=>
                    j3 z150 y19 y22 y25 z152)
                  else
                  (if z50.Point.Kind = 5 then
                    ((zB4 y22 z50.Point.Re).bind fun p155=>
                      (zDn z108 p155).bind fun z158=>
                      (zDn y22 [z50.Point.Re]).bind fun z160=>
                      (zB4 y25 z50.Point.Im).bind fun p162=>
                      (zDn z158 p162).bind fun z165=>
                      (zDn y25 [z50.Point.Im]).bind fun z167=>
                      j3 z165 y19 z160 z167 y28)
                    else
                    (j3 z108 y19 y22 y25 y28))))) fun j4=>
            if z50.Point.Kind = 2 then
            (j4 (decide (z50.Point.Kind = 2)))
            else
            (j4 (decide (z50.Point.Kind = 3)))))) fun j2=>
      if z50.Point.Kind ≠ 3 then
      ((zBn y16 (W64 (z50.Point.Time - z50.Point.Start))).bind fun p171=>
        (zDn z94 p171).bind fun z176=>
        (zDn y16 [W64 (z50.Point.Time - z50.Point.Start)]).bind fun z178=>
        j2 z176 z178)
      else
      (j2 z94 y16))
    else
    (j1 y7)
def zFj (x0 : (List zA8)) : Option (List Int):=
  jn (fun (y3 : (List Int))=>
    (some y3)) fun j1=>
  zB9 x0 j1 fuel ([] : List Int) ([] : List Int) ([] : List Int) ([] : List Int) ([] : List Int) ([] : List UInt64) ([] : List UInt64) ([] : List zA2) 0
def zC7 (x0 : Int) (j1 : UInt64 → Option UInt64) : Nat → UInt64 → Int → Option UInt64
  | 0,_,_=>none
  | n + 1,y3,y4=>
    if y4 < x0 then
    (zC7 x0 j1 n ((2 : UInt64) * y3) (W64 (y4 + 1)))
    else
    (j1 y3)
def zDy (x0 : Int) : Option UInt64:=
  jn (fun (y1 : UInt64)=>
    (some y1)) fun j1=>
  zC7 x0 j1 fuel (1 : UInt64) 0
def zC3 (x0 : UInt64) (j1 : Unit → Option Int) : Nat → Int → Option Int
  | 0,_=>none
  | n + 1,y2=>
    if y2 < 8 then
    ((zDy (W64 (7 + (W64 (7 * y2))))).bind fun p5=>
      if ((x0).toNat : Int) < ((p5).toNat : Int) then
      (some y2)
      else
      (zC3 x0 j1 n (W64 (y2 + 1))))
    else
    (j1 ())
def zEq (x0 : UInt64) : Option Int:=
  jn (fun (_ : Unit)=>
    (some 8)) fun j1=>
  zC3 x0 j1 fuel 0
def zCg (p1 : Int) (j2 : Int → Option (List UInt8)) : Nat → Int → Int → Option (List UInt8)
  | 0,_,_=>none
  | n + 1,y18,y19=>
    if y19 < p1 then
    ((zDy y19).bind fun p22=>
      (quoZ 128 (W64 ((p22).toNat : Int))).bind fun z24=>
      zCg p1 j2 n (W64 (y18 + z24)) (W64 (y19 + 1)))
    else
    (j2 y18)
def zCf (p1 : Int) (j1 : UInt64 → (List UInt8) → Option (List UInt8)) : Nat → UInt64 → (List UInt8) → Int → Option (List UInt8)
  | 0,_,_,_=>none
  | n + 1,y25,y26,y29=>
    if y29 < p1 then
    ((rem64 y25 (256 : UInt64)).bind fun z34=>
      (zDn ([toU8 ((z34).toNat : Int)] : List UInt8) y26).bind fun z38=>
      (quo64 y25 (256 : UInt64)).bind fun z40=>
      zCf p1 j1 n z40 z38 (W64 (y29 + 1)))
    else
    (j1 y25 y26)
def zDs (x0 : UInt64) : Option (List UInt8):=
  (zEq x0).bind fun p1=>
  jn (fun (y3 : UInt64) (y4 : (List UInt8))=>
    (jn (fun (y8 : Int)=>
        (jn (fun (y10 : Int)=>
            ((zDn ([toU8 y10] : List UInt8) y4).bind fun z15=>
              some z15)) fun j3=>
          if p1 < 8 then
          (j3 (W64 (y8 + (W64 ((y3).toNat : Int)))))
          else
          (j3 y8))) fun j2=>
      zCg p1 j2 fuel 0 0)) fun j1=>
  zCf p1 j1 fuel x0 ([] : List UInt8) 0
def zFn (x0 : (List UInt8)) : Option (List UInt8):=
  (zDs (zAe (x0.length : Int))).bind fun p1=>
  (zDn p1 x0).bind fun z4=>
  some z4
def zC8 (x0 : (List Int)) (y10 : Int) (j2 : Int → Option (List UInt8)) : Nat → Int → Int → Option (List UInt8)
  | 0,_,_=>none
  | n + 1,y19,y20=>
    if y20 < 8 then
    (jn (fun (y23 : Int)=>
        (zC8 x0 y10 j2 n y23 (W64 (y20 + 1)))) fun j3=>
      if W64 (y10 + y20) < (x0.length : Int) then
      ((idx x0 (W64 (y10 + y20))).bind fun z26=>
        j3 (W64 ((W64 (2 * y19)) + z26)))
      else
      (j3 (W64 (2 * y19))))
    else
    (j2 y19)
def zBw (x0 : (List Int)) (j1 : (List UInt8) → Option (List UInt8)) : Nat → (List UInt8) → Int → Option (List UInt8)
  | 0,_,_=>none
  | n + 1,y7,y10=>
    if y10 < (x0.length : Int) then
    (jn (fun (y15 : Int)=>
        ((zDn y7 [toU8 y15]).bind fun z17=>
          zBw x0 j1 n z17 (W64 (y10 + 8)))) fun j2=>
      zC8 x0 y10 j2 fuel 0 0)
    else
    (j1 y7)
def zF0 (x0 : (List Int)) : Option (List UInt8):=
  jn (fun (y3 : (List UInt8))=>
    (some y3)) fun j1=>
  zBw x0 j1 fuel ([] : List UInt8) 0
def zDb (x0 : (List UInt8)) (x1 : (List zA8)) : Option (List UInt8):=
  (zFj x1).bind fun p3=>
  (zFn x0).bind fun p7=>
  (zDs (zAe (x1.length : Int))).bind fun p10=>
  (catS p7 p10).bind fun z13=>
  (zDs (zAe (p3.length : Int))).bind fun p14=>
  (catS z13 p14).bind fun z17=>
  (zF0 p3).bind fun p18=>
  (catS z17 p18).bind fun z21=>
  (lenS z21).bind fun z22=>
  some z22
def zEf (x0 : (List UInt8)) (x1 : (List zA8)) (x2 : Int) (x3 : zA8) : Option Int:=
  (zEg x3.Point).bind fun p15=>
  if p15.2 ≠ 0 then
  (some p15.2)
  else
  (if p15.1 ≠ x0 then
    (some 14)
    else
    (if (x3.Ord < 0) ∨ (x3.Ord > 4503599627370496) then
      (some 1)
      else
      (jn (fun (y22 : Bool)=>
          (if y22 = true then
            (some 9)
            else
            (if (x1.length : Int) = 128 then
              (some 6)
              else
              ((zDn ([] : List zA8) x1).bind fun z26=>
                (zDn z26 [x3]).bind fun z30=>
                (zDb x0 z30).bind fun p32=>
                if (p32.length : Int) > x2 then
                (some 6)
                else
                (some 0))))) fun j1=>
        if (x1.length : Int) > 0 then
        ((idx x1 (W64 ((x1.length : Int) - 1))).bind fun z40=>
          j1 (decide (x3.Ord ≤ z40.Ord)))
        else
        (j1 false))))
def zHm (x0 : zA7) : Option Int:=
  some x0.n
def zH2 (x0 : zA7) : Option Int:=
  some x0.last
def zHn (x0 : zA7) : Option (List UInt8):=
  some x0.key
def zAu (x1 : Int) (x2 : (List zA8)) (p30 : ((List UInt8) × Int)) (j4 : (List zA8) → (Option zA7) → Option Bool) : Nat → (List zA8) → Int → Int → (Option zA7) → Option Bool
  | 0,_,_,_,_=>none
  | n + 1,y71,y74,y75,y76=>
    if y75 < (x2.length : Int) then
    ((idx x2 y75).bind fun z82=>
      (idx x2 y75).bind fun z91=>
      (y76).bind fun z101=>
      (zF7 z101 z82.Ord z91.Point).bind fun p100=>
      (idx x2 y75).bind fun z112=>
      (zEf p30.1 y71 x1 z112).bind fun p121=>
      if p100.1 ≠ p121 then
      (some false)
      else
      (jn (fun (y125 : (List zA8)) (y128 : Int)=>
          ((zHm p100.2).bind fun p130=>
            jn (fun (y133 : Bool)=>
              (jn (fun (y136 : Bool)=>
                  (if y136 = true then
                    (some false)
                    else
                    (zAu x1 x2 p30 j4 n y125 y128 (W64 (y75 + 1)) (some p100.2)))) fun j7=>
                if y133 = true then
                (j7 true)
                else
                ((zHn p100.2).bind fun p141=>
                  j7 (decide (p141 ≠ p30.1))))) fun j6=>
            if p130 ≠ (y125.length : Int) then
            (j6 true)
            else
            ((zH2 p100.2).bind fun p144=>
              j6 (decide (p144 ≠ y128))))) fun j5=>
        if p100.1 = 0 then
        ((idx x2 y75).bind fun z147=>
          (zDn y71 [z147]).bind fun z156=>
          (idx x2 y75).bind fun z158=>
          j5 z156 z158.Ord)
        else
        (j5 y71 y74)))
    else
    (j4 y71 y76)
def zFc (x0 : zA9) (x1 : Int) (x2 : (List zA8)) : Option Bool:=
  (zGq).bind fun p19=>
  if (!p19) = true then
  (some false)
  else
  ((zCs x0).bind fun p22=>
    jn (fun (y24 : Bool)=>
      (if y24 = true then
        (some true)
        else
        ((zKr x0 x1).bind fun p27=>
          (zEg x0).bind fun p30=>
          jn (fun (y33 : Bool)=>
            (jn (fun (y36 : Bool)=>
                (if y36 = true then
                  (some (decide ((((p27.1).isNone) = true) ∧ (p27.2 = p30.2))))
                  else
                  (jn (fun (y41 : (List zA8)) (y44 : (Option zA7))=>
                      ((y44).bind fun z47=>
                        (zFd z47).bind fun p46=>
                        (zDb p30.1 y41).bind fun p59=>
                        if p46 = p59 then
                        ((zG1 z47).bind fun p65=>
                          some (decide (p65 = (p46.length : Int))))
                        else
                        (some false))) fun j4=>
                    zAu x1 x2 p30 j4 fuel ([] : List zA8) (-1) 0 p27.1))) fun j3=>
              if y33 = true then
              (j3 true)
              else
              (j3 ((p27.1).isNone)))) fun j2=>
          if p27.2 ≠ p30.2 then
          (j2 true)
          else
          (j2 (decide ((p27.1).isNone ≠ decide (p27.2 ≠ 0))))))) fun j1=>
    if (!p22) = true then
    (j1 true)
    else
    ((zEu x2 12).bind fun p170=>
      j1 (!p170)))
end Go.Proofs.YthjhejgjcdajdaaGreatDoor
namespace Go.Proofs.YthjhejgjcdajdaaGreatDoor
open Go Go.RowKit Go.Wk
set_option maxRecDepth 20000 in
theorem zMv (z6 : (List UInt8)) (j2 : Unit → Option Bool) (hE : z6.length < 4611686018427387904) :
    zCn z6 j2 fuel 0 = zEm z6 ()
    (fun ii xx ss kk=>
    (some xx).bind fun z12=>
    (zHl z12).bind fun p14=>
    if ((((!p14) = true) ∧ ((((z12).toNat : Int) < 48) ∨ (((z12).toNat : Int) > 57))) ∧ (((z12).toNat : Int) ≠ 95)) ∧ (((z12).toNat : Int) ≠ 46) then
    (some false)
    else
    (kk ()))
    (fun ss=>
    j2 ()):=by
  have hh:=fun B J h=>zFs z6 hE (fun nn (ss : Unit) (yy : Int)=>zCn z6 j2 nn yy) B J h ()
  have h0 : (fun nn (ss : Unit) (yy : Int)=>zCn z6 j2 nn yy) fuel () 0 = zCn z6 j2 fuel 0:=by dsimp only
  unfold zEm;refine h0.symm.trans (hh _ _ ?_);intro nn ss ii hi;show zCn z6 j2 (nn + 1) ii = _;rw [zCn]
  by_cases h : ii < z6.length
  · rw [if_pos (by omega),dif_pos h]
    simp only [zGm h,zDj (show ii + 1 ≤ 9223372036854775807 by omega)]
  · rw [if_neg (by omega),dif_neg h]
set_option maxRecDepth 20000 in
theorem zMe (z4 : (List UInt8)) (j1 : Unit → Option Bool) (hE : z4.length < 4611686018427387904) :
    zCi z4 j1 fuel 0 = zEm z4 ()
    (fun ii xx ss kk=>
    (some xx).bind fun z10=>
    jn (fun (y12 : Bool)=>
      (if y12 = true then
        (some false)
        else
        (kk ()))) fun j2=>
    if ((z10).toNat : Int) < 33 then
    (j2 (decide (((z10).toNat : Int) < 33)))
    else
    (if ((z10).toNat : Int) > 126 then
      (j2 (decide (((z10).toNat : Int) > 126)))
      else
      (if ((z10).toNat : Int) = 61 then
        (j2 (decide (((z10).toNat : Int) = 61)))
        else
        (if ((z10).toNat : Int) = 59 then
          (j2 (decide (((z10).toNat : Int) = 59)))
          else
          (j2 (decide (((z10).toNat : Int) = 44)))))))
    (fun ss=>
    j1 ()):=by
  have hh:=fun B J h=>zFs z4 hE (fun nn (ss : Unit) (yy : Int)=>zCi z4 j1 nn yy) B J h ()
  have h0 : (fun nn (ss : Unit) (yy : Int)=>zCi z4 j1 nn yy) fuel () 0 = zCi z4 j1 fuel 0:=by dsimp only
  unfold zEm;refine h0.symm.trans (hh _ _ ?_);intro nn ss ii hi;show zCi z4 j1 (nn + 1) ii = _;rw [zCi]
  by_cases h : ii < z4.length
  · rw [if_pos (by omega),dif_pos h]
    simp only [zGm h,zDj (show ii + 1 ≤ 9223372036854775807 by omega)]
  · rw [if_neg (by omega),dif_neg h]
set_option maxRecDepth 20000 in
theorem zG2 (x0 : (List zA)) (x1_0 : zA) (j1 : Unit → Option Int) (hE : x0.length < 4611686018427387904) :
    zAk x0 x1_0 j1 fuel 0 = zEm x0 ()
    (fun ii xx ss kk=>
    (some xx).bind fun z9=>
    (zIi z9 x1_0).bind fun p11=>
    if p11 = true then
    (some (ii : Int))
    else
    (kk ()))
    (fun ss=>
    j1 ()):=by
  have hh:=fun B J h=>zFs x0 hE (fun nn (ss : Unit) (yy : Int)=>zAk x0 x1_0 j1 nn yy) B J h ()
  have h0 : (fun nn (ss : Unit) (yy : Int)=>zAk x0 x1_0 j1 nn yy) fuel () 0 = zAk x0 x1_0 j1 fuel 0:=by dsimp only
  unfold zEm;refine h0.symm.trans (hh _ _ ?_);intro nn ss ii hi;show zAk x0 x1_0 j1 (nn + 1) ii = _;rw [zAk]
  by_cases h : ii < x0.length
  · rw [if_pos (by omega),dif_pos h]
    simp only [zGm h,zDj (show ii + 1 ≤ 9223372036854775807 by omega)]
  · rw [if_neg (by omega),dif_neg h]
set_option maxRecDepth 20000 in
theorem zN4 (x1 : (List zA)) (j1 : Unit → Option Int) (hE : x1.length < 4611686018427387904) :
    zCw x1 j1 fuel 0 = zEm x1 ()
    (fun ii xx ss kk=>
    (some xx).bind fun z11=>
    (zG5 z11.Key).bind fun p18=>
    jn (fun (y20 : Bool)=>
      (if y20 = true then
        (some 3)
        else
        ((zNx x1 0 (ii : Int)).bind fun z23=>
          (zBt z23 z11).bind fun p25=>
          if p25 = true then
          (some 8)
          else
          (kk ())))) fun j2=>
    if (!p18) = true then
    (j2 true)
    else
    ((zHa z11.Val).bind fun p29=>
      j2 (!p29)))
    (fun ss=>
    j1 ()):=by
  have hh:=fun B J h=>zFs x1 hE (fun nn (ss : Unit) (yy : Int)=>zCw x1 j1 nn yy) B J h ()
  have h0 : (fun nn (ss : Unit) (yy : Int)=>zCw x1 j1 nn yy) fuel () 0 = zCw x1 j1 fuel 0:=by dsimp only
  unfold zEm;refine h0.symm.trans (hh _ _ ?_);intro nn ss ii hi;show zCw x1 j1 (nn + 1) ii = _;rw [zCw]
  by_cases h : ii < x1.length
  · rw [if_pos (by omega),dif_pos h]
    simp only [zGm h,zDj (show ii + 1 ≤ 9223372036854775807 by omega)]
  · rw [if_neg (by omega),dif_neg h]
set_option maxRecDepth 20000 in
theorem zNw (z23 : zAd) (j2 : UInt64 → UInt64 → Option (UInt64 × Bool)) (y32 : UInt64) (y33 : UInt64) (hE : z23.Counts.length < 4611686018427387904) :
    zCx z23 j2 fuel y32 y33 0 = zEm z23.Counts (y32,y33)
    (fun ii xx ss kk=>
    (some xx).bind fun z37=>
    kk ((ss.1 + z37),(ss.2 ||| (cry ss.1 z37))))
    (fun ss=>
    j2 ss.1 ss.2):=by
  have hh:=fun B J h=>zFs z23.Counts hE (fun nn (ss : (UInt64) × (UInt64)) (yy : Int)=>zCx z23 j2 nn ss.1 ss.2 yy) B J h (y32,y33)
  have h0 : (fun nn (ss : (UInt64) × (UInt64)) (yy : Int)=>zCx z23 j2 nn ss.1 ss.2 yy) fuel (y32,y33) 0 = zCx z23 j2 fuel y32 y33 0:=by dsimp only
  unfold zEm;refine h0.symm.trans (hh _ _ ?_);intro nn ss ii hi;show zCx z23 j2 (nn + 1) ss.1 ss.2 ii = _;rw [zCx]
  by_cases h : ii < z23.Counts.length
  · rw [if_pos (by omega),dif_pos h]
    simp only [zGm h,zDj (show ii + 1 ≤ 9223372036854775807 by omega)]
  · rw [if_neg (by omega),dif_neg h]
set_option maxRecDepth 20000 in
theorem zNv (p13 : (List zA)) (j1 : (List UInt8) → Option ((List UInt8) × Int)) (y23 : (List UInt8)) (hE : p13.length < 4611686018427387904) :
    zCv p13 j1 fuel 0 y23 = zEm p13 y23
    (fun ii xx ss kk=>
    (some xx).bind fun z27=>
    (catS ([59] : List UInt8) z27.Key).bind fun z31=>
    (catS z31 ([61] : List UInt8)).bind fun z32=>
    (catS z32 z27.Val).bind fun z33=>
    (zDn ss z33).bind fun z34=>
    kk z34)
    (fun ss=>
    j1 ss):=by
  have hh:=fun B J h=>zFs p13 hE (fun nn (ss : ((List UInt8))) (yy : Int)=>zCv p13 j1 nn yy ss) B J h y23
  have h0 : (fun nn (ss : ((List UInt8))) (yy : Int)=>zCv p13 j1 nn yy ss) fuel y23 0 = zCv p13 j1 fuel 0 y23:=by dsimp only
  unfold zEm;refine h0.symm.trans (hh _ _ ?_);intro nn ss ii hi;show zCv p13 j1 (nn + 1) ii ss = _;rw [zCv]
  by_cases h : ii < p13.length
  · rw [if_pos (by omega),dif_pos h]
    simp only [zGm h,zDj (show ii + 1 ≤ 9223372036854775807 by omega)]
  · rw [if_neg (by omega),dif_neg h]
set_option maxRecDepth 20000 in
theorem zL2 (p43 : (List UInt64)) (p46 : (List UInt64)) (j3 : zA0 → Option (Int × zA6 × zA0)) (y56 : zA0) (hE : p46.length < 4611686018427387904) :
    zBm p43 p46 j3 fuel 0 y56 = zEm p46 y56
    (fun ii xx ss kk=>
    (some xx).bind fun z59=>
    (idx p43 (ii : Int)).bind fun z60=>
    (zEc ss (W64 ((z59 - z60).toNat : Int))).bind fun p61=>
    kk p61)
    (fun ss=>
    j3 ss):=by
  have hh:=fun B J h=>zFs p46 hE (fun nn (ss : (zA0)) (yy : Int)=>zBm p43 p46 j3 nn yy ss) B J h y56
  have h0 : (fun nn (ss : (zA0)) (yy : Int)=>zBm p43 p46 j3 nn yy ss) fuel y56 0 = zBm p43 p46 j3 fuel 0 y56:=by dsimp only
  unfold zEm;refine h0.symm.trans (hh _ _ ?_);intro nn ss ii hi;show zBm p43 p46 j3 (nn + 1) ii ss = _;rw [zBm]
  by_cases h : ii < p46.length
  · rw [if_pos (by omega),dif_pos h]
    simp only [zGm h,zDj (show ii + 1 ≤ 9223372036854775807 by omega)]
  · rw [if_neg (by omega),dif_neg h]
set_option maxRecDepth 20000 in
theorem zL1 (p79 : (List UInt64)) (j5 : zA0 → Option (Int × zA6 × zA0)) (y87 : zA0) (hE : p79.length < 4611686018427387904) :
    zBl p79 j5 fuel 0 y87 = zEm p79 y87
    (fun ii xx ss kk=>
    (some xx).bind fun z90=>
    (zHh ss z90).bind fun p91=>
    kk p91)
    (fun ss=>
    j5 ss):=by
  have hh:=fun B J h=>zFs p79 hE (fun nn (ss : (zA0)) (yy : Int)=>zBl p79 j5 nn yy ss) B J h y87
  have h0 : (fun nn (ss : (zA0)) (yy : Int)=>zBl p79 j5 nn yy ss) fuel y87 0 = zBl p79 j5 fuel 0 y87:=by dsimp only
  unfold zEm;refine h0.symm.trans (hh _ _ ?_);intro nn ss ii hi;show zBl p79 j5 (nn + 1) ii ss = _;rw [zBl]
  by_cases h : ii < p79.length
  · rw [if_pos (by omega),dif_pos h]
    simp only [zGm h,zDj (show ii + 1 ≤ 9223372036854775807 by omega)]
  · rw [if_neg (by omega),dif_neg h]
set_option maxRecDepth 20000 in
theorem zJ1 (x0 : (List zA)) (j1 : Unit → Option Bool) (hE : x0.length < 4611686018427387904) :
    zB2 x0 j1 fuel 0 = zEm x0 ()
    (fun ii xx ss kk=>
    (some xx).bind fun z8=>
    jn (fun (y10 : Bool)=>
      (if y10 = true then
        (some false)
        else
        (kk ()))) fun j2=>
    if (z8.Key.length : Int) > 100 then
    (j2 true)
    else
    ((some xx).bind fun z14=>
      j2 (decide ((z14.Val.length : Int) > 100))))
    (fun ss=>
    j1 ()):=by
  have hh:=fun B J h=>zFs x0 hE (fun nn (ss : Unit) (yy : Int)=>zB2 x0 j1 nn yy) B J h ()
  have h0 : (fun nn (ss : Unit) (yy : Int)=>zB2 x0 j1 nn yy) fuel () 0 = zB2 x0 j1 fuel 0:=by dsimp only
  unfold zEm;refine h0.symm.trans (hh _ _ ?_);intro nn ss ii hi;show zB2 x0 j1 (nn + 1) ii = _;rw [zB2]
  by_cases h : ii < x0.length
  · rw [if_pos (by omega),dif_pos h]
    simp only [zGm h,zDj (show ii + 1 ≤ 9223372036854775807 by omega)]
  · rw [if_neg (by omega),dif_neg h]
set_option maxRecDepth 20000 in
theorem zJ (x0 : (List zA8)) (j1 : Unit → Option Bool) (hE : x0.length < 4611686018427387904) :
    zB0 x0 j1 fuel 0 = zEm x0 ()
    (fun ii xx ss kk=>
    (some xx).bind fun z8=>
    (zCs z8.Point).bind fun p17=>
    if (!p17) = true then
    (some false)
    else
    (kk ()))
    (fun ss=>
    j1 ()):=by
  have hh:=fun B J h=>zFs x0 hE (fun nn (ss : Unit) (yy : Int)=>zB0 x0 j1 nn yy) B J h ()
  have h0 : (fun nn (ss : Unit) (yy : Int)=>zB0 x0 j1 nn yy) fuel () 0 = zB0 x0 j1 fuel 0:=by dsimp only
  unfold zEm;refine h0.symm.trans (hh _ _ ?_);intro nn ss ii hi;show zB0 x0 j1 (nn + 1) ii = _;rw [zB0]
  by_cases h : ii < x0.length
  · rw [if_pos (by omega),dif_pos h]
    simp only [zGm h,zDj (show ii + 1 ≤ 9223372036854775807 by omega)]
  · rw [if_neg (by omega),dif_neg h]
set_option maxRecDepth 20000 in
theorem zJi (x0 : (List UInt8)) (j1 : Unit → Option Bool) (hE : x0.length < 4611686018427387904) :
    zBa x0 j1 fuel 0 = zEm x0 ()
    (fun ii xx ss kk=>
    (some xx).bind fun z8=>
    if (¬ ((((z8).toNat : Int) ≥ 97) ∧ (((z8).toNat : Int) ≤ 122))) ∧ (((ii : Int) = 0) ∨ (¬ ((((((z8).toNat : Int) ≥ 48) ∧ (((z8).toNat : Int) ≤ 57)) ∨ (((z8).toNat : Int) = 95)) ∨ (((z8).toNat : Int) = 46)))) then
    (some false)
    else
    (kk ()))
    (fun ss=>
    j1 ()):=by
  have hh:=fun B J h=>zFs x0 hE (fun nn (ss : Unit) (yy : Int)=>zBa x0 j1 nn yy) B J h ()
  have h0 : (fun nn (ss : Unit) (yy : Int)=>zBa x0 j1 nn yy) fuel () 0 = zBa x0 j1 fuel 0:=by dsimp only
  unfold zEm;refine h0.symm.trans (hh _ _ ?_);intro nn ss ii hi;show zBa x0 j1 (nn + 1) ii = _;rw [zBa]
  by_cases h : ii < x0.length
  · rw [if_pos (by omega),dif_pos h]
    simp only [zGm h,zDj (show ii + 1 ≤ 9223372036854775807 by omega)]
  · rw [if_neg (by omega),dif_neg h]
set_option maxRecDepth 20000 in
theorem zJ0 (x0 : (List UInt8)) (j1 : Unit → Option Bool) (hE : x0.length < 4611686018427387904) :
    zB1 x0 j1 fuel 0 = zEm x0 ()
    (fun ii xx ss kk=>
    (some xx).bind fun z8=>
    if ((((((z8).toNat : Int) ≤ 32) ∨ (((z8).toNat : Int) ≥ 127)) ∨ (((z8).toNat : Int) = 61)) ∨ (((z8).toNat : Int) = 59)) ∨ (((z8).toNat : Int) = 44) then
    (some false)
    else
    (kk ()))
    (fun ss=>
    j1 ()):=by
  have hh:=fun B J h=>zFs x0 hE (fun nn (ss : Unit) (yy : Int)=>zB1 x0 j1 nn yy) B J h ()
  have h0 : (fun nn (ss : Unit) (yy : Int)=>zB1 x0 j1 nn yy) fuel () 0 = zB1 x0 j1 fuel 0:=by dsimp only
  unfold zEm;refine h0.symm.trans (hh _ _ ?_);intro nn ss ii hi;show zB1 x0 j1 (nn + 1) ii = _;rw [zB1]
  by_cases h : ii < x0.length
  · rw [if_pos (by omega),dif_pos h]
    simp only [zGm h,zDj (show ii + 1 ≤ 9223372036854775807 by omega)]
  · rw [if_neg (by omega),dif_neg h]
set_option maxRecDepth 20000 in
theorem zJ2 (x1 : (List zA)) (j1 : Unit → Option Int) (hE : x1.length < 4611686018427387904) :
    zB3 x1 j1 fuel 0 = zEm x1 ()
    (fun ii xx ss kk=>
    (some xx).bind fun z11=>
    (zDg z11.Key).bind fun p13=>
    jn (fun (y15 : Bool)=>
      (if y15 = true then
        (some 3)
        else
        (jn (fun (_ : Unit)=>
            (kk ())) fun j3=>
          zBv x1 (ii : Int) j3 fuel 0))) fun j2=>
    if (!p13) = true then
    (j2 true)
    else
    ((some xx).bind fun z31=>
      (zDw z31.Val).bind fun p33=>
      j2 (!p33)))
    (fun ss=>
    j1 ()):=by
  have hh:=fun B J h=>zFs x1 hE (fun nn (ss : Unit) (yy : Int)=>zB3 x1 j1 nn yy) B J h ()
  have h0 : (fun nn (ss : Unit) (yy : Int)=>zB3 x1 j1 nn yy) fuel () 0 = zB3 x1 j1 fuel 0:=by dsimp only
  unfold zEm;refine h0.symm.trans (hh _ _ ?_);intro nn ss ii hi;show zB3 x1 j1 (nn + 1) ii = _;rw [zB3]
  by_cases h : ii < x1.length
  · rw [if_pos (by omega),dif_pos h]
    simp only [zGm h,zDj (show ii + 1 ≤ 9223372036854775807 by omega)]
  · rw [if_neg (by omega),dif_neg h]
set_option maxRecDepth 20000 in
theorem zId (x0 : zAd) (x1 : zAd) (j1 : Unit → Option Bool) (hE : x0.Counts.length < 4611686018427387904) :
    zAv x0 x1 j1 fuel 0 = zEm x0.Counts ()
    (fun ii xx ss kk=>
    (some xx).bind fun z21=>
    (idx x1.Counts (ii : Int)).bind fun z24=>
    if ((z21).toNat : Int) ≠ ((z24).toNat : Int) then
    (some false)
    else
    (kk ()))
    (fun ss=>
    j1 ()):=by
  have hh:=fun B J h=>zFs x0.Counts hE (fun nn (ss : Unit) (yy : Int)=>zAv x0 x1 j1 nn yy) B J h ()
  have h0 : (fun nn (ss : Unit) (yy : Int)=>zAv x0 x1 j1 nn yy) fuel () 0 = zAv x0 x1 j1 fuel 0:=by dsimp only
  unfold zEm;refine h0.symm.trans (hh _ _ ?_);intro nn ss ii hi;show zAv x0 x1 j1 (nn + 1) ii = _;rw [zAv]
  by_cases h : ii < x0.Counts.length
  · rw [if_pos (by omega),dif_pos h]
    simp only [zGm h,zDj (show ii + 1 ≤ 9223372036854775807 by omega)]
  · rw [if_neg (by omega),dif_neg h]
set_option maxRecDepth 20000 in
theorem zJu (x1 : (List UInt64)) (j1 : UInt64 → Option (UInt64 × Bool)) (y5 : UInt64) (hE : x1.length < 4611686018427387904) :
    zBj x1 j1 fuel y5 0 = zEm x1 y5
    (fun ii xx ss kk=>
    (some xx).bind fun z9=>
    if ((z9).toNat : Int) > (((18446744073709551615 : UInt64) - ss).toNat : Int) then
    (some ((0 : UInt64),false))
    else
    ((some xx).bind fun z12=>
      kk (ss + z12)))
    (fun ss=>
    j1 ss):=by
  have hh:=fun B J h=>zFs x1 hE (fun nn (ss : (UInt64)) (yy : Int)=>zBj x1 j1 nn ss yy) B J h y5
  have h0 : (fun nn (ss : (UInt64)) (yy : Int)=>zBj x1 j1 nn ss yy) fuel y5 0 = zBj x1 j1 fuel y5 0:=by dsimp only
  unfold zEm;refine h0.symm.trans (hh _ _ ?_);intro nn ss ii hi;show zBj x1 j1 (nn + 1) ss ii = _;rw [zBj]
  by_cases h : ii < x1.length
  · rw [if_pos (by omega),dif_pos h]
    simp only [zGm h,zDj (show ii + 1 ≤ 9223372036854775807 by omega)]
  · rw [if_neg (by omega),dif_neg h]
set_option maxRecDepth 20000 in
theorem zIo (x0 : (List zA)) (j1 : (List zA) → Option (List zA)) (y7 : (List zA)) (hE : x0.length < 4611686018427387904) :
    zAx x0 j1 fuel y7 0 = zEm x0 y7
    (fun ii xx ss kk=>
    jn (fun (y15 : Int)=>
      ((zNx ss 0 y15).bind fun z17=>
        (zDn ([] : List zA) z17).bind fun z21=>
        (some xx).bind fun z25=>
        (zDn z21 [z25]).bind fun z27=>
        (zNx ss y15 ((ss).length)).bind fun z29=>
        (zDn z27 z29).bind fun z31=>
        kk z31)) fun j2=>
    zBq x0 ss (ii : Int) j2 fuel (ss.length : Int))
    (fun ss=>
    j1 ss):=by
  have hh:=fun B J h=>zFs x0 hE (fun nn (ss : ((List zA))) (yy : Int)=>zAx x0 j1 nn ss yy) B J h y7
  have h0 : (fun nn (ss : ((List zA))) (yy : Int)=>zAx x0 j1 nn ss yy) fuel y7 0 = zAx x0 j1 fuel y7 0:=by dsimp only
  unfold zEm;refine h0.symm.trans (hh _ _ ?_);intro nn ss ii hi;show zAx x0 j1 (nn + 1) ss ii = _;rw [zAx]
  by_cases h : ii < x0.length
  · rw [if_pos (by omega),dif_pos h]
    simp only [zGm h,zDj (show ii + 1 ≤ 9223372036854775807 by omega)]
  · rw [if_neg (by omega),dif_neg h]
set_option maxRecDepth 20000 in
theorem zJh (p6 : (List zA)) (j1 : (List UInt8) → Option ((List UInt8) × Int)) (y11 : (List UInt8)) (hE : p6.length < 4611686018427387904) :
    zAz p6 j1 fuel y11 0 = zEm p6 y11
    (fun ii xx ss kk=>
    (catS ss ([59] : List UInt8)).bind fun z16=>
    (some xx).bind fun z17=>
    (catS z16 z17.Key).bind fun z18=>
    (catS z18 ([61] : List UInt8)).bind fun z19=>
    (some xx).bind fun z20=>
    (catS z19 z20.Val).bind fun z21=>
    kk z21)
    (fun ss=>
    j1 ss):=by
  have hh:=fun B J h=>zFs p6 hE (fun nn (ss : ((List UInt8))) (yy : Int)=>zAz p6 j1 nn ss yy) B J h y11
  have h0 : (fun nn (ss : ((List UInt8))) (yy : Int)=>zAz p6 j1 nn ss yy) fuel y11 0 = zAz p6 j1 fuel y11 0:=by dsimp only
  unfold zEm;refine h0.symm.trans (hh _ _ ?_);intro nn ss ii hi;show zAz p6 j1 (nn + 1) ss ii = _;rw [zAz]
  by_cases h : ii < p6.length
  · rw [if_pos (by omega),dif_pos h]
    simp only [zGm h,zDj (show ii + 1 ≤ 9223372036854775807 by omega)]
  · rw [if_neg (by omega),dif_neg h]
set_option maxRecDepth 20000 in
theorem zJv (x0 : (List Int)) (j1 : (List Int) → Option (List Int)) (y7 : (List Int)) (hE : x0.length < 4611686018427387904) :
    zBk x0 j1 fuel y7 0 = zEm x0 y7
    (fun ii xx ss kk=>
    jn (fun (y15 : (List Int))=>
      (kk y15)) fun j2=>
    if (ii : Int) = 0 then
    ((idx x0 0).bind fun z20=>
      (zC2 z20).bind fun p22=>
      (zAs p22).bind fun p24=>
      (zDn ss p24).bind fun z27=>
      j2 z27)
    else
    (if (ii : Int) = 1 then
      ((idx x0 1).bind fun z31=>
        (idx x0 0).bind fun z34=>
        (zC2 (W64 (((zAe z31) - (zAe z34)).toNat : Int))).bind fun p37=>
        (zAs p37).bind fun p39=>
        (zDn ss p39).bind fun z42=>
        j2 z42)
      else
      ((some xx).bind fun z45=>
        (idx x0 (W64 ((ii : Int) - 1))).bind fun z48=>
        (idx x0 (W64 ((ii : Int) - 2))).bind fun z51=>
        (zE6 (W64 ((((zAe z45) - ((2 : UInt64) * (zAe z48))) + (zAe z51)).toNat : Int))).bind fun p54=>
        (zDn ss p54).bind fun z57=>
        j2 z57)))
    (fun ss=>
    j1 ss):=by
  have hh:=fun B J h=>zFs x0 hE (fun nn (ss : ((List Int))) (yy : Int)=>zBk x0 j1 nn ss yy) B J h y7
  have h0 : (fun nn (ss : ((List Int))) (yy : Int)=>zBk x0 j1 nn ss yy) fuel y7 0 = zBk x0 j1 fuel y7 0:=by dsimp only
  unfold zEm;refine h0.symm.trans (hh _ _ ?_);intro nn ss ii hi;show zBk x0 j1 (nn + 1) ss ii = _;rw [zBk]
  by_cases h : ii < x0.length
  · rw [if_pos (by omega),dif_pos h]
    simp only [zGm h,zDj (show ii + 1 ≤ 9223372036854775807 by omega)]
  · rw [if_neg (by omega),dif_neg h]
set_option maxRecDepth 20000 in
theorem zJt (p26 : (List UInt64)) (p29 : (List UInt64)) (j2 : (List Int) → Option (List Int)) (y36 : (List Int)) (hE : p26.length < 4611686018427387904) :
    zB5 p26 p29 j2 fuel y36 0 = zEm p26 y36
    (fun ii xx ss kk=>
    (some xx).bind fun z43=>
    (idx p29 (ii : Int)).bind fun z44=>
    (zC2 (W64 ((z43 - z44).toNat : Int))).bind fun p45=>
    (zAs p45).bind fun p47=>
    (zDn ss p47).bind fun z50=>
    kk z50)
    (fun ss=>
    j2 ss):=by
  have hh:=fun B J h=>zFs p26 hE (fun nn (ss : ((List Int))) (yy : Int)=>zB5 p26 p29 j2 nn ss yy) B J h y36
  have h0 : (fun nn (ss : ((List Int))) (yy : Int)=>zB5 p26 p29 j2 nn ss yy) fuel y36 0 = zB5 p26 p29 j2 fuel y36 0:=by dsimp only
  unfold zEm;refine h0.symm.trans (hh _ _ ?_);intro nn ss ii hi;show zB5 p26 p29 j2 (nn + 1) ss ii = _;rw [zB5]
  by_cases h : ii < p26.length
  · rw [if_pos (by omega),dif_pos h]
    simp only [zGm h,zDj (show ii + 1 ≤ 9223372036854775807 by omega)]
  · rw [if_neg (by omega),dif_neg h]
set_option maxRecDepth 20000 in
theorem zJs (p70 : (List UInt64)) (j3 : (List Int) → Option (List Int)) (y77 : (List Int)) (hE : p70.length < 4611686018427387904) :
    zAw p70 j3 fuel y77 0 = zEm p70 y77
    (fun ii xx ss kk=>
    (some xx).bind fun z83=>
    (zAs z83).bind fun p84=>
    (zDn ss p84).bind fun z87=>
    kk z87)
    (fun ss=>
    j3 ss):=by
  have hh:=fun B J h=>zFs p70 hE (fun nn (ss : ((List Int))) (yy : Int)=>zAw p70 j3 nn ss yy) B J h y77
  have h0 : (fun nn (ss : ((List Int))) (yy : Int)=>zAw p70 j3 nn ss yy) fuel y77 0 = zAw p70 j3 fuel y77 0:=by dsimp only
  unfold zEm;refine h0.symm.trans (hh _ _ ?_);intro nn ss ii hi;show zAw p70 j3 (nn + 1) ss ii = _;rw [zAw]
  by_cases h : ii < p70.length
  · rw [if_pos (by omega),dif_pos h]
    simp only [zGm h,zDj (show ii + 1 ≤ 9223372036854775807 by omega)]
  · rw [if_neg (by omega),dif_neg h]
set_option maxRecDepth 20000 in
theorem zJg (x0 : (List zA8)) (j1 : (List Int) → Option (List Int)) (y7 : (List Int)) (y10 : (List Int)) (y13 : (List Int)) (y16 : (List Int)) (y19 : (List Int)) (y22 : (List UInt64)) (y25 : (List UInt64)) (y28 : (List zA2)) (hE : x0.length < 4611686018427387904) :
    zB9 x0 j1 fuel y7 y10 y13 y16 y19 y22 y25 y28 0 = zEm x0 (y7,y10,y13,y16,y19,y22,y25,y28)
    (fun ii xx ss kk=>
    (some xx).bind fun z50=>
    (some xx).bind fun z62=>
    (zBn ss.2.1 z62.Ord).bind fun p71=>
    (zDn ss.1 p71).bind fun z76=>
    (some xx).bind fun z78=>
    (zDn ss.2.1 [z78.Ord]).bind fun z87=>
    (zBn ss.2.2.1 z50.Point.Time).bind fun p89=>
    (zDn z76 p89).bind fun z94=>
    (zDn ss.2.2.1 [z50.Point.Time]).bind fun z96=>
    jn (fun (y98 : (List Int)) (y101 : (List Int))=>
      ((zAs (zAe z50.Point.Flags)).bind fun p105=>
        (zDn y98 p105).bind fun z108=>
        jn (fun (y110 : (List Int)) (y113 : (List Int)) (y116 : (List UInt64)) (y119 : (List UInt64)) (y122 : (List zA2))=>
          (kk (y110,z87,z96,y101,y113,y116,y119,y122))) fun j3=>
        if z50.Point.Kind = 1 then
        ((zBn ss.2.2.2.2.1 z50.Point.Int_).bind fun p127=>
          (zDn z108 p127).bind fun z132=>
          (zDn ss.2.2.2.2.1 [z50.Point.Int_]).bind fun z134=>
          j3 z132 z134 ss.2.2.2.2.2.1 ss.2.2.2.2.2.2.1 ss.2.2.2.2.2.2.2)
        else
        (jn (fun (y136 : Bool)=>
            (if y136 = true then
              ((zB4 ss.2.2.2.2.2.1 z50.Point.Re).bind fun p139=>
                (zDn z108 p139).bind fun z142=>
                (zDn ss.2.2.2.2.2.1 [z50.Point.Re]).bind fun z144=>
                j3 z142 ss.2.2.2.2.1 z144 ss.2.2.2.2.2.2.1 ss.2.2.2.2.2.2.2)
              else
              (if z50.Point.Kind = 4 then
                ((zDp ss.2.2.2.2.2.2.2 z50.Point.Hist).bind fun p147=>
                  (zDn z108 p147).bind fun z150=>
                  (zDn ss.2.2.2.2.2.2.2 [z50.Point.Hist]).bind fun z152=>
                  j3 z150 ss.2.2.2.2.1 ss.2.2.2.2.2.1 ss.2.2.2.2.2.2.1 z152)
                else
                (if z50.Point.Kind = 5 then
                  ((zB4 ss.2.2.2.2.2.1 z50.Point.Re).bind fun p155=>
                    (zDn z108 p155).bind fun z158=>
                    (zDn ss.2.2.2.2.2.1 [z50.Point.Re]).bind fun z160=>
                    (zB4 ss.2.2.2.2.2.2.1 z50.Point.Im).bind fun p162=>
                    (zDn z158 p162).bind fun z165=>
                    (zDn ss.2.2.2.2.2.2.1 [z50.Point.Im]).bind fun z167=>
                    j3 z165 ss.2.2.2.2.1 z160 z167 ss.2.2.2.2.2.2.2)
                  else
                  (j3 z108 ss.2.2.2.2.1 ss.2.2.2.2.2.1 ss.2.2.2.2.2.2.1 ss.2.2.2.2.2.2.2))))) fun j4=>
          if z50.Point.Kind = 2 then
          (j4 (decide (z50.Point.Kind = 2)))
          else
          (j4 (decide (z50.Point.Kind = 3)))))) fun j2=>
    if z50.Point.Kind ≠ 3 then
    ((zBn ss.2.2.2.1 (W64 (z50.Point.Time - z50.Point.Start))).bind fun p171=>
      (zDn z94 p171).bind fun z176=>
      (zDn ss.2.2.2.1 [W64 (z50.Point.Time - z50.Point.Start)]).bind fun z178=>
      j2 z176 z178)
    else
    (j2 z94 ss.2.2.2.1))
    (fun ss=>
    j1 ss.1):=by
  have hh:=fun B J h=>zFs x0 hE (fun nn (ss : ((List Int)) × ((List Int)) × ((List Int)) × ((List Int)) × ((List Int)) × ((List UInt64)) × ((List UInt64)) × ((List zA2))) (yy : Int)=>zB9 x0 j1 nn ss.1 ss.2.1 ss.2.2.1 ss.2.2.2.1 ss.2.2.2.2.1 ss.2.2.2.2.2.1 ss.2.2.2.2.2.2.1 ss.2.2.2.2.2.2.2 yy) B J h (y7,y10,y13,y16,y19,y22,y25,y28)
  have h0 : (fun nn (ss : ((List Int)) × ((List Int)) × ((List Int)) × ((List Int)) × ((List Int)) × ((List UInt64)) × ((List UInt64)) × ((List zA2))) (yy : Int)=>zB9 x0 j1 nn ss.1 ss.2.1 ss.2.2.1 ss.2.2.2.1 ss.2.2.2.2.1 ss.2.2.2.2.2.1 ss.2.2.2.2.2.2.1 ss.2.2.2.2.2.2.2 yy) fuel (y7,y10,y13,y16,y19,y22,y25,y28) 0 = zB9 x0 j1 fuel y7 y10 y13 y16 y19 y22 y25 y28 0:=by dsimp only
  unfold zEm;refine h0.symm.trans (hh _ _ ?_);intro nn ss ii hi;show zB9 x0 j1 (nn + 1) ss.1 ss.2.1 ss.2.2.1 ss.2.2.2.1 ss.2.2.2.2.1 ss.2.2.2.2.2.1 ss.2.2.2.2.2.2.1 ss.2.2.2.2.2.2.2 ii = _;rw [zB9]
  by_cases h : ii < x0.length
  · rw [if_pos (by omega),dif_pos h]
    simp only [zGm h,zDj (show ii + 1 ≤ 9223372036854775807 by omega)]
  · rw [if_neg (by omega),dif_neg h]
set_option maxRecDepth 20000 in
theorem zI5 (x1 : Int) (x2 : (List zA8)) (p30 : ((List UInt8) × Int)) (j4 : (List zA8) → (Option zA7) → Option Bool) (y71 : (List zA8)) (y74 : Int) (y76 : (Option zA7)) (hE : x2.length < 4611686018427387904) :
    zAu x1 x2 p30 j4 fuel y71 y74 0 y76 = zEm x2 (y71,y74,y76)
    (fun ii xx ss kk=>
    (some xx).bind fun z82=>
    (some xx).bind fun z91=>
    (ss.2.2).bind fun z101=>
    (zF7 z101 z82.Ord z91.Point).bind fun p100=>
    (some xx).bind fun z112=>
    (zEf p30.1 ss.1 x1 z112).bind fun p121=>
    if p100.1 ≠ p121 then
    (some false)
    else
    (jn (fun (y125 : (List zA8)) (y128 : Int)=>
        ((zHm p100.2).bind fun p130=>
          jn (fun (y133 : Bool)=>
            (jn (fun (y136 : Bool)=>
                (if y136 = true then
                  (some false)
                  else
                  (kk (y125,y128,(some p100.2))))) fun j7=>
              if y133 = true then
              (j7 true)
              else
              ((zHn p100.2).bind fun p141=>
                j7 (decide (p141 ≠ p30.1))))) fun j6=>
          if p130 ≠ (y125.length : Int) then
          (j6 true)
          else
          ((zH2 p100.2).bind fun p144=>
            j6 (decide (p144 ≠ y128))))) fun j5=>
      if p100.1 = 0 then
      ((some xx).bind fun z147=>
        (zDn ss.1 [z147]).bind fun z156=>
        (some xx).bind fun z158=>
        j5 z156 z158.Ord)
      else
      (j5 ss.1 ss.2.1)))
    (fun ss=>
    j4 ss.1 ss.2.2):=by
  have hh:=fun B J h=>zFs x2 hE (fun nn (ss : ((List zA8)) × (Int) × ((Option zA7))) (yy : Int)=>zAu x1 x2 p30 j4 nn ss.1 ss.2.1 yy ss.2.2) B J h (y71,y74,y76)
  have h0 : (fun nn (ss : ((List zA8)) × (Int) × ((Option zA7))) (yy : Int)=>zAu x1 x2 p30 j4 nn ss.1 ss.2.1 yy ss.2.2) fuel (y71,y74,y76) 0 = zAu x1 x2 p30 j4 fuel y71 y74 0 y76:=by dsimp only
  unfold zEm;refine h0.symm.trans (hh _ _ ?_);intro nn ss ii hi;show zAu x1 x2 p30 j4 (nn + 1) ss.1 ss.2.1 ii ss.2.2 = _;rw [zAu]
  by_cases h : ii < x2.length
  · rw [if_pos (by omega),dif_pos h]
    simp only [zGm h,zDj (show ii + 1 ≤ 9223372036854775807 by omega)]
  · rw [if_neg (by omega),dif_neg h]
end Go.Proofs.YthjhejgjcdajdaaGreatDoor
