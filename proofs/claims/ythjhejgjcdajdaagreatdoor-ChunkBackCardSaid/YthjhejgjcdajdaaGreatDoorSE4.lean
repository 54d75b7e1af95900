import Derived.Test.YthjhejgjcdajdaaGreatDoorRows
import Derived.Test.YthjhejgjcdajdaaGreatDoorVE2
import Derived.Test.YthjhejgjcdajdaaGreatDoorSE3
set_option maxRecDepth 20000
set_option maxHeartbeats 4000000
set_option linter.unusedVariables false
set_option linter.unusedSimpArgs false
namespace Go.Proofs.YthjhejgjcdajdaaGreatDoor
open Go Go.RowKit Go.Wk _root_.Go.Proofs.Tryz
open _root_.Go.Proofs.Tryz renaming underlying3→U3,underlying4→U4,underlying5→U5,underlying9→U9,underlying22→U22,underlying24→U24,underlying34→U34,underlying35→U35,underlying36→U36,underlying91→U91,underlying97→U97,isAgg3→V3,isAgg4→V4,isAgg9→V9,isAgg25→V25,isAgg34→V34,isAgg35→V35,isAgg36→V36,isAgg38→V38,isAgg40→V40,isAgg42→V42,isAgg44→V44,isAgg94→V94,isAgg96→V96,isAgg118→V118,sizeOf3→O3,sizeOf5→O5,sizeOf35→O35,sizeOf38→O38,sizeOf40→O40,sizeOf42→O42,sizeOf44→O44,sizeOf94→O94,sizeOf96→O96,sizeOf118→O118
variable {Z0:Nat→Prop} {w:World} {F0:Nat→Prop} {F1:Nat→Prop} {F2:Nat→Prop} {F3:Nat→Prop} {F4:Nat→Prop} {F5:Nat→Prop} {b0:Nat} {b1:Nat} {b2:Nat} {b3:Nat} {b4:Nat} {b5:Nat} {A0:Option Addr} {A1:Option Addr} {A2:Option Addr} {A3:Option Addr} {A4:Option Addr} {A5:Option Addr} {c0:Nat} {c1:Nat} {c2:Nat} {c3:Nat} {c4:Nat} {c5:Nat} {cs0:List Value} {cs1:List Value} {cs2:List Value} {cs3:List Value}
theorem zI4 {x0:zA8} {r:Int} (Y:zE8 x0=some r) (h0:zA8.rep.rel Z0 w cs0 x0) :
 Calls prog 14 #[.agg cs0.toArray] w λx w'=>x=.returned (iv r)∧Hp Z0 No w w' []:=by
 have D0:=Hp.nil Z0 No w;have hc0:=Calm.nil;obtain ⟨Ar1,cr1,Ar3,cr3,Ar5,cr5,rfl,fs1,fs3,fs5⟩:=zA8.relE h0;obtain ⟨D7,hc0⟩:=D0.kn (r:=slR Ar1 cr1 zA0.rep x0.Attrs) hc0 fs1;obtain ⟨D8,hc0⟩:=D7.kn (r:=slR Ar3 cr3 zAq x0.Hist.Pos.Counts) hc0 fs3;obtain ⟨D9,hc0⟩:=D8.kn (r:=slR Ar5 cr5 zAq x0.Hist.Neg.Counts) hc0 fs5;refine eg func14 2 ?_;refine Rn.box rfl rfl rfl rfl rfl ?_;intro b10 w10 hb10 m10 e10;have D12:=(D9.addBox hb10 e10 m10).nf [_,_,_,zAi _ _ [_,_,_,_,_,_,_,_,_,_,_,_,_,_,_,_,_]] rfl;refine gg 6 rfl (Rn.q rfl (V.ldB V9 rfl (D12.get 3 rfl) rfl) (gg 1 rfl (Rn.q rfl (V.ldB V34 rfl (D12.get 3 rfl) rfl) ?_)));obtain ⟨p13,e13,Y⟩:=zA7 Y
 refine Rn.c0 (cK func45) (zI5 (Z0:=All) e13 (zA5 (D12.get 0 rfl)) :) D12 λw13 _ D14=>?_
 refine gg 7 rfl ?_;refine bD Y 5 5 (λh15 Y=>?_) (λh15 Y=>?_)
 ·cases Y
  exact Rn.R1 func14 ⟨rfl,D14.pk []⟩
 refine Rn.q rfl (V.ldB V3 rfl (D14.get 3 rfl) rfl) (gg 2 rfl ?_);refine Rn.cutR [] [(1,pt b10 0),(19,.bool (decide ((x0.Kind<1)∨(x0.Kind>5))))] (λK16=>?_) ?_
 ·refine Rn.partD (t:=15) rfl (λh17=>?_) (λh17=>?_)
  ·refine gg 4 rfl ?_;exact K16 _ sA
  refine gg 1 rfl (Rn.q rfl (V.ldB V3 rfl (D14.get 3 rfl) rfl) (gg 2 rfl ?_));exact K16 _ sA
 refine gg 1 rfl ?_;refine bD Y 4 5 (λh18 Y=>?_) (λh18 Y=>?_)
 ·cases Y
  exact Rn.R1 func14 ⟨rfl,D14.pk []⟩
 refine Rn.q rfl (V.ldB V3 rfl (D14.get 3 rfl) rfl) (gg 2 rfl ?_);refine Rn.cutR [8,9,10,11,12,13,14,15,16,17,18,19,20,21,22] [(1,pt b10 0),(27,.bool (decide ((x0.Kind=3)∧(x0.Temp≠0))))] (λK19=>?_) ?_
 ·refine Rn.partD (t:=23) rfl (λh20=>?_) (λh20=>?_)
  ·refine gg 1 rfl (Rn.q rfl (V.ldB V3 rfl (D14.get 3 rfl) rfl) (gg 2 rfl ?_));exact K19 _ sA
  refine gg 4 rfl ?_;exact K19 _ sA
 refine gg 1 rfl ?_;refine Rn.cutR [] [(1,pt b10 0),(42,.bool (decide (((x0.Kind=3)∧(x0.Temp≠0))∨(((x0.Kind≠3)∧(x0.Temp≠1))∧(x0.Temp≠2)))))] (λK21=>?_) ?_
 ·refine Rn.partD (t:=28) rfl (λh22=>?_) (λh22=>?_)
  ·refine gg 14 rfl ?_;exact K21 _ sA
  refine gg 1 rfl (Rn.q rfl (V.ldB V3 rfl (D14.get 3 rfl) rfl) (gg 2 rfl ?_));refine Rn.cutR [17,18,19,20,21,22] [(1,pt b10 0),(28,.bool false),(36,.bool (decide ((x0.Kind≠3)∧(x0.Temp≠1))))] (λK23=>?_) ?_
  ·refine Rn.partD (t:=32) rfl (λh24=>?_) (λh24=>?_)
   ·refine gg 1 rfl (Rn.q rfl (V.ldB V3 rfl (D14.get 3 rfl) rfl) (gg 2 rfl ?_));exact K23 _ sA
   refine gg 4 rfl ?_;exact K23 _ sA
  refine gg 1 rfl ?_;refine Rn.cutR [22] [(1,pt b10 0),(28,.bool false),(41,.bool (decide (((x0.Kind≠3)∧(x0.Temp≠1))∧(x0.Temp≠2))))] (λK25=>?_) ?_
  ·refine Rn.partD (t:=37) rfl (λh26=>?_) (λh26=>?_)
   ·refine gg 1 rfl (Rn.q rfl (V.ldB V3 rfl (D14.get 3 rfl) rfl) (gg 2 rfl ?_));exact K25 _ sA
   refine gg 4 rfl ?_;exact K25 _ sA
  refine gg 1 rfl ?_;exact K21 _ sA
 refine gg 1 rfl ?_;refine bD Y 4 5 (λh27 Y=>?_) (λh27 Y=>?_)
 ·cases Y
  exact Rn.R1 func14 ⟨rfl,D14.pk []⟩
 refine Rn.q rfl (V.ldB V4 rfl (D14.get 3 rfl) rfl) (gg 1 rfl ?_);refine Rn.cutR [7,8,9,10,11] [(1,pt b10 0),(49,.bool (decide ((x0.Mono=true)∧(x0.Kind≠1))))] (λK28=>?_) ?_
 ·refine Rn.part (t:=45) rfl (λh29=>?_) (λh29=>?_)
  ·refine gg 1 rfl (Rn.q rfl (V.ldB V3 rfl (D14.get 3 rfl) rfl) (gg 2 rfl ?_));exact K28 _ sA
  refine gg 4 rfl ?_;exact K28 _ sA
 refine gg 1 rfl ?_;refine Rn.cutR [] [(1,pt b10 0),(54,.bool (decide (((x0.Mono=true)∧(x0.Kind≠1))∧(x0.Kind≠2))))] (λK30=>?_) ?_
 ·refine Rn.partD (t:=50) rfl (λh31=>?_) (λh31=>?_)
  ·refine gg 1 rfl (Rn.q rfl (V.ldB V3 rfl (D14.get 3 rfl) rfl) (gg 2 rfl ?_));exact K30 _ sA
  refine gg 4 rfl ?_;exact K30 _ sA
 refine gg 1 rfl ?_;refine bD Y 4 5 (λh32 Y=>?_) (λh32 Y=>?_)
 ·cases Y
  exact Rn.R1 func14 ⟨rfl,D14.pk []⟩
 refine Rn.q rfl (V.ldB V3 rfl (D14.get 3 rfl) rfl) (gg 2 rfl ?_);refine Rn.cutR [8,9,10,11,12,13,14,15,16,17,18,19,20,21,22,23,24,25,26,27,28,29,30,31] [(1,pt b10 0),(62,.bool (decide ((x0.Start<0)∨(x0.Time>4503599627370496))))] (λK33=>?_) ?_
 ·refine Rn.partD (t:=58) rfl (λh34=>?_) (λh34=>?_)
  ·refine gg 4 rfl ?_;exact K33 _ sA
  refine gg 1 rfl (Rn.q rfl (V.ldB V3 rfl (D14.get 3 rfl) rfl) (gg 2 rfl ?_));exact K33 _ sA
 refine gg 1 rfl ?_;refine Rn.cutR [20,21,22,23,24,25,26,27,28,29,30,31] [(1,pt b10 0),(74,.bool (decide (((x0.Start<0)∨(x0.Time>4503599627370496))∨((x0.Kind=3)∧(x0.Start≠x0.Time)))))] (λK35=>?_) ?_
 ·refine Rn.partD (t:=63) rfl (λh36=>?_) (λh36=>?_)
  ·refine gg 11 rfl ?_;exact K35 _ sA
  refine gg 1 rfl (Rn.q rfl (V.ldB V3 rfl (D14.get 3 rfl) rfl) (gg 2 rfl ?_));refine Rn.cutR [19,20,21,22,23,24,25,26,27,28,29,30,31] [(1,pt b10 0),(63,.bool false),(73,.bool (decide ((x0.Kind=3)∧(x0.Start≠x0.Time))))] (λK37=>?_) ?_
  ·refine Rn.partD (t:=67) rfl (λh38=>?_) (λh38=>?_)
   ·refine gg 1 rfl (Rn.q rfl (V.ldB V3 rfl (D14.get 3 rfl) rfl) (gg 1 rfl (Rn.q rfl (V.ldB V3 rfl (D14.get 3 rfl) rfl) (gg 2 rfl ?_))));exact K37 _ sA
   refine gg 6 rfl ?_;exact K37 _ sA
  refine gg 1 rfl ?_;exact K35 _ sA
 refine gg 1 rfl ?_;refine Rn.cutR [] [(1,pt b10 0),(86,.bool (decide ((((x0.Start<0)∨(x0.Time>4503599627370496))∨((x0.Kind=3)∧(x0.Start≠x0.Time)))∨((x0.Kind≠3)∧(x0.Start≥x0.Time)))))] (λK39=>?_) ?_
 ·refine Rn.partD (t:=75) rfl (λh40=>?_) (λh40=>?_)
  ·refine gg 11 rfl ?_;exact K39 _ sA
  refine gg 1 rfl (Rn.q rfl (V.ldB V3 rfl (D14.get 3 rfl) rfl) (gg 2 rfl ?_));refine Rn.cutR [31] [(1,pt b10 0),(75,.bool false),(85,.bool (decide ((x0.Kind≠3)∧(x0.Start≥x0.Time))))] (λK41=>?_) ?_
  ·refine Rn.partD (t:=79) rfl (λh42=>?_) (λh42=>?_)
   ·refine gg 1 rfl (Rn.q rfl (V.ldB V3 rfl (D14.get 3 rfl) rfl) (gg 1 rfl (Rn.q rfl (V.ldB V3 rfl (D14.get 3 rfl) rfl) (gg 2 rfl ?_))));exact K41 _ sA
   refine gg 6 rfl ?_;exact K41 _ sA
  refine gg 1 rfl ?_;exact K39 _ sA
 refine gg 1 rfl ?_;refine bD Y 4 5 (λh43 Y=>?_) (λh43 Y=>?_)
 ·cases Y
  exact Rn.R1 func14 ⟨rfl,D14.pk []⟩
 refine Rn.q rfl (V.ldB V3 rfl (D14.get 3 rfl) rfl) (gg 2 rfl ?_);refine Rn.cutR [8,9,10,11,12,13,14,15,16,17,18,19,20,21,22,23,24,25,26,27,28] [(1,pt b10 0),(94,.bool (decide ((x0.Kind≠1)∧(x0.Int_≠0))))] (λK44=>?_) ?_
 ·refine Rn.partD (t:=90) rfl (λh45=>?_) (λh45=>?_)
  ·refine gg 1 rfl (Rn.q rfl (V.ldB V3 rfl (D14.get 3 rfl) rfl) (gg 2 rfl ?_));exact K44 _ sA
  refine gg 4 rfl ?_;exact K44 _ sA
 refine gg 1 rfl ?_;refine Rn.cutR [18,19,20,21,22,23,24,25,26,27,28] [(1,pt b10 0),(104,.bool (decide (((x0.Kind≠1)∧(x0.Int_≠0))∨((x0.Kind≠5)∧(((x0.Im).toNat:Int)≠0)))))] (λK46=>?_) ?_
 ·refine Rn.partD (t:=95) rfl (λh47=>?_) (λh47=>?_)
  ·refine gg 9 rfl ?_;exact K46 _ sA
  refine gg 1 rfl (Rn.q rfl (V.ldB V3 rfl (D14.get 3 rfl) rfl) (gg 2 rfl ?_));refine Rn.cutR [17,18,19,20,21,22,23,24,25,26,27,28] [(1,pt b10 0),(95,.bool false),(103,.bool (decide ((x0.Kind≠5)∧(((x0.Im).toNat:Int)≠0))))] (λK48=>?_) ?_
  ·refine Rn.partD (t:=99) rfl (λh49=>?_) (λh49=>?_)
   ·refine gg 1 rfl (Rn.q rfl (V.ldB V35 rfl (D14.get 3 rfl) rfl) (Rn.q rfl (V.neq rfl rfl) (gg 1 rfl ?_)));exact K48 _ sA
   refine gg 4 rfl ?_;exact K48 _ sA
  refine gg 1 rfl ?_;exact K46 _ sA
 refine gg 1 rfl ?_;refine Rn.jR D0 Y (G:=Bool) [] (λg=>[(1,pt b10 0),(115,.bool (g))]) (λg=>[slR Ar1 cr1 zA0.rep x0.Attrs,slR Ar3 cr3 zAq x0.Hist.Pos.Counts,slR Ar5 cr5 zAq x0.Hist.Neg.Counts,zAi b10 42 [Str (x0.Name),.slice Ar1 (x0.Attrs).length cr1,iv x0.Kind,iv x0.Temp,.bool (x0.Mono),iv x0.Start,iv x0.Time,iv x0.Int_,zAn x0.Re,zAn x0.Im,iv x0.Hist.Scale,zAn x0.Hist.Zero,iv x0.Hist.Pos.Offset,.slice Ar3 (x0.Hist.Pos.Counts).length cr3,iv x0.Hist.Neg.Offset,.slice Ar5 (x0.Hist.Neg.Counts).length cr5,iv x0.Flags]]) (λj g=>j g) ?_ ?_
 ·rintro y50 w51 D51 Y
  try dsimp only at Y
  refine gg 1 rfl ?_;refine bS Y 4 5 (λh52 Y=>?_) (λh52 Y=>?_)
  ·cases Y
   exact Rn.R1 func14 ⟨rfl,D51.pk []⟩
  refine Rn.q rfl (V.ldB V3 rfl (D51.get 3 rfl) rfl) (gg 2 rfl ?_);refine Rn.cutR [8,9,10,11,12,13,14,15,16,17,18,19,20,21,22] [(1,pt b10 0),(123,.bool (decide ((x0.Kind=1)∨(x0.Kind=4))))] (λK53=>?_) ?_
  ·refine Rn.partD (t:=119) rfl (λh54=>?_) (λh54=>?_)
   ·refine gg 4 rfl ?_;exact K53 _ sA
   refine gg 1 rfl (Rn.q rfl (V.ldB V3 rfl (D51.get 3 rfl) rfl) (gg 2 rfl ?_));exact K53 _ sA
  refine gg 1 rfl ?_;refine Rn.cutR [13,14,15,16,17,18,19,20,21,22] [(1,pt b10 0),(128,.bool (decide (((x0.Kind=1)∨(x0.Kind=4))∧(((x0.Re).toNat:Int)≠0))))] (λK55=>?_) ?_
  ·refine Rn.partD (t:=124) rfl (λh56=>?_) (λh56=>?_)
   ·refine gg 1 rfl (Rn.q rfl (V.ldB V35 rfl (D51.get 3 rfl) rfl) (Rn.q rfl (V.neq rfl rfl) (gg 1 rfl ?_)));exact K55 _ sA
   refine gg 4 rfl ?_;exact K55 _ sA
  refine gg 1 rfl ?_;refine Rn.cutR [18,19,20,21,22] [(1,pt b10 0),(133,.bool (decide ((((x0.Kind=1)∨(x0.Kind=4))∧(((x0.Re).toNat:Int)≠0))∨(x0.Flags<0))))] (λK57=>?_) ?_
  ·refine Rn.partD (t:=129) rfl (λh58=>?_) (λh58=>?_)
   ·refine gg 4 rfl ?_;exact K57 _ sA
   refine gg 1 rfl (Rn.q rfl (V.ldB V3 rfl (D51.get 3 rfl) rfl) (gg 2 rfl ?_));exact K57 _ sA
  refine gg 1 rfl ?_;refine Rn.cutR [] [(1,pt b10 0),(138,.bool (decide (((((x0.Kind=1)∨(x0.Kind=4))∧(((x0.Re).toNat:Int)≠0))∨(x0.Flags<0))∨(x0.Flags>31))))] (λK59=>?_) ?_
  ·refine Rn.partD (t:=134) rfl (λh60=>?_) (λh60=>?_)
   ·refine gg 4 rfl ?_;exact K59 _ sA
   refine gg 1 rfl (Rn.q rfl (V.ldB V3 rfl (D51.get 3 rfl) rfl) (gg 2 rfl ?_));exact K59 _ sA
  refine gg 1 rfl ?_;refine bD Y 4 5 (λh61 Y=>?_) (λh61 Y=>?_)
  ·cases Y
   exact Rn.R1 func14 ⟨rfl,D51.pk []⟩
  refine Rn.q rfl (V.ldB V4 rfl (D51.get 3 rfl) rfl) (gg 1 rfl ?_);refine Rn.cutR [7,8,9,10,11,12] [(1,pt b10 0),(145,.bool (decide ((x0.Mono=true)∧(x0.Kind=2))))] (λK62=>?_) ?_
  ·refine Rn.part (t:=141) rfl (λh63=>?_) (λh63=>?_)
   ·refine gg 1 rfl (Rn.q rfl (V.ldB V3 rfl (D51.get 3 rfl) rfl) (gg 2 rfl ?_));exact K62 _ sA
   refine gg 4 rfl ?_;exact K62 _ sA
  refine gg 1 rfl ?_;refine Rn.jR D0 Y (G:=Bool) [] (λg=>[(1,pt b10 0),(151,.bool (g))]) (λg=>[slR Ar1 cr1 zA0.rep x0.Attrs,slR Ar3 cr3 zAq x0.Hist.Pos.Counts,slR Ar5 cr5 zAq x0.Hist.Neg.Counts,zAi b10 42 [Str (x0.Name),.slice Ar1 (x0.Attrs).length cr1,iv x0.Kind,iv x0.Temp,.bool (x0.Mono),iv x0.Start,iv x0.Time,iv x0.Int_,zAn x0.Re,zAn x0.Im,iv x0.Hist.Scale,zAn x0.Hist.Zero,iv x0.Hist.Pos.Offset,.slice Ar3 (x0.Hist.Pos.Counts).length cr3,iv x0.Hist.Neg.Offset,.slice Ar5 (x0.Hist.Neg.Counts).length cr5,iv x0.Flags]]) (λj g=>j g) ?_ ?_
  ·rintro y64 w65 D65 Y
   try dsimp only at Y
   refine gg 1 rfl ?_;refine bS Y 4 5 (λh66 Y=>?_) (λh66 Y=>?_)
   ·cases Y
    exact Rn.R1 func14 ⟨rfl,D65.pk []⟩
   refine Rn.q rfl (V.ldB V4 rfl (D65.get 3 rfl) rfl) (gg 1 rfl ?_);refine Rn.cutR [7,8,9,10,11,12,13,14,15,16,17,18,19,20,21,22,23,24,25] [(1,pt b10 0),(158,.bool (decide ((x0.Mono=true)∧(x0.Kind=2))))] (λK67=>?_) ?_
   ·refine Rn.part (t:=154) rfl (λh68=>?_) (λh68=>?_)
    ·refine gg 1 rfl (Rn.q rfl (V.ldB V3 rfl (D65.get 3 rfl) rfl) (gg 2 rfl ?_));exact K67 _ sA
    refine gg 4 rfl ?_;exact K67 _ sA
   refine gg 1 rfl ?_;refine Rn.jR D0 Y (G:=Bool) [12,13,14,15,16,17,18,19,20,21,22,23,24,25] (λg=>[(1,pt b10 0),(163,.bool (g))]) (λg=>[slR Ar1 cr1 zA0.rep x0.Attrs,slR Ar3 cr3 zAq x0.Hist.Pos.Counts,slR Ar5 cr5 zAq x0.Hist.Neg.Counts,zAi b10 42 [Str (x0.Name),.slice Ar1 (x0.Attrs).length cr1,iv x0.Kind,iv x0.Temp,.bool (x0.Mono),iv x0.Start,iv x0.Time,iv x0.Int_,zAn x0.Re,zAn x0.Im,iv x0.Hist.Scale,zAn x0.Hist.Zero,iv x0.Hist.Pos.Offset,.slice Ar3 (x0.Hist.Pos.Counts).length cr3,iv x0.Hist.Neg.Offset,.slice Ar5 (x0.Hist.Neg.Counts).length cr5,iv x0.Flags]]) (λj g=>j g) ?_ ?_
   ·rintro y69 w70 D70 Y
    try dsimp only at Y
    refine gg 1 rfl ?_;refine Rn.cutR [] [(1,pt b10 0),(177,.bool (decide ((y69=true)∨(((x0.Mono=true)∧(x0.Kind=1))∧(x0.Int_<0)))))] (λK71=>?_) ?_
    ·refine Rn.part (t:=164) rfl (λh72=>?_) (λh72=>?_)
     ·refine gg 13 rfl ?_;exact K71 _ sA
     refine gg 1 rfl (Rn.q rfl (V.ldB V4 rfl (D70.get 3 rfl) rfl) (gg 1 rfl ?_));refine Rn.cutR [20,21,22,23,24,25] [(1,pt b10 0),(164,.bool false),(171,.bool (decide ((x0.Mono=true)∧(x0.Kind=1))))] (λK73=>?_) ?_
     ·refine Rn.part (t:=167) rfl (λh74=>?_) (λh74=>?_)
      ·refine gg 1 rfl (Rn.q rfl (V.ldB V3 rfl (D70.get 3 rfl) rfl) (gg 2 rfl ?_));exact K73 _ sA
      refine gg 4 rfl ?_;exact K73 _ sA
     refine gg 1 rfl ?_;refine Rn.cutR [25] [(1,pt b10 0),(164,.bool false),(176,.bool (decide (((x0.Mono=true)∧(x0.Kind=1))∧(x0.Int_<0))))] (λK75=>?_) ?_
     ·refine Rn.partD (t:=172) rfl (λh76=>?_) (λh76=>?_)
      ·refine gg 1 rfl (Rn.q rfl (V.ldB V3 rfl (D70.get 3 rfl) rfl) (gg 2 rfl ?_));exact K75 _ sA
      refine gg 4 rfl ?_;exact K75 _ sA
     refine gg 1 rfl ?_;exact K71 _ sA
    refine gg 1 rfl ?_;refine bD Y 4 5 (λh77 Y=>?_) (λh77 Y=>?_)
    ·cases Y
     exact Rn.R1 func14 ⟨rfl,D70.pk []⟩
    refine Rn.q rfl (V.ldB V3 rfl (D70.get 3 rfl) rfl) (gg 2 rfl ?_);refine bD Y 3 5 (λh78 Y=>?_) (λh78 Y=>?_)
    ·refine Rn.q rfl (V.ldBA [_,_,_,_,_,_] V40 O40 rfl (D70.get 3 rfl) rfl rfl) ?_;obtain ⟨p79,e79,Y⟩:=zA7 Y
     refine Rn.c0 (cK func49) (zLu (Z0:=All) e79 (show zA2.rep.rel All _ _ _ from ⟨_,_,rfl,⟨rfl,trivial⟩,⟨_,_,rfl,⟨rfl,trivial⟩,⟨_,_,rfl,⟨_,_,rfl,⟨rfl,trivial⟩,⟨_,_,rfl,(zA5 (D70.get 1 rfl)).1,(zA5 (D70.get 1 rfl)).2.1,(zA5 (D70.get 1 rfl)).2.2⟩⟩,⟨_,_,rfl,⟨rfl,trivial⟩,⟨_,_,rfl,(zA5 (D70.get 2 rfl)).1,(zA5 (D70.get 2 rfl)).2.1,(zA5 (D70.get 2 rfl)).2.2⟩⟩⟩⟩⟩) :) D70 λw79 _ D80=>?_
     refine gg 2 rfl ?_
     cases Y
     exact Rn.R1 func14 ⟨rfl,D80.pk []⟩
    cases Y
    exact Rn.R1 func14 ⟨rfl,D70.pk []⟩
   intro j3 Y K3;refine zKs Y (Rn.partD (t:=159) rfl) (λh81 Y=>?_) (λh81 Y=>?_)
   ·refine gg 1 rfl (Rn.q rfl (V.ldB V35 rfl (D65.get 3 rfl) rfl) ?_);obtain ⟨p82,e82,Y⟩:=zA7 Y
    refine Rn.c0 (cK func48) (zMa (Z0:=All) e82  :) D65 λw82 _ D83=>?_
    refine gg 1 rfl ?_;exact K3 p82 _ _ sA (D83.pk [0,1,2,3]) Y
   refine gg 4 rfl ?_;exact K3 false _ _ sA (D65.pk [0,1,2,3]) Y
  intro j2 Y K2;refine zKs Y (Rn.partD (t:=146) rfl) (λh84 Y=>?_) (λh84 Y=>?_)
  ·refine gg 1 rfl (Rn.q rfl (V.ldB V35 rfl (D51.get 3 rfl) rfl) ?_);obtain ⟨p85,e85,Y⟩:=zA7 Y
   refine Rn.c0 (cK func47) (zL8 (Z0:=All) e85  :) D51 λw85 _ D86=>?_
   refine Rn.q rfl (V.notB rfl) (gg 1 rfl ?_);exact K2 (!p85) _ _ sA (D86.pk [0,1,2,3]) Y
  refine gg 5 rfl ?_;exact K2 false _ _ sA (D51.pk [0,1,2,3]) Y
 intro j1 Y K1;refine zKs Y (Rn.partD (t:=105) rfl) (λh87 Y=>?_) (λh87 Y=>?_)
 ·refine gg 10 rfl ?_;exact K1 true _ _ sA (D14.pk [0,1,2,3]) Y
 refine gg 1 rfl (Rn.q rfl (V.ldB V3 rfl (D14.get 3 rfl) rfl) (gg 2 rfl ?_));refine Rn.jR D0 Y (G:=Bool) [28] (λg=>[(1,pt b10 0),(105,.bool false),(114,.bool (g))]) (λg=>[slR Ar1 cr1 zA0.rep x0.Attrs,slR Ar3 cr3 zAq x0.Hist.Pos.Counts,slR Ar5 cr5 zAq x0.Hist.Neg.Counts,zAi b10 42 [Str (x0.Name),.slice Ar1 (x0.Attrs).length cr1,iv x0.Kind,iv x0.Temp,.bool (x0.Mono),iv x0.Start,iv x0.Time,iv x0.Int_,zAn x0.Re,zAn x0.Im,iv x0.Hist.Scale,zAn x0.Hist.Zero,iv x0.Hist.Pos.Offset,.slice Ar3 (x0.Hist.Pos.Counts).length cr3,iv x0.Hist.Neg.Offset,.slice Ar5 (x0.Hist.Neg.Counts).length cr5,iv x0.Flags]]) (λj g=>j g) ?_ ?_
 ·rintro y88 w89 D89 Y
  try dsimp only at Y
  refine gg 1 rfl ?_;exact K1 y88 _ _ sA (D89.pk [0,1,2,3]) Y
 intro j4 Y K4;refine zKs Y (Rn.partD (t:=109) rfl) (λh90 Y=>?_) (λh90 Y=>?_)
 ·refine gg 1 rfl (Rn.q rfl (V.ldBA [_,_,_,_,_,_] V40 O40 rfl (D14.get 3 rfl) rfl rfl) ?_);obtain ⟨p91,e91,Y⟩:=zA7 Y
  refine Rn.c0 (cK func46) (zM5 (Z0:=All) e91 (show zA2.rep.rel All _ _ _ from ⟨_,_,rfl,⟨rfl,trivial⟩,⟨_,_,rfl,⟨rfl,trivial⟩,⟨_,_,rfl,⟨_,_,rfl,⟨rfl,trivial⟩,⟨_,_,rfl,(zA5 (D14.get 1 rfl)).1,(zA5 (D14.get 1 rfl)).2.1,(zA5 (D14.get 1 rfl)).2.2⟩⟩,⟨_,_,rfl,⟨rfl,trivial⟩,⟨_,_,rfl,(zA5 (D14.get 2 rfl)).1,(zA5 (D14.get 2 rfl)).2.1,(zA5 (D14.get 2 rfl)).2.2⟩⟩⟩⟩⟩) :) D14 λw91 _ D92=>?_
  refine Rn.q rfl (V.notB rfl) (gg 1 rfl ?_);exact K4 (!p91) _ _ sA (D92.pk [0,1,2,3]) Y
 refine gg 5 rfl ?_;exact K4 false _ _ sA (D14.pk [0,1,2,3]) Y
theorem zFr {x0:(List zA0)} {r:(List zA0)} (Y:zDc x0=some r) (f0:(slR A0 c0 zA0.rep x0).H Z0 w) :
 Calls prog 22 #[.slice A0 (x0).length c0] w λx w'=>∃ A_0_0 c_0_0,x=.returned (.slice A_0_0 (r).length c_0_0)∧Hp Z0 No w w' [zAy 118 A_0_0 c_0_0 zA0.rep r]:=by
 obtain ⟨D0,D2,hc0⟩:=knA f0;refine eg func22 13 ?_;refine Rn.jG D0 Y (G:=(List zA0)×Option Addr×Nat) (λg=>[(3,.slice (g.2.1) ((g.1)).length (g.2.2))]) (λg=>[zAy 118 (g.2.1) (g.2.2) zA0.rep (g.1)]) (λj g=>j g.1) ?_ ?_
 ·rintro ⟨y3,A4,c4⟩ w6 D6 Y
  try dsimp only at Y
  refine gg 5 rfl ?_
  cases Y
  exact Rn.R1 func22 ⟨A4,c4,rfl,D6.pk [0]⟩
 intro j1 Y K1;refine gg 1 rfl ?_;have D11:=D2.addNil 118 zA0.rep;refine Rn.loopF (G:=(List zA0)×Int×Option Addr×Nat) (λg=>[(0,.slice A0 (x0).length c0),(3,.slice (g.2.2.1) ((g.1)).length (g.2.2.2)),(4,iv (g.2.1))]) (λg w'=>Hp Z0 No w w' [slR A0 c0 zA0.rep x0,zAy 118 (g.2.2.1) (g.2.2.2) zA0.rep (g.1)]) (λn g=>zC0 x0 j1 n g.1 g.2.1) fuel (([]:List zA0),0,none,0) sA (D11.pk [0,1]) Y (λ_=>rfl) ?_;clear Y;rintro m13 ⟨y7,y10,A8,c8⟩ w13 D13 Y N13;replace Y:zC0 x0 j1 (m13+1) y7 y10=some r:=Y;rw [zC0] at Y;refine gg 5 rfl (Rn.q rfl (V.lenV U34 rfl) (gg 2 rfl ?_));refine bD Y 6 1 (λh14 Y=>?_) (λh14 Y=>?_)
 ·refine Rn.q rfl (V.lenV U34 rfl) (gg 3 rfl ?_);refine Rn.jG D0 Y (G:=Int) (λg=>[(0,.slice A0 (x0).length c0),(3,.slice A8 (y7).length c8),(4,iv y10),(5,iv g)]) (λg=>[slR A0 c0 zA0.rep x0,zAy 118 A8 c8 zA0.rep y7]) (λj g=>j g) ?_ ?_
  ·rintro y15 w16 D16 Y
   try dsimp only at Y
   refine gg 9 rfl ?_;have D19:=D16.freeze 1 rfl;obtain ⟨z17,e17,Y⟩:=zA7 Y;refine Rn.cutH D19 1 rfl e17 rfl rfl rfl U34 O118 rfl rfl rfl rfl rfl ?_;intro A17 c17 D17;have D22:=D17.addNil 118 zA0.rep;obtain ⟨z21,e21,Y⟩:=zA7 Y;refine Rn.appH D22 3 rfl e21 rfl rfl rfl U34 zXz rfl rfl rfl rfl (D22.src 2 rfl) ?_;intro A21 c21 w21 D21;refine gg 7 rfl ?_;obtain ⟨z25,e25,Y⟩:=zA7 Y;refine Rn.ixH D21 0 rfl e25 rfl rfl rfl U34 O118 rfl rfl rfl rfl ?_;rintro b25 o25 vs25 hr25 D25;obtain rfl:=zA0.relE hr25;refine Rn.q rfl (V.ldA (vs:=[_,_]) V118 O118 rfl (Rd.pre (D25.get 4 rfl).2 2) rfl) ?_;obtain ⟨z27,e27,Y⟩:=zA7 Y;refine Rn.pushH (z:=z25) (vs:=[Str (z25.Key),Str (z25.Val)]) D25 3 rfl e27 rfl rfl rfl rfl U34 zXz rfl rfl rfl rfl (λ_=>rfl) (⟨_,_,rfl,⟨rfl,trivial⟩,⟨rfl,trivial⟩⟩) ?_;intro A27 c27 w27 u27 D27;refine gg 6 rfl ?_;obtain ⟨z29,e29,Y⟩:=zA7 Y;refine Rn.cutH D27 1 rfl e29 rfl rfl rfl U34 O118 rfl rfl rfl rfl rfl ?_;intro A29 c29 D29;obtain ⟨z31,e31,Y⟩:=zA7 Y;refine Rn.appH D29 3 rfl e31 rfl rfl rfl U34 zXz rfl rfl rfl rfl (D29.src 5 rfl) ?_;intro A31 c31 w31 D31;refine gg 8 rfl ?_;exact N13 (z31,(W64 (y10+1)),A31,c31) _ _ sA (D31.pk [0,3]) Y
  intro j2 Y K2;refine gg 1 rfl ?_;refine Rn.loopF (G:=Int) (λg=>[(0,.slice A0 (x0).length c0),(3,.slice A8 (y7).length c8),(4,iv y10),(5,iv g)]) (λg w'=>Hp Z0 No w w' [slR A0 c0 zA0.rep x0,zAy 118 A8 c8 zA0.rep y7]) (λn g=>zBb x0 y7 y10 j2 n g) fuel (y7.length:Int) sA (D13.pk [0,1]) Y (λ_=>rfl) ?_;clear Y;rintro m34 y33 w34 D34 Y N34;replace Y:zBb x0 y7 y10 j2 (m34+1) y33=some r:=Y;rw [zBb] at Y;refine gg 2 rfl ?_;refine Rn.jG D0 Y (G:=Bool) (λg=>[(0,.slice A0 (x0).length c0),(3,.slice A8 (y7).length c8),(4,iv y10),(5,iv y33),(30,.bool (g))]) (λg=>[slR A0 c0 zA0.rep x0,zAy 118 A8 c8 zA0.rep y7]) (λj g=>j g) ?_ ?_
  ·rintro y35 w36 D36 Y
   try dsimp only at Y
   refine bS Y 8 1 (λh37 Y=>?_) (λh37 Y=>?_)
   ·exact N34 (W64 (y33-1)) _ _ sA (D36.pk [0,1]) Y
   exact K2 y33 _ _ sA (D36.pk [0,1]) Y
  intro j3 Y K3;refine Rn.drawP rfl D34 ?_;intro w38 D38;refine dq [0,1,2] ?_;refine zKs Y (RH.partD (t:=17) rfl) (λh39 Y=>?_) (λh39 Y=>?_)
  ·refine dq [3,4,5] ?_;obtain ⟨z40,e40,Y⟩:=zA7 Y;obtain ⟨kk40,ke40,kz40,kl40⟩:=zJb e40;obtain ⟨g40,vs40,hA40,hR40,hrel40⟩:=D38.ownAt 1 rfl kz40;subst hA40;obtain rfl:=zA0.relE hrel40;refine RH.tp 6 rfl (V.ixE kk40 U34 O118 rfl rfl ke40 kl40) ?_;refine dq [7] ?_;refine RH.tp 8 rfl (V.ldR0 V9 rfl hR40 rfl) ?_;refine dq [9,10] ?_;obtain ⟨z41,e41,Y⟩:=zA7 Y;obtain ⟨kk41,ke41,kz41,kl41⟩:=zJb e41;obtain ⟨b41,o41,vs41,hA41,hD41,hR41,hrel41⟩:=Hp.at D38 0 rfl kz41;obtain rfl:=zA0.relE hrel41;have D43:=Hp.knowL [rdR b41 (o41+kk41*2) [Str (z41.Key),Str (z41.Val)]] _ D38 (knC (λ_ h=>h) ⟨λ_=>hD41,hR41⟩ kn0);refine RH.tp 11 rfl (V.ixA' hA41 kk41 U34 O118 rfl rfl ke41 kl41) ?_;refine dq [12] ?_;refine RH.tp 13 rfl (V.ldR0 V9 rfl (D43.get 2 rfl).2 rfl) ?_;refine RH.tp 14 rfl (V.gtrS rfl rfl) ?_;refine dq [15] ?_;refine RH.dn ?_;exact K3 (Op.bytesLess z41.Key z40.Key) _ _ sA (D43.pk [0,1]) Y
  refine dq [3,4,5,6,7,8,9,10,11,12,13,14,15] ?_;refine RH.dn ?_;exact K3 false _ _ sA (D38.pk [0,1]) Y
 exact K1 (y7,A8,c8) _ _ sA (D13.pk [1]) Y
theorem zM7 {x0:(List UInt8)} {x1:(List zA0)} {r:((List UInt8)×Int)} (Y:zEo x0 x1=some r) (f0:(slR A1 c1 zA0.rep x1).H Z0 w) :
 Calls prog 50 #[Str (x0),.slice A1 (x1).length c1] w λx w'=>x=.returned (.tuple #[Str (r.1),iv r.2])∧Hp Z0 No w w' []:=by
 obtain ⟨D0,D2,hc0⟩:=knA f0;refine eg func50 10 ?_;obtain ⟨p3,e3,Y⟩:=zA7 Y
 refine Rn.c0 (cK func45) (zI5 (Z0:=All) e3 (zA5 (D2.get 0 rfl)) :) D2 λw3 _ D4=>?_
 refine gg 7 rfl ?_;refine bD Y 6 4 (λh5 Y=>?_) (λh5 Y=>?_)
 ·cases Y
  exact Rn.R2 func50 ⟨rfl,D4.pk []⟩
 obtain ⟨p6,e6,Y⟩:=zA7 Y
 refine Rn.c2 (cK func22) (zFr (Z0:=All) e6 (zA5 (D4.get 0 rfl)) :) λA6_0_0 c6_0_0 w6 Q6=>?_
 have D8:=D4.callF (flC (zAm zA0.flat _ _ _ _) fl0) Q6;refine gg 12 rfl ?_;refine Rn.jG D0 Y (G:=(List UInt8)) (λg=>[(8,Str (g))]) (λg=>[zAy 118 A6_0_0 c6_0_0 zA0.rep p6]) (λj g=>j g) ?_ ?_
 ·rintro y9 w10 D10 Y
  try dsimp only at Y
  refine gg 6 rfl ?_
  cases Y
  exact Rn.R2 func50 ⟨rfl,D10.pk []⟩
 intro j1 Y K1;refine gg 1 rfl ?_;refine Rn.loopF (G:=(List UInt8)×Int) (λg=>[(7,.slice A6_0_0 (p6).length c6_0_0),(8,Str ((g.1))),(9,iv (g.2))]) (λg w'=>Hp Z0 No w w' [zAy 118 A6_0_0 c6_0_0 zA0.rep p6]) (λn g=>zBy p6 j1 n g.1 g.2) fuel (x0,0) sA (D8.pk [1]) Y (λ_=>rfl) ?_;clear Y;rintro m13 ⟨y11,y12⟩ w13 D13 Y N13;replace Y:zBy p6 j1 (m13+1) y11 y12=some r:=Y;rw [zBy] at Y;refine gg 5 rfl (Rn.q rfl (V.lenV U34 rfl) (gg 2 rfl ?_));refine bD Y 3 1 (λh14 Y=>?_) (λh14 Y=>?_)
 ·refine Rn.drawP rfl D13 ?_;intro w15 D15;refine dq [0] ?_;obtain ⟨z16,e16,Y⟩:=zA7 Y;refine RH.tp 1 rfl (V.catZ rfl rfl e16) ?_;refine dq [2,3] ?_;obtain ⟨z17,e17,Y⟩:=zA7 Y;obtain ⟨kk17,ke17,kz17,kl17⟩:=zJb e17;obtain ⟨g17,vs17,hA17,hR17,hrel17⟩:=D15.ownAt 0 rfl kz17;subst hA17;obtain rfl:=zA0.relE hrel17;refine RH.tp 4 rfl (V.ixE kk17 U34 O118 rfl rfl ke17 kl17) ?_;refine dq [5] ?_;refine RH.tp 6 rfl (V.ldR0 V9 rfl hR17 rfl) ?_;obtain ⟨z18,e18,Y⟩:=zA7 Y;refine RH.tp 7 rfl (V.catZ rfl rfl e18) ?_;obtain ⟨z19,e19,Y⟩:=zA7 Y;refine RH.tp 8 rfl (V.catZ rfl rfl e19) ?_;refine dq [9,10] ?_;obtain ⟨z20,e20,Y⟩:=zA7 Y;obtain ⟨kk20,ke20,kz20,kl20⟩:=zJb e20;obtain ⟨vs20,hR20,hrel20⟩:=D15.ownAtL 0 rfl kz20;obtain rfl:=zA0.relE hrel20;refine RH.tp 11 rfl (V.ixE kk20 U34 O118 rfl rfl ke20 kl20) ?_;refine dq [12] ?_;refine RH.tp 13 rfl (V.ldR (o:=kk20*2) (j:=1) V9 rfl hR20 rfl) ?_;obtain ⟨z21,e21,Y⟩:=zA7 Y;refine RH.tp 14 rfl (V.catZ rfl rfl e21) ?_;refine dq [15] ?_;refine RH.dn ?_;refine gg 6 rfl ?_;exact N13 (z21,(W64 (y12+1))) _ _ sA (D15.pk [0]) Y
 exact K1 y11 _ _ sA (D13.pk [0]) Y
theorem zG8 {x0:Int} {r:(List UInt8)} (Y:zE7 x0=some r)  :
 Calls prog 51 #[iv x0] w λx w'=>x=.returned (Str (r))∧Hp Z0 No w w' []:=by
 have D0:=Hp.nil Z0 No w;have hc0:=Calm.nil;refine eg func51 8 ?_;refine Rn.q rfl (V.cv8 U3 U5 rfl) (Rn.bslS rfl rfl rfl U22 el5 rfl rfl rfl rfl (by first|exact szs rfl|(simp [Value.cells];done)) (by decide) ?_);intro b1 w1 hb1 m1 e1;have D2:=D0.addLit (rep:=zBu) (xs:=([toU8 (W64 (48+x0))]:List UInt8)) (vss:=[[u8v (toU8 (W64 (48+x0)))]]) hb1 e1 m1 rfl rfl rfl ((zCr (λ_ _=>⟨rfl,trivial⟩) zO4));refine Rn.q rfl (V.b2s U22 U9 U5 rfl rfl (Own.sl (D2.get 0 rfl))) (gg 2 rfl ?_)
 cases Y
 exact Rn.R1 func51 ⟨rfl,D2.pk []⟩
theorem zMr {x0:Bool} {r:Int} (Y:zGv x0=some r)  :
 Calls prog 52 #[.bool (x0)] w λx w'=>x=.returned (iv r)∧Hp Z0 No w w' []:=by
 have D0:=Hp.nil Z0 No w;have hc0:=Calm.nil;refine eg func52 9 ?_;refine bS Y 4 5 (λh1 Y=>?_) (λh1 Y=>?_)
 ·cases Y
  exact Rn.R1 func52 ⟨rfl,D0.pk []⟩
 cases Y
 exact Rn.R1 func52 ⟨rfl,D0.pk []⟩
theorem zIs {x0:zA8} {r:((List UInt8)×Int)} (Y:zF6 x0=some r) (h0:zA8.rep.rel Z0 w cs0 x0) :
 Calls prog 15 #[.agg cs0.toArray] w λx w'=>x=.returned (.tuple #[Str (r.1),iv r.2])∧Hp Z0 No w w' []:=by
 have D0:=Hp.nil Z0 No w;have hc0:=Calm.nil;obtain ⟨Ar1,cr1,Ar3,cr3,Ar5,cr5,rfl,fs1,fs3,fs5⟩:=zA8.relE h0;obtain ⟨D7,hc0⟩:=D0.kn (r:=slR Ar1 cr1 zA0.rep x0.Attrs) hc0 fs1;obtain ⟨D8,hc0⟩:=D7.kn (r:=slR Ar3 cr3 zAq x0.Hist.Pos.Counts) hc0 fs3;obtain ⟨D9,hc0⟩:=D8.kn (r:=slR Ar5 cr5 zAq x0.Hist.Neg.Counts) hc0 fs5;refine eg func15 2 ?_;refine Rn.box rfl rfl rfl rfl rfl ?_;intro b10 w10 hb10 m10 e10;have D12:=(D9.addBox hb10 e10 m10).nf [_,_,_,zAi _ _ [_,_,_,_,_,_,_,_,_,_,_,_,_,_,_,_,_]] rfl;refine gg 6 rfl (Rn.q rfl (V.ldBA [_,_,_,_,_,_,_,_,_,_,_,_,_,_,_,_,_] V42 O42 rfl (D12.get 3 rfl) rfl rfl) ?_);obtain ⟨p13,e13,Y⟩:=zA7 Y
 refine Rn.c0 (cK func14) (zI4 (Z0:=All) e13 (show zA8.rep.rel All _ _ _ from ⟨_,_,rfl,⟨rfl,trivial⟩,⟨_,_,rfl,⟨_,_,rfl,(zA5 (D12.get 0 rfl)).1,(zA5 (D12.get 0 rfl)).2.1,(zA5 (D12.get 0 rfl)).2.2⟩,⟨_,_,rfl,⟨rfl,trivial⟩,⟨_,_,rfl,⟨rfl,trivial⟩,⟨_,_,rfl,⟨rfl,trivial⟩,⟨_,_,rfl,⟨rfl,trivial⟩,⟨_,_,rfl,⟨rfl,trivial⟩,⟨_,_,rfl,⟨rfl,trivial⟩,⟨_,_,rfl,⟨rfl,trivial⟩,⟨_,_,rfl,⟨rfl,trivial⟩,⟨_,_,rfl,⟨_,_,rfl,⟨rfl,trivial⟩,⟨_,_,rfl,⟨rfl,trivial⟩,⟨_,_,rfl,⟨_,_,rfl,⟨rfl,trivial⟩,⟨_,_,rfl,(zA5 (D12.get 1 rfl)).1,(zA5 (D12.get 1 rfl)).2.1,(zA5 (D12.get 1 rfl)).2.2⟩⟩,⟨_,_,rfl,⟨rfl,trivial⟩,⟨_,_,rfl,(zA5 (D12.get 2 rfl)).1,(zA5 (D12.get 2 rfl)).2.1,(zA5 (D12.get 2 rfl)).2.2⟩⟩⟩⟩⟩,⟨rfl,trivial⟩⟩⟩⟩⟩⟩⟩⟩⟩⟩⟩⟩) :) D12 λw13 _ D14=>?_
 refine gg 7 rfl ?_;refine bD Y 6 4 (λh15 Y=>?_) (λh15 Y=>?_)
 ·cases Y
  exact Rn.R2 func15 ⟨rfl,D14.pk []⟩
 refine Rn.q rfl (V.ldB V9 rfl (D14.get 3 rfl) rfl) (gg 1 rfl (Rn.q rfl (V.ldB V34 rfl (D14.get 3 rfl) rfl) ?_));obtain ⟨p16,e16,Y⟩:=zA7 Y
 refine Rn.c0 (cK func50) (zM7 (Z0:=All) e16 (zA5 (D14.get 0 rfl)) :) D14 λw16 _ D17=>?_
 refine gg 7 rfl ?_;refine Rn.drawH rfl D17 ?_;intro w18 D18;refine dq [0] ?_;obtain ⟨z19,e19,Y⟩:=zA7 Y;refine RH.tk 1 rfl (λw' hDr=>V.catZ rfl rfl e19) ?_;refine dq [2] ?_;refine RH.tk 3 rfl (λw' hDr=>V.ldB V3 rfl ((D18.ext hDr).get 3 rfl) rfl) ?_;refine dq [6] ?_;refine RH.tk 7 rfl (λw' hDr=>V.ldB V3 rfl ((D18.ext hDr).get 3 rfl) rfl) ?_;refine dq [10] ?_;refine RH.tk 11 rfl (λw' hDr=>V.ldB V4 rfl ((D18.ext hDr).get 3 rfl) rfl) ?_;obtain ⟨p20,e20,Y⟩:=zA7 Y;refine RH.cq (cK func51) 4 (zG8 (Z0:=All) e20  :) ?_;rintro _ w20 ⟨rfl,Q20⟩;refine ⟨_,rfl,((Ext.refl _).trans Q20.fr),?_⟩;have D21:=D18.call0 Q20;obtain ⟨z22,e22,Y⟩:=zA7 Y;refine RH.tk 5 rfl (λw' hDr=>V.catZ rfl rfl e22) ?_;obtain ⟨p23,e23,Y⟩:=zA7 Y;refine RH.cq (cK func51) 8 (zG8 (Z0:=All) e23  :) ?_;rintro _ w23 ⟨rfl,Q23⟩;refine ⟨_,rfl,(((Ext.refl _).trans Q20.fr).trans Q23.fr),?_⟩;have D24:=D21.call0 Q23;obtain ⟨z25,e25,Y⟩:=zA7 Y;refine RH.tk 9 rfl (λw' hDr=>V.catZ rfl rfl e25) ?_;obtain ⟨p26,e26,Y⟩:=zA7 Y;refine RH.cq (cK func52) 12 (zMr (Z0:=All) e26  :) ?_;rintro _ w26 ⟨rfl,Q26⟩;refine ⟨_,rfl,((((Ext.refl _).trans Q20.fr).trans Q23.fr).trans Q26.fr),?_⟩;have D27:=D24.call0 Q26;obtain ⟨p28,e28,Y⟩:=zA7 Y;refine RH.cq (cK func51) 13 (zG8 (Z0:=All) e28  :) ?_;rintro _ w28 ⟨rfl,Q28⟩;refine ⟨_,rfl,(((((Ext.refl _).trans Q20.fr).trans Q23.fr).trans Q26.fr).trans Q28.fr),?_⟩;have D29:=D27.call0 Q28;obtain ⟨z30,e30,Y⟩:=zA7 Y;refine RH.ho 14 rfl (V.catZ rfl rfl e30) ?_;refine dq [15,16] ?_;refine RH.dn ?_
 cases Y
 exact Rn.R2 func15 ⟨rfl,D29.pk []⟩
theorem zF2 {x0:Int} {r:UInt64} (Y:zBm x0=some r)  :
 Calls prog 187 #[iv x0] w λx w'=>x=.returned (zAn r)∧Hp Z0 No w w' []:=by
 have D0:=Hp.nil Z0 No w;have hc0:=Calm.nil;refine eg func187 10 ?_;refine bD Y 3 5 (λh1 Y=>?_) (λh1 Y=>?_)
 ·refine Rn.q rfl (V.cv64 U3 U35 rfl) (Rn.q rfl (V.ari64 (a:=(2:UInt64)) (b:=zAf x0) rfl rfl _ rfl (zMu _ _)) (gg 2 rfl ?_))
  cases Y
  exact Rn.R1 func187 ⟨rfl,D0.pk []⟩
 refine Rn.q rfl (V.cv64 U3 U35 rfl) (Rn.q rfl (V.ari64 (a:=(2:UInt64)) (b:=zAf (W64 ((-1)-x0))) rfl rfl _ rfl (zMu _ _)) (Rn.q rfl (V.ari64 (a:=(2:UInt64)*(zAf (W64 ((-1)-x0)))) (b:=(1:UInt64)) rfl rfl _ rfl (zJe _ _)) (gg 2 rfl ?_)))
 cases Y
 exact Rn.R1 func187 ⟨rfl,D0.pk []⟩
theorem zIn {x0:Int} {r:Int} (Y:zEs x0=some r)  :
 Calls prog 150 #[iv x0] w λx w'=>x=.returned (iv r)∧Hp Z0 No w w' []:=by
 have D0:=Hp.nil Z0 No w;have hc0:=Calm.nil;refine eg func150 6 ?_;refine Rn.bslS rfl rfl rfl U91 el3 rfl rfl rfl rfl (by first|exact szs rfl|(simp [Value.cells];done)) (by decide) ?_;intro b1 w1 hb1 m1 e1;have D2:=D0.addLit (rep:=(zFe .i64)) (xs:=([0,7,20,64]:List Int)) (vss:=[[iv 0],[iv 7],[iv 20],[iv 64]]) hb1 e1 m1 rfl rfl rfl ((zCr (λ_ _=>⟨rfl,trivial⟩) (zCr (λ_ _=>⟨rfl,trivial⟩) (zCr (λ_ _=>⟨rfl,trivial⟩) (zCr (λ_ _=>⟨rfl,trivial⟩) zO4)))));refine gg 6 rfl ?_;obtain ⟨z4,e4,Y⟩:=zA7 Y;obtain ⟨kk4,ke4,kz4,kl4⟩:=zJb e4;obtain ⟨vs4,hR4,hrel4⟩:=D2.ownAtL 0 rfl kz4;obtain ⟨rfl,_⟩:=hrel4;refine Rn.q rfl (V.ixE kk4 U91 O3 rfl rfl ke4 kl4) (Rn.q rfl (V.ldR0 V3 rfl hR4 rfl) (gg 2 rfl ?_))
 cases Y
 exact Rn.R1 func150 ⟨rfl,D2.pk []⟩
theorem zGa {x0:Int} {r:UInt64} (Y:zD0 x0=some r)  :
 Calls prog 200 #[iv x0] w λx w'=>x=.returned (zAn r)∧Hp Z0 No w w' []:=by
 have D0:=Hp.nil Z0 No w;have hc0:=Calm.nil;refine eg func200 13 ?_;refine Rn.jG D0 Y (G:=UInt64) (λg=>[(3,zAn g)]) (λg=>[]) (λj g=>j g) ?_ ?_
 ·rintro y1 w2 D2 Y
  try dsimp only at Y
  refine gg 5 rfl ?_
  cases Y
  exact Rn.R1 func200 ⟨rfl,D2.pk []⟩
 intro j1 Y K1;refine gg 1 rfl ?_;refine Rn.loopF (G:=UInt64×Int) (λg=>[(0,iv x0),(3,zAn (g.1)),(4,iv (g.2))]) (λg w'=>Hp Z0 No w w' []) (λn g=>zBr x0 j1 n g.1 g.2) fuel ((1:UInt64),0) sA (D0.pk []) Y (λ_=>rfl) ?_;clear Y;rintro m5 ⟨y3,y4⟩ w5 D5 Y N5;replace Y:zBr x0 j1 (m5+1) y3 y4=some r:=Y;rw [zBr] at Y;refine gg 7 rfl ?_;refine bD Y 5 1 (λh6 Y=>?_) (λh6 Y=>?_)
 ·refine Rn.q rfl (V.ari64 (a:=(2:UInt64)) (b:=y3) rfl rfl _ rfl (zMu _ _)) (gg 8 rfl ?_);exact N5 (((2:UInt64)*y3),(W64 (y4+1))) _ _ sA (D5.pk []) Y
 exact K1 y3 _ _ sA (D5.pk []) Y
theorem zLv {x0:UInt64} {r:Int} (Y:zFw x0=some r)  :
 Calls prog 152 #[zAn x0] w λx w'=>x=.returned (iv r)∧Hp Z0 No w w' []:=by
 have D0:=Hp.nil Z0 No w;have hc0:=Calm.nil;refine eg func152 9 ?_;refine Rn.jG D0 Y (G:=Unit) (λg=>[]) (λg=>[]) (λj g=>j ()) ?_ ?_
 ·rintro _ w1 D1 Y
  try dsimp only at Y
  refine gg 4 rfl ?_
  cases Y
  exact Rn.R1 func152 ⟨rfl,D1.pk []⟩
 intro j1 Y K1;refine gg 1 rfl ?_;refine Rn.loopF (G:=Int) (λg=>[(0,zAn x0),(3,iv g)]) (λg w'=>Hp Z0 No w w' []) (λn g=>zB8 x0 j1 n g) fuel 0 sA (D0.pk []) Y (λ_=>rfl) ?_;clear Y;rintro m3 y2 w3 D3 Y N3;replace Y:zB8 x0 j1 (m3+1) y2=some r:=Y;rw [zB8] at Y;refine gg 6 rfl ?_;refine bD Y 7 1 (λh4 Y=>?_) (λh4 Y=>?_)
 ·obtain ⟨p5,e5,Y⟩:=zA7 Y
  refine Rn.c0 (cK func150) (zIn (Z0:=All) e5  :) D3 λw5 _ D6=>?_
  obtain ⟨p7,e7,Y⟩:=zA7 Y
  refine Rn.c0 (cK func200) (zGa (Z0:=All) e7  :) D6 λw7 _ D8=>?_
  refine Rn.q rfl (V.lss rfl rfl) (gg 1 rfl ?_);refine bD Y 5 7 (λh9 Y=>?_) (λh9 Y=>?_)
  ·cases Y
   exact Rn.R1 func152 ⟨rfl,D8.pk []⟩
  exact N3 (W64 (y2+1)) _ _ sA (D8.pk []) Y
 exact K1 () _ _ (sb trivial) (D3.pk []) Y
theorem zCi {x0:UInt64} {x1:Int} {r:((List Int)×Bool)} (Y:zB0 x0 x1=some r)  :
 Calls prog 185 #[zAn x0,iv x1] w λx w'=>∃ A_0_0 c_0_0,x=.returned (.tuple #[.slice A_0_0 (r.1).length c_0_0,.bool (r.2)])∧Hp Z0 No w w' [zAy 3 A_0_0 c_0_0 (zFe .i64) r.1]:=by
 have D0:=Hp.nil Z0 No w;have hc0:=Calm.nil;refine eg func185 11 ?_;refine Rn.cutR [] [(0,zAn x0),(1,iv x1),(13,.bool (decide ((x1<0)∨(x1>64))))] (λK1=>?_) ?_
 ·refine Rn.partD (t:=10) rfl (λh2=>?_) (λh2=>?_)
  ·refine gg 3 rfl ?_;exact K1 _ sA
  refine gg 3 rfl ?_;exact K1 _ sA
 refine gg 1 rfl ?_;refine bD Y 5 10 (λh3 Y=>?_) (λh3 Y=>?_)
 ·have D4:=D0.addNil 3 (zFe .i64)
  cases Y
  exact Rn.R2 func185 ⟨none,0,rfl,D4.pk [0]⟩
 refine Rn.jG D0 Y (G:=UInt64×(List Int)×Option Addr×Nat) (λg=>[(0,zAn (g.1)),(6,.slice (g.2.2.1) ((g.2.1)).length (g.2.2.2))]) (λg=>[zAy 3 (g.2.2.1) (g.2.2.2) (zFe .i64) (g.2.1)]) (λj g=>j g.1 g.2.1) ?_ ?_
 ·rintro ⟨y6,y7,A8,c8⟩ w10 D10 Y
  try dsimp only at Y
  refine gg 4 rfl (Rn.q rfl (V.eql rfl rfl) (gg 3 rfl ?_))
  cases Y
  exact Rn.R2 func185 ⟨A8,c8,rfl,D10.pk [0]⟩
 intro j1 Y K1;refine gg 1 rfl ?_;have D16:=D0.addNil 3 (zFe .i64);refine Rn.loopF (G:=UInt64×(List Int)×Int×Option Addr×Nat) (λg=>[(0,zAn (g.1)),(1,iv x1),(6,.slice (g.2.2.2.1) ((g.2.1)).length (g.2.2.2.2)),(7,iv (g.2.2.1))]) (λg w'=>Hp Z0 No w w' [zAy 3 (g.2.2.2.1) (g.2.2.2.2) (zFe .i64) (g.2.1)]) (λn g=>zC7 x1 j1 n g.1 g.2.1 g.2.2.1) fuel (x0,([]:List Int),0,none,0) sA (D16.pk [0]) Y (λ_=>rfl) ?_;clear Y;rintro m18 ⟨y11,y12,y15,A13,c13⟩ w18 D18 Y N18;replace Y:zC7 x1 j1 (m18+1) y11 y12 y15=some r:=Y;rw [zC7] at Y;refine gg 7 rfl ?_;refine bD Y 6 1 (λh19 Y=>?_) (λh19 Y=>?_)
 ·obtain ⟨z20,e20,Y⟩:=zA7 Y;refine Rn.q rfl (V.rem64 rfl rfl e20) (Rn.q rfl (V.cvW U35 U3 rfl) (Rn.bslS rfl rfl rfl U91 el3 rfl rfl rfl rfl (by first|exact szs rfl|(simp [Value.cells];done)) (by decide) ?_));intro b21 w21 hb21 m21 e21;have D22:=D18.addLit (rep:=(zFe .i64)) (xs:=([W64 ((z20).toNat:Int)]:List Int)) (vss:=[[iv (W64 ((z20).toNat:Int))]]) hb21 e21 m21 rfl rfl rfl ((zCr (λ_ _=>⟨rfl,trivial⟩) zO4));refine gg 1 rfl ?_;obtain ⟨z24,e24,Y⟩:=zA7 Y;refine Rn.appH D22 1 rfl e24 rfl rfl rfl U91 el3 rfl rfl rfl rfl (D22.srcO 0 rfl) ?_;intro A24 c24 w24 D24;refine gg 4 rfl ?_;obtain ⟨z26,e26,Y⟩:=zA7 Y;refine Rn.q rfl (V.quo64 rfl rfl e26) (gg 8 rfl ?_);exact N18 (z26,z24,(W64 (y15+1)),A24,c24) _ _ sA (D24.pk [1]) Y
 exact K1 (y11,y12,A13,c13) _ _ sA (D18.pk [0]) Y
theorem zCn {x0:UInt64} {r:(List Int)} (Y:zAv x0=some r)  :
 Calls prog 129 #[zAn x0] w λx w'=>∃ A_0_0 c_0_0,x=.returned (.slice A_0_0 (r).length c_0_0)∧Hp Z0 No w w' [zAy 3 A_0_0 c_0_0 (zFe .i64) r]:=by
 have D0:=Hp.nil Z0 No w;have hc0:=Calm.nil;refine eg func129 7 ?_;obtain ⟨p1,e1,Y⟩:=zA7 Y
 refine Rn.c0 (cK func152) (zLv (Z0:=All) e1  :) D0 λw1 _ D2=>?_
 refine gg 5 rfl (Rn.q rfl (V.cv64 U3 U35 rfl) ?_);obtain ⟨p3,e3,Y⟩:=zA7 Y
 refine Rn.c2 (cK func185) (zCi (Z0:=All) e3  :) λA3_0_0 c3_0_0 w3 Q3=>?_
 have D5:=D2.callF (flC (zAm (zD3 _) _ _ _ _) fl0) Q3;refine gg 10 rfl ?_;obtain ⟨p6,e6,Y⟩:=zA7 Y
 refine Rn.c0 (cK func150) (zIn (Z0:=All) e6  :) D5 λw6 _ D7=>?_
 obtain ⟨p8,e8,Y⟩:=zA7 Y
 refine Rn.c2 (cK func185) (zCi (Z0:=All) e8  :) λA8_0_0 c8_0_0 w8 Q8=>?_
 have D10:=D7.callF (flC (zAm (zD3 _) _ _ _ _) fl0) Q8;refine gg 10 rfl ?_;obtain ⟨z11,e11,Y⟩:=zA7 Y;refine Rn.appH D10 0 rfl e11 rfl rfl rfl U91 el3 rfl rfl rfl rfl (D10.srcO 1 rfl) ?_;intro A11 c11 w11 D11;refine gg 2 rfl ?_
 cases Y
 exact Rn.R1 func129 ⟨A11,c11,rfl,D11.pk [0]⟩
theorem zG9 {x0:Int} {r:Int} (Y:zBc x0=some r)  :
 Calls prog 226 #[iv x0] w λx w'=>x=.returned (iv r)∧Hp Z0 No w w' []:=by
 have D0:=Hp.nil Z0 No w;have hc0:=Calm.nil;refine eg func226 6 ?_;refine Rn.bslS rfl rfl rfl U91 el3 rfl rfl rfl rfl (by first|exact szs rfl|(simp [Value.cells];done)) (by decide) ?_;intro b1 w1 hb1 m1 e1;have D2:=D0.addLit (rep:=(zFe .i64)) (xs:=([0,6,10,16,64]:List Int)) (vss:=[[iv 0],[iv 6],[iv 10],[iv 16],[iv 64]]) hb1 e1 m1 rfl rfl rfl ((zCr (λ_ _=>⟨rfl,trivial⟩) (zCr (λ_ _=>⟨rfl,trivial⟩) (zCr (λ_ _=>⟨rfl,trivial⟩) (zCr (λ_ _=>⟨rfl,trivial⟩) (zCr (λ_ _=>⟨rfl,trivial⟩) zO4))))));refine gg 6 rfl ?_;obtain ⟨z4,e4,Y⟩:=zA7 Y;obtain ⟨kk4,ke4,kz4,kl4⟩:=zJb e4;obtain ⟨vs4,hR4,hrel4⟩:=D2.ownAtL 0 rfl kz4;obtain ⟨rfl,_⟩:=hrel4;refine Rn.q rfl (V.ixE kk4 U91 O3 rfl rfl ke4 kl4) (Rn.q rfl (V.ldR0 V3 rfl hR4 rfl) (gg 2 rfl ?_))
 cases Y
 exact Rn.R1 func226 ⟨rfl,D2.pk []⟩
theorem zMt {x0:Int} {r:Int} (Y:zGw x0=some r)  :
 Calls prog 227 #[iv x0] w λx w'=>x=.returned (iv r)∧Hp Z0 No w w' []:=by
 have D0:=Hp.nil Z0 No w;have hc0:=Calm.nil;refine eg func227 10 ?_;refine bD Y 4 6 (λh1 Y=>?_) (λh1 Y=>?_)
 ·cases Y
  exact Rn.R1 func227 ⟨rfl,D0.pk []⟩
 refine Rn.jG D0 Y (G:=Unit) (λg=>[]) (λg=>[]) (λj g=>j ()) ?_ ?_
 ·rintro _ w2 D2 Y
  try dsimp only at Y
  refine gg 4 rfl ?_
  cases Y
  exact Rn.R1 func227 ⟨rfl,D2.pk []⟩
 intro j1 Y K1;refine gg 1 rfl ?_;refine Rn.loopF (G:=Int) (λg=>[(0,iv x0),(3,iv g)]) (λg w'=>Hp Z0 No w w' []) (λn g=>zBf x0 j1 n g) fuel 1 sA (D0.pk []) Y (λ_=>rfl) ?_;clear Y;rintro m4 y3 w4 D4 Y N4;replace Y:zBf x0 j1 (m4+1) y3=some r:=Y;rw [zBf] at Y;refine gg 6 rfl ?_;refine bD Y 6 1 (λh5 Y=>?_) (λh5 Y=>?_)
 ·obtain ⟨p6,e6,Y⟩:=zA7 Y
  refine Rn.c0 (cK func226) (zG9 (Z0:=All) e6  :) D4 λw6 _ D7=>?_
  refine gg 1 rfl ?_;obtain ⟨p8,e8,Y⟩:=zA7 Y
  refine Rn.c0 (cK func200) (zGa (Z0:=All) e8  :) D7 λw8 _ D9=>?_
  refine Rn.q rfl (V.cvW U35 U3 rfl) (gg 9 rfl ?_);refine Rn.cutR [] [(0,iv x0),(3,iv y3),(24,.bool (decide ((x0≥W64 (0-(W64 ((p8).toNat:Int))))∧(x0<W64 ((p8).toNat:Int)))))] (λK10=>?_) ?_
  ·refine Rn.partD (t:=20) rfl (λh11=>?_) (λh11=>?_)
   ·refine gg 4 rfl ?_;exact K10 _ sA
   refine gg 4 rfl ?_;exact K10 _ sA
  refine gg 1 rfl ?_;refine bD Y 5 7 (λh12 Y=>?_) (λh12 Y=>?_)
  ·cases Y
   exact Rn.R1 func227 ⟨rfl,D9.pk []⟩
  exact N4 (W64 (y3+1)) _ _ sA (D9.pk []) Y
 exact K1 () _ _ (sb trivial) (D4.pk []) Y
theorem zM9 {x0:Int} {r:(List Int)} (Y:zEt x0=some r)  :
 Calls prog 220 #[iv x0] w λx w'=>∃ A_0_0 c_0_0,x=.returned (.slice A_0_0 (r).length c_0_0)∧Hp Z0 No w w' [zAy 3 A_0_0 c_0_0 (zFe .i64) r]:=by
 have D0:=Hp.nil Z0 No w;have hc0:=Calm.nil;refine eg func220 7 ?_;obtain ⟨p1,e1,Y⟩:=zA7 Y
 refine Rn.c0 (cK func227) (zMt (Z0:=All) e1  :) D0 λw1 _ D2=>?_
 refine gg 11 rfl ?_;refine Rn.jG D0 Y (G:=(List Int)×Option Addr×Nat) (λg=>[(0,iv x0),(3,iv p1),(4,.slice (g.2.1) ((g.1)).length (g.2.2))]) (λg=>[zAy 3 (g.2.1) (g.2.2) (zFe .i64) (g.1)]) (λj g=>j g.1) ?_ ?_
 ·rintro ⟨y3,A4,c4⟩ w6 D6 Y
  try dsimp only at Y
  refine gg 6 rfl ?_;refine Rn.jG D0 Y (G:=(List Int)×Option Addr×Nat) (λg=>[(0,iv x0),(3,iv p1),(4,.slice (g.2.1) ((g.1)).length (g.2.2))]) (λg=>[zAy 3 (g.2.1) (g.2.2) (zFe .i64) (g.1)]) (λj g=>j g.1) ?_ ?_
  ·rintro ⟨y7,A8,c8⟩ w10 D10 Y
   try dsimp only at Y
   refine gg 3 rfl (Rn.q rfl (V.cv64 U3 U35 rfl) (gg 8 rfl ?_));refine Rn.jG D0 Y (G:=UInt64) (λg=>[(3,iv p1),(4,.slice A8 (y7).length c8),(6,zAn g)]) (λg=>[zAy 3 A8 c8 (zFe .i64) y7]) (λj g=>j g) ?_ ?_
   ·rintro y11 w12 D12 Y
    try dsimp only at Y
    refine gg 4 rfl ?_;obtain ⟨p13,e13,Y⟩:=zA7 Y
    refine Rn.c0 (cK func226) (zG9 (Z0:=All) e13  :) D12 λw13 _ D14=>?_
    obtain ⟨p15,e15,Y⟩:=zA7 Y
    refine Rn.c2 (cK func185) (zCi (Z0:=All) e15  :) λA15_0_0 c15_0_0 w15 Q15=>?_
    have D17:=D14.callF (flC (zAm (zD3 _) _ _ _ _) fl0) Q15;refine gg 10 rfl ?_;obtain ⟨z18,e18,Y⟩:=zA7 Y;refine Rn.appH D17 0 rfl e18 rfl rfl rfl U91 el3 rfl rfl rfl rfl (D17.srcO 1 rfl) ?_;intro A18 c18 w18 D18;refine gg 2 rfl ?_
    cases Y
    exact Rn.R1 func220 ⟨A18,c18,rfl,D18.pk [0]⟩
   intro j3 Y K3;refine bD Y 3 1 (λh20 Y=>?_) (λh20 Y=>?_)
   ·obtain ⟨p21,e21,Y⟩:=zA7 Y
    refine Rn.c0 (cK func226) (zG9 (Z0:=All) e21  :) D10 λw21 _ D22=>?_
    obtain ⟨p23,e23,Y⟩:=zA7 Y
    refine Rn.c0 (cK func200) (zGa (Z0:=All) e23  :) D22 λw23 _ D24=>?_
    obtain ⟨z25,e25,Y⟩:=zA7 Y;refine Rn.q rfl (V.rem64 rfl rfl e25) (gg 2 rfl ?_);exact K3 z25 _ _ sA (D24.pk [0]) Y
   exact K3 (zAf x0) _ _ sA (D10.pk [0]) Y
  intro j2 Y K2;refine bD Y 2 1 (λh26 Y=>?_) (λh26 Y=>?_)
  ·obtain ⟨z27,e27,Y⟩:=zA7 Y;refine Rn.pushH (z:=0) (vs:=[iv 0]) D6 0 rfl e27 rfl rfl rfl rfl U91 el3 rfl rfl rfl rfl (λ_=>rfl) (⟨rfl,trivial⟩) ?_;intro A27 c27 w27 u27 D27;refine gg 2 rfl ?_;exact K2 (z27,A27,c27) _ _ sA (D27.pk [0]) Y
  exact K2 (y3,A4,c4) _ _ sA (D6.pk [0]) Y
 intro j1 Y K1;refine gg 1 rfl ?_;have D33:=D2.addNil 3 (zFe .i64);refine Rn.loopF (G:=(List Int)×Int×Option Addr×Nat) (λg=>[(0,iv x0),(3,iv p1),(4,.slice (g.2.2.1) ((g.1)).length (g.2.2.2)),(5,iv (g.2.1))]) (λg w'=>Hp Z0 No w w' [zAy 3 (g.2.2.1) (g.2.2.2) (zFe .i64) (g.1)]) (λn g=>zBz p1 j1 n g.1 g.2.1) fuel (([]:List Int),0,none,0) sA (D33.pk [0]) Y (λ_=>rfl) ?_;clear Y;rintro m35 ⟨y29,y32,A30,c30⟩ w35 D35 Y N35;replace Y:zBz p1 j1 (m35+1) y29 y32=some r:=Y;rw [zBz] at Y;refine gg 7 rfl ?_;refine bD Y 5 1 (λh36 Y=>?_) (λh36 Y=>?_)
 ·obtain ⟨z37,e37,Y⟩:=zA7 Y;refine Rn.pushH (z:=1) (vs:=[iv 1]) D35 0 rfl e37 rfl rfl rfl rfl U91 el3 rfl rfl rfl rfl (λ_=>rfl) (⟨rfl,trivial⟩) ?_;intro A37 c37 w37 u37 D37;refine gg 8 rfl ?_;exact N35 (z37,(W64 (y32+1)),A37,c37) _ _ sA (D37.pk [0]) Y
 exact K1 (y29,A30,c30) _ _ sA (D35.pk [0]) Y
theorem zIw {x0:(List Int)} {r:(List Int)} (Y:zF9 x0=some r) (f0:(slR A0 c0 (zFe .i64) x0).H Z0 w) :
 Calls prog 184 #[.slice A0 (x0).length c0] w λx w'=>∃ A_0_0 c_0_0,x=.returned (.slice A_0_0 (r).length c_0_0)∧Hp Z0 No w w' [zAy 3 A_0_0 c_0_0 (zFe .i64) r]:=by
 obtain ⟨D0,D2,hc0⟩:=knA f0;refine eg func184 13 ?_;refine Rn.jG D0 Y (G:=(List Int)×Option Addr×Nat) (λg=>[(3,.slice (g.2.1) ((g.1)).length (g.2.2))]) (λg=>[zAy 3 (g.2.1) (g.2.2) (zFe .i64) (g.1)]) (λj g=>j g.1) ?_ ?_
 ·rintro ⟨y3,A4,c4⟩ w6 D6 Y
  try dsimp only at Y
  refine gg 5 rfl ?_
  cases Y
  exact Rn.R1 func184 ⟨A4,c4,rfl,D6.pk [0]⟩
 intro j1 Y K1;refine gg 1 rfl ?_;have D11:=D2.addNil 3 (zFe .i64);refine Rn.loopF (G:=(List Int)×Int×Option Addr×Nat) (λg=>[(0,.slice A0 (x0).length c0),(3,.slice (g.2.2.1) ((g.1)).length (g.2.2.2)),(4,iv (g.2.1))]) (λg w'=>Hp Z0 No w w' [slR A0 c0 (zFe .i64) x0,zAy 3 (g.2.2.1) (g.2.2.2) (zFe .i64) (g.1)]) (λn g=>zCo x0 j1 n g.1 g.2.1) fuel (([]:List Int),0,none,0) sA (D11.pk [0,1]) Y (λ_=>rfl) ?_;clear Y;rintro m13 ⟨y7,y10,A8,c8⟩ w13 D13 Y N13;replace Y:zCo x0 j1 (m13+1) y7 y10=some r:=Y;rw [zCo] at Y;refine gg 5 rfl (Rn.q rfl (V.lenV U91 rfl) (gg 2 rfl ?_));refine bD Y 7 1 (λh14 Y=>?_) (λh14 Y=>?_)
 ·refine Rn.jG D0 Y (G:=(List Int)×Option Addr×Nat) (λg=>[(0,.slice A0 (x0).length c0),(3,.slice (g.2.1) ((g.1)).length (g.2.2)),(4,iv y10)]) (λg=>[slR A0 c0 (zFe .i64) x0,zAy 3 (g.2.1) (g.2.2) (zFe .i64) (g.1)]) (λj g=>j g.1) ?_ ?_
  ·rintro ⟨y15,A16,c16⟩ w18 D18 Y
   try dsimp only at Y
   refine gg 6 rfl ?_;exact N13 (y15,(W64 (y10+1)),A16,c16) _ _ sA (D18.pk [0,1]) Y
  intro j2 Y K2;refine gg 6 rfl ?_;refine bD Y 3 5 (λh19 Y=>?_) (λh19 Y=>?_)
  ·obtain ⟨z20,e20,Y⟩:=zA7 Y;refine Rn.ixH D13 0 rfl e20 rfl rfl rfl U91 O3 rfl rfl rfl rfl ?_;rintro b20 o20 vs20 ⟨rfl,_⟩ D20;refine Rn.q rfl (V.ldR0 V3 rfl (D20.get 2 rfl).2 rfl) ?_;obtain ⟨p22,e22,Y⟩:=zA7 Y
   refine Rn.c0 (cK func187) (zF2 (Z0:=All) e22  :) D20 λw22 _ D23=>?_
   obtain ⟨p24,e24,Y⟩:=zA7 Y
   refine Rn.c2 (cK func129) (zCn (Z0:=All) e24  :) λA24_0_0 c24_0_0 w24 Q24=>?_
   have D26:=D23.callF (flC (zAm (zD3 _) _ _ _ _) fl0) Q24;obtain ⟨z27,e27,Y⟩:=zA7 Y;refine Rn.appH D26 1 rfl e27 rfl rfl rfl U91 el3 rfl rfl rfl rfl (D26.srcO 3 rfl) ?_;intro A27 c27 w27 D27;refine gg 3 rfl ?_;exact K2 (z27,A27,c27) _ _ sA (D27.pk [0,1]) Y
  refine aD Y (λh29 Y=>?_) (λh29 Y=>?_)
  ·refine Rn.drawK 13 rfl D13 (by kernel_rfl) ?_;intro w30 D30;refine dq [0,1] ?_;obtain ⟨z31,e31,Y⟩:=zA7 Y;obtain ⟨kk31,ke31,kz31,kl31⟩:=zJb e31;obtain ⟨b31,o31,vs31,hA31,hD31,hR31,hrel31⟩:=Hp.at D30 0 rfl kz31;obtain ⟨rfl,_⟩:=hrel31;have D33:=Hp.knowL [rdR b31 (o31+kk31*1) [iv z31]] _ D30 (knC (λ_ h=>h) ⟨λ_=>hD31,hR31⟩ kn0);refine RH.tk 2 rfl (λw' hDr=>V.ixA' hA31 kk31 U91 O3 rfl rfl ke31 kl31) ?_;refine RH.tk 3 rfl (λw' hDr=>V.ldR0 V3 rfl ((D33.ext hDr).get 2 rfl).2 rfl) ?_;refine RH.tk 4 rfl (λw' hDr=>V.cv64 U3 U35 rfl) ?_;refine dq [5] ?_;obtain ⟨z34,e34,Y⟩:=zA7 Y;obtain ⟨kk34,ke34,kz34,kl34⟩:=zJb e34;obtain ⟨b34,o34,vs34,hA34,hD34,hR34,hrel34⟩:=Hp.at D33 0 rfl kz34;obtain ⟨rfl,_⟩:=hrel34;have D36:=Hp.knowL [rdR b34 (o34+kk34*1) [iv z34]] _ D33 (knC (λ_ h=>h) ⟨λ_=>hD34,hR34⟩ kn0);refine RH.ho 6 rfl (V.ixA' hA34 kk34 U91 O3 rfl rfl ke34 kl34) ?_;refine RH.ho 7 rfl (V.ldR0 V3 rfl (D36.get 3 rfl).2 rfl) ?_;refine RH.ho 8 rfl (V.cv64 U3 U35 rfl) ?_;refine RH.ho 9 rfl (V.ari64 (a:=zAf z31) (b:=zAf z34) rfl rfl _ rfl (zI1 _ _)) ?_;refine RH.ho 10 rfl (V.cvW U35 U3 rfl) ?_;obtain ⟨p37,e37,Y⟩:=zA7 Y;refine RH.cq (cK func187) 11 (zF2 (Z0:=All) e37  :) ?_;rintro _ w37 ⟨rfl,Q37⟩;refine ⟨_,rfl,((Ext.refl _).trans Q37.fr),?_⟩;have D38:=D36.call0 Q37;obtain ⟨p39,e39,Y⟩:=zA7 Y;refine RH.cq (cK func129) 12 (zCn (Z0:=All) e39  :) ?_;rintro _ w39 ⟨A39_0_0,c39_0_0,rfl,Q39⟩;refine ⟨_,rfl,(((Ext.refl _).trans Q37.fr).trans Q39.fr),?_⟩;have D41:=D38.callF (flC (zAm (zD3 _) _ _ _ _) fl0) Q39;refine RG.tailK (by kernel_rfl) ?_;obtain ⟨z42,e42,Y⟩:=zA7 Y;refine RH.appH 13 (by kernel_rfl) D41 1 rfl e42 rfl rfl rfl U91 el3 rfl rfl rfl rfl (D41.srcO 4 rfl) ?_;intro A42 c42 w42 D42;refine ⟨trivial,?_⟩;refine dq [14] ?_;refine RH.dn ?_;refine gg 1 rfl ?_;exact K2 (z42,A42,c42) _ _ sA (D42.pk [0,1]) Y
  refine Rn.drawK 23 rfl D13 (by kernel_rfl) ?_;intro w44 D44;refine dq [0,1,2] ?_;obtain ⟨z45,e45,Y⟩:=zA7 Y;obtain ⟨kk45,ke45,kz45,kl45⟩:=zJb e45;obtain ⟨b45,o45,vs45,hA45,hD45,hR45,hrel45⟩:=Hp.at D44 0 rfl kz45;obtain ⟨rfl,_⟩:=hrel45;have D47:=Hp.knowL [rdR b45 (o45+kk45*1) [iv z45]] _ D44 (knC (λ_ h=>h) ⟨λ_=>hD45,hR45⟩ kn0);refine RH.tk 3 rfl (λw' hDr=>V.ixA' hA45 kk45 U91 O3 rfl rfl ke45 kl45) ?_;refine RH.tk 4 rfl (λw' hDr=>V.ldR0 V3 rfl ((D47.ext hDr).get 2 rfl).2 rfl) ?_;refine RH.tk 5 rfl (λw' hDr=>V.cv64 U3 U35 rfl) ?_;refine dq [6,7,8] ?_;obtain ⟨z48,e48,Y⟩:=zA7 Y;obtain ⟨kk48,ke48,kz48,kl48⟩:=zJb e48;obtain ⟨b48,o48,vs48,hA48,hD48,hR48,hrel48⟩:=Hp.at D47 0 rfl kz48;obtain ⟨rfl,_⟩:=hrel48;have D50:=Hp.knowL [rdR b48 (o48+kk48*1) [iv z48]] _ D47 (knC (λ_ h=>h) ⟨λ_=>hD48,hR48⟩ kn0);refine RH.tk 9 rfl (λw' hDr=>V.ixA' hA48 kk48 U91 O3 rfl rfl ke48 kl48) ?_;refine RH.tk 10 rfl (λw' hDr=>V.ldR0 V3 rfl ((D50.ext hDr).get 3 rfl).2 rfl) ?_;refine RH.tk 11 rfl (λw' hDr=>V.cv64 U3 U35 rfl) ?_;refine RH.tk 12 rfl (λw' hDr=>V.ari64 (a:=(2:UInt64)) (b:=zAf z48) rfl rfl _ rfl (zMu _ _)) ?_;refine RH.tk 13 rfl (λw' hDr=>V.ari64 (a:=zAf z45) (b:=(2:UInt64)*(zAf z48)) rfl rfl _ rfl (zI1 _ _)) ?_;refine dq [14,15,16] ?_;obtain ⟨z51,e51,Y⟩:=zA7 Y;obtain ⟨kk51,ke51,kz51,kl51⟩:=zJb e51;obtain ⟨b51,o51,vs51,hA51,hD51,hR51,hrel51⟩:=Hp.at D50 0 rfl kz51;obtain ⟨rfl,_⟩:=hrel51;have D53:=Hp.knowL [rdR b51 (o51+kk51*1) [iv z51]] _ D50 (knC (λ_ h=>h) ⟨λ_=>hD51,hR51⟩ kn0);refine RH.ho 17 rfl (V.ixA' hA51 kk51 U91 O3 rfl rfl ke51 kl51) ?_;refine RH.ho 18 rfl (V.ldR0 V3 rfl (D53.get 4 rfl).2 rfl) ?_;refine RH.ho 19 rfl (V.cv64 U3 U35 rfl) ?_;refine RH.ho 20 rfl (V.ari64 (a:=(zAf z45)-((2:UInt64)*(zAf z48))) (b:=zAf z51) rfl rfl _ rfl (zJe _ _)) ?_;refine RH.ho 21 rfl (V.cvW U35 U3 rfl) ?_;obtain ⟨p54,e54,Y⟩:=zA7 Y;refine RH.cq (cK func220) 22 (zM9 (Z0:=All) e54  :) ?_;rintro _ w54 ⟨A54_0_0,c54_0_0,rfl,Q54⟩;refine ⟨_,rfl,((Ext.refl _).trans Q54.fr),?_⟩;have D56:=D53.callF (flC (zAm (zD3 _) _ _ _ _) fl0) Q54;refine RG.tailK (by kernel_rfl) ?_;obtain ⟨z57,e57,Y⟩:=zA7 Y;refine RH.appH 23 (by kernel_rfl) D56 1 rfl e57 rfl rfl rfl U91 el3 rfl rfl rfl rfl (D56.srcO 5 rfl) ?_;intro A57 c57 w57 D57;refine ⟨trivial,?_⟩;refine dq [24] ?_;refine RH.dn ?_;refine gg 1 rfl ?_;exact K2 (z57,A57,c57) _ _ sA (D57.pk [0,1]) Y
 exact K1 (y7,A8,c8) _ _ sA (D13.pk [1]) Y
theorem zEl {x0:(List Int)} {x1:Int} {r:(List Int)} (Y:zB9 x0 x1=some r) (f0:(slR A0 c0 (zFe .i64) x0).H Z0 w) :
 Calls prog 128 #[.slice A0 (x0).length c0,iv x1] w λx w'=>∃ F_0 A_0 c_0,x=.returned (.slice A_0 (r).length c_0)∧Hp Z0 No w w' [roR F_0 A_0 c_0 (zFe .i64) r]:=by
 obtain ⟨D0,D2,hc0⟩:=knA f0;refine eg func128 7 ?_;obtain ⟨p3,e3,Y⟩:=zA7 Y
 refine Rn.c2 (cK func184) (zIw (Z0:=All) e3 (zA5 (D2.get 0 rfl)) :) λA3_0_0 c3_0_0 w3 Q3=>?_
 have D5:=D2.callF (flC (zAm (zD3 _) _ _ _ _) fl0) Q3;refine gg 10 rfl ?_;have D7:=D5.addNil 3 (zFe .i64);obtain ⟨z6,e6,Y⟩:=zA7 Y;refine Rn.appH D7 2 rfl e6 rfl rfl rfl U91 el3 rfl rfl rfl rfl (D7.src 0 rfl) ?_;intro A6 c6 w6 D6;refine gg 6 rfl ?_;obtain ⟨z10,e10,Y⟩:=zA7 Y;refine Rn.pushH (z:=x1) (vs:=[iv x1]) D6 2 rfl e10 rfl rfl rfl rfl U91 el3 rfl rfl rfl rfl (λ_=>rfl) (⟨rfl,trivial⟩) ?_;intro A10 c10 w10 u10 D10;obtain ⟨p12,e12,Y⟩:=zA7 Y
 refine Rn.c2 (cK func184) (zIw (Z0:=All) e12 (zAw (D10.get 2 rfl)) :) λA12_0_0 c12_0_0 w12 Q12=>?_
 have D14:=D10.callF (flC (zAm (zD3 _) _ _ _ _) fl0) Q12;refine gg 1 rfl (Rn.q rfl (V.lenV U91 rfl) ?_);obtain ⟨z15,e15,Y⟩:=zA7 Y;refine Rn.cutRo (zD3 _) D14 3 rfl e15 rfl rfl rfl U91 O3 rfl rfl rfl rfl rfl ?_;intro F15 A15 c15 D15;have D17:=D15.nq;refine gg 2 rfl ?_
 cases Y
 exact Rn.R1 func128 ⟨F15,A15,c15,rfl,D17.pk [3]⟩
theorem zIu {x0:UInt64} {r:(List Int)} (Y:zF8 x0=some r)  :
 Calls prog 221 #[zAn x0] w λx w'=>∃ A_0_0 c_0_0,x=.returned (.slice A_0_0 (r).length c_0_0)∧Hp Z0 No w w' [zAy 3 A_0_0 c_0_0 (zFe .i64) r]:=by
 have D0:=Hp.nil Z0 No w;have hc0:=Calm.nil;refine eg func221 7 ?_;obtain ⟨p1,e1,Y⟩:=zA7 Y
 refine Rn.c2 (cK func185) (zCi (Z0:=All) e1  :) λA1_0_0 c1_0_0 w1 Q1=>?_
 have D3:=D0.callF (flC (zAm (zD3 _) _ _ _ _) fl0) Q1;refine gg 11 rfl ?_
 cases Y
 exact Rn.R1 func221 ⟨A1_0_0,c1_0_0,rfl,D3.pk [0]⟩
theorem zEm {x0:zAd} {x1:UInt64} {x2:zAo} {r:zAd} (Y:zD9 x0 x1 x2=some r) (h0:zAd.rep.rel Z0 w cs0 x0) :
 Calls prog 201 #[.agg cs0.toArray,zAn x1,.agg [iv x2.From,iv x2.Size].toArray] w λx w'=>∃ A_0_0 c_0_0,x=.returned (.agg [.slice A_0_0 (r.L).length c_0_0,iv r.W.From,iv r.W.Size].toArray)∧Hp Z0 No w w' [zAy 35 A_0_0 c_0_0 zAq r.L]:=by
 have D0:=Hp.nil Z0 No w;have hc0:=Calm.nil;obtain ⟨Ar1,cr1,rfl,fs1⟩:=zAd.relE h0;obtain ⟨D3,hc0⟩:=D0.kn (r:=slR Ar1 cr1 zAq x0.L) hc0 fs1;refine eg func201 2 ?_;refine Rn.box rfl rfl rfl rfl rfl ?_;intro b4 w4 hb4 m4 e4;have D6:=(D3.addBox hb4 e4 m4).nf [_,zAi _ _ [_,_,_]] rfl;refine Rn.box rfl rfl rfl rfl rfl ?_;intro b7 w7 hb7 m7 e7;have D9:=(D6.addBox hb7 e7 m7).nf [_,_,zAi _ _ [_,_]] rfl
 refine Rn.al D9 Tryz.zeroValue96 λb10 w10 D12=>?_
 replace D12:=D12.nf [_,_,_,zAi _ _ [_,_,_]] rfl;refine gg 9 rfl (Rn.q rfl (V.ldB V36 rfl (D12.get 1 rfl) rfl) ?_);have D14:=D12.addNil 35 zAq;obtain ⟨z13,e13,Y⟩:=zA7 Y;refine Rn.appH D14 4 rfl e13 rfl rfl rfl U36 zVc rfl rfl rfl rfl (D14.src 0 rfl) ?_;intro A13 c13 w13 D13;refine gg 3 rfl ?_;have D19:=(D13.cutF [1,2] [3,4] [0] rfl (by decide) ⟨λ_ h=>h,trivial⟩).nf ([_,_,_]++[_,_,_]) rfl;refine Rn.drawF rfl D19 ?_;intro w20 hmo20 D20;refine dq [0,1] ?_;refine RH.tk 4 rfl (λw' hDr=>V.ldBA [_,_] V94 O94 rfl ((hmo20.awayK hDr).get 1 rfl) rfl rfl) ?_;refine RH.bslS 2 (by kernel_rfl) rfl rfl rfl U36 zVc rfl rfl rfl rfl (by first|exact szs rfl|(simp [Value.cells];done)) (by decide) ?_;intro b21 w21 hb21 m21 e21;have D22:=D20.addLit (rep:=zAq) (xs:=([x1]:List UInt64)) (vss:=[[zAn x1]]) hb21 e21 m21 rfl rfl rfl ((zCr (λ_ _=>⟨rfl,trivial⟩) zO4));refine ⟨D22.fr,?_⟩;obtain ⟨z24,e24,Y⟩:=zA7 Y;refine RH.appH 3 (by kernel_rfl) D22 1 rfl e24 rfl rfl rfl U36 zVc rfl rfl rfl rfl (D22.srcO 3 rfl) ?_;intro A24 c24 w24 D24;refine ⟨D24.fr,?_⟩;refine RH.ho 5 rfl (V.bldS (cs:=[_,_,_]) st96 rfl rfl) ?_;refine RH.st 6 (by kernel_rfl) rfl rfl O96 rfl rfl rfl rfl (by first|exact zJx rfl|(simp [Value.oneCell'];done)) (D24.get 0 rfl) (by first|exact nbl rfl|(simp;done)) ?_;intro w26 m26 x26;have D27:=(D24.st 0 rfl x26 m26).nf [zAi _ _ [_,_,_],_,_,_] rfl;refine ⟨D27.fr,?_⟩;refine RH.dn ?_;have D28:=hmo20.callAZ D27;have D29:=(D28.pk [0,1,3,4,5,6]).nq;refine Rn.retG1 func201 rfl (rvC rfl V96 O96 (D29.get 2 rfl) rfl) ?_;obtain rfl:=zF3 Y;exact ⟨A24,c24,rfl,D29.pk [3]⟩
theorem zIm {x0:zAd} {r:UInt64} (Y:zEr x0=some r) (h0:zAd.rep.rel Z0 w cs0 x0) :
 Calls prog 202 #[.agg cs0.toArray] w λx w'=>x=.returned (zAn r)∧Hp Z0 No w w' []:=by
 have D0:=Hp.nil Z0 No w;have hc0:=Calm.nil;obtain ⟨Ar1,cr1,rfl,fs1⟩:=zAd.relE h0;obtain ⟨D3,hc0⟩:=D0.kn (r:=slR Ar1 cr1 zAq x0.L) hc0 fs1;refine eg func202 2 ?_;refine Rn.box rfl rfl rfl rfl rfl ?_;intro b4 w4 hb4 m4 e4;have D6:=(D3.addBox hb4 e4 m4).nf [_,zAi _ _ [_,_,_]] rfl;refine gg 6 rfl (Rn.q rfl (V.ldB V36 rfl (D6.get 1 rfl) rfl) (Rn.q rfl (V.lenV U36 rfl) (gg 2 rfl ?_)));refine bD Y 4 4 (λh7 Y=>?_) (λh7 Y=>?_)
 ·cases Y
  exact Rn.R1 func202 ⟨rfl,D6.pk []⟩
 refine Rn.q rfl (V.ldB V36 rfl (D6.get 1 rfl) rfl) (gg 1 rfl (Rn.q rfl (V.ldB V36 rfl (D6.get 1 rfl) rfl) (Rn.q rfl (V.lenV U36 rfl) (gg 1 rfl ?_))));obtain ⟨z8,e8,Y⟩:=zA7 Y;refine Rn.ixH D6 0 rfl e8 rfl rfl rfl U36 O35 rfl rfl rfl rfl ?_;rintro b8 o8 vs8 ⟨rfl,_⟩ D8;refine Rn.q rfl (V.ldR0 V35 rfl (D8.get 2 rfl).2 rfl) (gg 2 rfl ?_)
 cases Y
 exact Rn.R1 func202 ⟨rfl,D8.pk []⟩
theorem zN6 {x0:(List Int)} {x1:zAo} {r:Bool} (Y:zH4 x0 x1=some r) (f0:(slR A0 c0 (zFe .i64) x0).H Z0 w) :
 Calls prog 222 #[.slice A0 (x0).length c0,.agg [iv x1.From,iv x1.Size].toArray] w λx w'=>x=.returned (.bool (r))∧Hp Z0 No w w' []:=by
 obtain ⟨D0,D2,hc0⟩:=knA f0;refine eg func222 2 ?_;refine Rn.box rfl rfl rfl rfl rfl ?_;intro b3 w3 hb3 m3 e3;have D5:=(D2.addBox hb3 e3 m3).nf [_,zAi _ _ [_,_]] rfl;refine gg 7 rfl ?_;refine Rn.jG D0 Y (G:=Unit) (λg=>[(3,pt b3 0)]) (λg=>[zAi b3 94 [iv x1.From,iv x1.Size]]) (λj g=>j ()) ?_ ?_
 ·rintro _ w6 D6 Y
  try dsimp only at Y
  refine gg 3 rfl (Rn.q rfl (V.ldB V3 rfl (D6.get 0 rfl) rfl) (gg 3 rfl ?_))
  cases Y
  exact Rn.R1 func222 ⟨rfl,D6.pk []⟩
 intro j1 Y K1;refine gg 1 rfl ?_;refine Rn.loopF (G:=Int) (λg=>[(0,.slice A0 (x0).length c0),(3,pt b3 0),(5,iv g)]) (λg w'=>Hp Z0 No w w' [slR A0 c0 (zFe .i64) x0,zAi b3 94 [iv x1.From,iv x1.Size]]) (λn g=>zBv x0 x1 j1 n g) fuel 0 sA (D5.pk [0,1]) Y (λ_=>rfl) ?_;clear Y;rintro m8 y7 w8 D8 Y N8;replace Y:zBv x0 x1 j1 (m8+1) y7=some r:=Y;rw [zBv] at Y;refine gg 6 rfl ?_;refine bD Y 7 1 (λh9 Y=>?_) (λh9 Y=>?_)
 ·obtain ⟨z10,e10,Y⟩:=zA7 Y;refine Rn.ixH D8 0 rfl e10 rfl rfl rfl U91 O3 rfl rfl rfl rfl ?_;rintro b10 o10 vs10 ⟨rfl,_⟩ D10;refine Rn.q rfl (V.ldR0 V3 rfl (D10.get 2 rfl).2 rfl) (gg 2 rfl ?_);refine Rn.jR D0 Y (G:=Bool) [] (λg=>[(0,.slice A0 (x0).length c0),(3,pt b3 0),(5,iv y7),(29,.bool (g))]) (λg=>[slR A0 c0 (zFe .i64) x0,zAi b3 94 [iv x1.From,iv x1.Size]]) (λj g=>j g) ?_ ?_
  ·rintro y12 w13 D13 Y
   try dsimp only at Y
   refine gg 1 rfl ?_;refine bS Y 4 7 (λh14 Y=>?_) (λh14 Y=>?_)
   ·cases Y
    exact Rn.R1 func222 ⟨rfl,D13.pk []⟩
   exact N8 (W64 (y7+1)) _ _ sA (D13.pk [0,1]) Y
  intro j2 Y K2;refine zKs Y (Rn.partD (t:=15) rfl) (λh15 Y=>?_) (λh15 Y=>?_)
  ·refine gg 2 rfl (Rn.q rfl (V.ldB V3 rfl (D10.get 1 rfl) rfl) (gg 2 rfl ?_));refine Rn.jR D0 Y (G:=Bool) [19] (λg=>[(0,.slice A0 (x0).length c0),(3,pt b3 0),(5,iv y7),(15,.bool true),(28,.bool (g))]) (λg=>[slR A0 c0 (zFe .i64) x0,zAi b3 94 [iv x1.From,iv x1.Size]]) (λj g=>j g) ?_ ?_
   ·rintro y16 w17 D17 Y
    try dsimp only at Y
    refine gg 1 rfl ?_;exact K2 y16 _ _ sA (D17.pk [0,1]) Y
   intro j3 Y K3;refine zKs Y (Rn.partD (t:=20) rfl) (λh18 Y=>?_) (λh18 Y=>?_)
   ·refine gg 8 rfl ?_;exact K3 true _ _ sA (D10.pk [0,1]) Y
   refine gg 2 rfl (Rn.q rfl (V.ldB V3 rfl (D10.get 1 rfl) rfl) (gg 1 rfl (Rn.q rfl (V.ldB V3 rfl (D10.get 1 rfl) rfl) (gg 3 rfl ?_))));exact K3 (decide (y7≥W64 (x1.From+x1.Size))) _ _ sA (D10.pk [0,1]) Y
  refine gg 14 rfl ?_;exact K2 false _ _ sA (D10.pk [0,1]) Y
 exact K1 () _ _ sA (D8.pk [1]) Y
theorem zL7 {x0:(List Int)} {r:zAo} (Y:zFh x0=some r) (f0:(slR A0 c0 (zFe .i64) x0).H Z0 w) :
 Calls prog 223 #[.slice A0 (x0).length c0] w λx w'=>x=.returned (.agg [iv r.From,iv r.Size].toArray)∧Hp Z0 No w w' []:=by
 obtain ⟨D0,D2,hc0⟩:=knA f0;refine eg func223 2 ?_
 refine Rn.al D2 Tryz.zeroValue94 λb3 w3 D5=>?_
 replace D5:=D5.nf [_,zAi _ _ [_,_]] rfl;refine gg 6 rfl ?_;refine Rn.jG D0 Y (G:=Int) (λg=>[(0,.slice A0 (x0).length c0),(2,pt b3 0),(3,iv g)]) (λg=>[slR A0 c0 (zFe .i64) x0,zAi b3 94 [iv 0,iv 0]]) (λj g=>j g) ?_ ?_
 ·rintro y6 w7 D7 Y
  try dsimp only at Y
  refine gg 5 rfl ?_;refine Rn.jG D0 Y (G:=Int) (λg=>[(2,pt b3 0),(3,iv y6),(4,iv g)]) (λg=>[zAi b3 94 [iv 0,iv 0]]) (λj g=>j g) ?_ ?_
  ·rintro y8 w9 D9 Y
   try dsimp only at Y
   refine gg 6 rfl (Rn.q rfl (V.bldS (cs:=[_,_]) st94 rfl rfl) (Rn.sq rfl O94 rfl rfl (D9.get 0 rfl) ?_));intro w10 m10 x10;have D11:=(D9.st 0 rfl x10 m10).nf [zAi _ _ [_,_]] rfl;refine gg 1 rfl ?_;refine Rn.retG1 func223 rfl (rvC rfl V94 O94 (D11.get 0 rfl) rfl) ?_;obtain rfl:=zF3 Y;exact ⟨rfl,D11.pk []⟩
  intro j2 Y K2;refine gg 1 rfl ?_;refine Rn.loopF (G:=Int) (λg=>[(0,.slice A0 (x0).length c0),(2,pt b3 0),(3,iv y6),(4,iv g)]) (λg w'=>Hp Z0 No w w' [slR A0 c0 (zFe .i64) x0,zAi b3 94 [iv 0,iv 0]]) (λn g=>zBl x0 y6 j2 n g) fuel 64 sA (D7.pk [0,1]) Y (λ_=>rfl) ?_;clear Y;rintro m13 y12 w13 D13 Y N13;replace Y:zBl x0 y6 j2 (m13+1) y12=some r:=Y;rw [zBl] at Y;refine gg 7 rfl ?_;refine Rn.jR D0 Y (G:=Bool) [] (λg=>[(0,.slice A0 (x0).length c0),(2,pt b3 0),(3,iv y6),(4,iv y12),(26,.bool (g))]) (λg=>[slR A0 c0 (zFe .i64) x0,zAi b3 94 [iv 0,iv 0]]) (λj g=>j g) ?_ ?_
  ·rintro y14 w15 D15 Y
   try dsimp only at Y
   refine gg 1 rfl ?_;refine bS Y 8 1 (λh16 Y=>?_) (λh16 Y=>?_)
   ·exact N13 (W64 (y12-1)) _ _ sA (D15.pk [0,1]) Y
   exact K2 y12 _ _ sA (D15.pk [1]) Y
  intro j3 Y K3;refine zKs Y (Rn.partD (t:=19) rfl) (λh17 Y=>?_) (λh17 Y=>?_)
  ·refine gg 3 rfl ?_;obtain ⟨z18,e18,Y⟩:=zA7 Y;refine Rn.ixH D13 0 rfl e18 rfl rfl rfl U91 O3 rfl rfl rfl rfl ?_;rintro b18 o18 vs18 ⟨rfl,_⟩ D18;refine Rn.q rfl (V.ldR0 V3 rfl (D18.get 2 rfl).2 rfl) (gg 2 rfl ?_);exact K3 (decide (z18=0)) _ _ sA (D18.pk [0,1]) Y
  refine gg 7 rfl ?_;exact K3 false _ _ sA (D13.pk [0,1]) Y
 intro j1 Y K1;refine gg 1 rfl ?_;refine Rn.loopF (G:=Int) (λg=>[(0,.slice A0 (x0).length c0),(2,pt b3 0),(3,iv g)]) (λg w'=>Hp Z0 No w w' [slR A0 c0 (zFe .i64) x0,zAi b3 94 [iv 0,iv 0]]) (λn g=>zBk x0 j1 n g) fuel 0 sA (D5.pk [0,1]) Y (λ_=>rfl) ?_;clear Y;rintro m21 y20 w21 D21 Y N21;replace Y:zBk x0 j1 (m21+1) y20=some r:=Y;rw [zBk] at Y;refine gg 6 rfl ?_;refine Rn.jR D0 Y (G:=Bool) [] (λg=>[(0,.slice A0 (x0).length c0),(2,pt b3 0),(3,iv y20),(13,.bool (g))]) (λg=>[slR A0 c0 (zFe .i64) x0,zAi b3 94 [iv 0,iv 0]]) (λj g=>j g) ?_ ?_
 ·rintro y22 w23 D23 Y
  try dsimp only at Y
  refine gg 1 rfl ?_;refine bS Y 8 1 (λh24 Y=>?_) (λh24 Y=>?_)
  ·exact N21 (W64 (y20+1)) _ _ sA (D23.pk [0,1]) Y
  exact K1 y20 _ _ sA (D23.pk [0,1]) Y
 intro j4 Y K4;refine zKs Y (Rn.partD (t:=7) rfl) (λh25 Y=>?_) (λh25 Y=>?_)
 ·refine gg 2 rfl ?_;obtain ⟨z26,e26,Y⟩:=zA7 Y;refine Rn.ixH D21 0 rfl e26 rfl rfl rfl U91 O3 rfl rfl rfl rfl ?_;rintro b26 o26 vs26 ⟨rfl,_⟩ D26;refine Rn.q rfl (V.ldR0 V3 rfl (D26.get 2 rfl).2 rfl) (gg 2 rfl ?_);exact K4 (decide (z26=0)) _ _ sA (D26.pk [0,1]) Y
 refine gg 6 rfl ?_;exact K4 false _ _ sA (D21.pk [0,1]) Y
theorem zIv {x0:zAd} {x1:UInt64} {r:((List Int)×zAd)} (Y:zDy x0 x1=some r) (h0:zAd.rep.rel Z0 w cs0 x0) :
 Calls prog 186 #[.agg cs0.toArray,zAn x1] w λx w'=>∃ A_0_0 c_0_0 A_1_0 c_1_0,x=.returned (.tuple #[.slice A_0_0 (r.1).length c_0_0,.agg [.slice A_1_0 (r.2.L).length c_1_0,iv r.2.W.From,iv r.2.W.Size].toArray])∧Hp Z0 No w w' [zAy 3 A_0_0 c_0_0 (zFe .i64) r.1,zAy 35 A_1_0 c_1_0 zAq r.2.L]:=by
 have D0:=Hp.nil Z0 No w;have hc0:=Calm.nil;obtain ⟨Ar1,cr1,rfl,fs1⟩:=zAd.relE h0;obtain ⟨D3,hc0⟩:=D0.kn (r:=slR Ar1 cr1 zAq x0.L) hc0 fs1;refine eg func186 2 ?_;refine Rn.box rfl rfl rfl rfl rfl ?_;intro b4 w4 hb4 m4 e4;have D6:=(D3.addBox hb4 e4 m4).nf [_,zAi _ _ [_,_,_]] rfl;refine gg 1 rfl (Rn.al D6 Tryz.zeroValue96 λb7 w7 D9=>?_);replace D9:=D9.nf [_,_,zAi _ _ [_,_,_]] rfl;refine gg 5 rfl (Rn.q rfl (V.ldB V36 rfl (D9.get 1 rfl) rfl) (Rn.q rfl (V.lenV U36 rfl) (gg 2 rfl ?_)));refine bD Y 1 4 (λh10 Y=>?_) (λh10 Y=>?_)
 ·refine Rn.drawK 8 rfl D9 (by kernel_rfl) ?_;intro w11 D11;refine dq [0] ?_;refine RH.tk 2 rfl (λw' hDr=>V.ldBA [_,_,_] V96 O96 rfl ((D11.ext hDr).get 1 rfl) rfl rfl) ?_;refine dq [3,4] ?_;refine RH.tk 5 rfl (λw' hDr=>V.ldBA [_,_] V94 O94 rfl ((D11.ext hDr).get 1 rfl) rfl rfl) ?_;obtain ⟨p12,e12,Y⟩:=zA7 Y;refine RH.cq (cK func221) 1 (zIu (Z0:=All) e12  :) ?_;rintro _ w12 ⟨A12_0_0,c12_0_0,rfl,Q12⟩;refine ⟨_,rfl,((Ext.refl _).trans Q12.fr),?_⟩;have D14:=D11.callF (flC (zAm (zD3 _) _ _ _ _) fl0) Q12;obtain ⟨p15,e15,Y⟩:=zA7 Y;refine RH.cq (cK func201) 6 (zEm (Z0:=All) e15 (show zAd.rep.rel All _ _ _ from ⟨_,_,rfl,⟨_,_,rfl,(zA5 (D14.get 0 rfl)).1,(zA5 (D14.get 0 rfl)).2.1,(zA5 (D14.get 0 rfl)).2.2⟩,⟨_,_,rfl,⟨rfl,trivial⟩,⟨rfl,trivial⟩⟩⟩) :) ?_;rintro _ w15 ⟨A15_0_0,c15_0_0,rfl,Q15⟩;refine ⟨_,rfl,(((Ext.refl _).trans Q12.fr).trans Q15.fr),?_⟩;have D17:=D14.callF (flC (zAm zCz _ _ _ _) fl0) Q15;refine dq [7] ?_;refine RG.tailK (by kernel_rfl) ?_;refine RH.st 8 (by kernel_rfl) rfl rfl O96 rfl rfl rfl rfl (by first|exact zJx rfl|(simp [Value.oneCell'];done)) (D17.get 2 rfl) (by first|exact nbl rfl|(simp;done)) ?_;intro w18 m18 x18;have D19:=(D17.st 2 rfl x18 m18).nf [_,_,zAi _ _ [_,_,_],_,_] rfl;refine ⟨trivial,?_⟩;refine RH.dn ?_;refine Rn.retG2 func186 rfl (rvT rfl) (rvC rfl V96 O96 (D19.get 2 rfl) rfl) ?_;obtain rfl:=zF3 Y;exact ⟨A12_0_0,c12_0_0,A15_0_0,c15_0_0,rfl,D19.pk [3,4]⟩
 refine Rn.q rfl (V.ldBA [_,_,_] V96 O96 rfl (D9.get 1 rfl) rfl rfl) ?_;obtain ⟨p20,e20,Y⟩:=zA7 Y
 refine Rn.c0 (cK func202) (zIm (Z0:=All) e20 (show zAd.rep.rel All _ _ _ from ⟨_,_,rfl,⟨_,_,rfl,(zA5 (D9.get 0 rfl)).1,(zA5 (D9.get 0 rfl)).2.1,(zA5 (D9.get 0 rfl)).2.2⟩,⟨_,_,rfl,⟨rfl,trivial⟩,⟨rfl,trivial⟩⟩⟩) :) D9 λw20 _ D21=>?_
 refine Rn.q rfl (V.o64 rfl rfl x1 p20 rfl rfl (zUc _ _ _)) ?_;obtain ⟨p22,e22,Y⟩:=zA7 Y
 refine Rn.c2 (cK func221) (zIu (Z0:=All) e22  :) λA22_0_0 c22_0_0 w22 Q22=>?_
 have D24:=D21.callF (flC (zAm (zD3 _) _ _ _ _) fl0) Q22;refine gg 6 rfl (Rn.q rfl (V.ldBA [_,_,_] V96 O96 rfl (D24.get 1 rfl) rfl rfl) ?_);obtain ⟨p25,e25,Y⟩:=zA7 Y
 refine Rn.c0 (cK func202) (zIm (Z0:=All) e25 (show zAd.rep.rel All _ _ _ from ⟨_,_,rfl,⟨_,_,rfl,(zA5 (D24.get 0 rfl)).1,(zA5 (D24.get 0 rfl)).2.1,(zA5 (D24.get 0 rfl)).2.2⟩,⟨_,_,rfl,⟨rfl,trivial⟩,⟨rfl,trivial⟩⟩⟩) :) D24 λw25 _ D26=>?_
 refine Rn.q rfl (V.eql rfl rfl) (gg 1 rfl ?_);refine bD Y 2 6 (λh27 Y=>?_) (λh27 Y=>?_)
 ·refine Rn.bslS rfl rfl rfl U91 el3 rfl rfl rfl rfl (by first|exact szs rfl|(simp [Value.cells];done)) (by decide) ?_;intro b28 w28 hb28 m28 e28;have D29:=D26.addLit (rep:=(zFe .i64)) (xs:=([0]:List Int)) (vss:=[[iv 0]]) hb28 e28 m28 rfl rfl rfl ((zCr (λ_ _=>⟨rfl,trivial⟩) zO4));refine Rn.q rfl (V.ldBA [_,_,_] V96 O96 rfl (D29.get 1 rfl) rfl rfl) (gg 2 rfl (Rn.q rfl (V.ldBA [_,_] V94 O94 rfl (D29.get 1 rfl) rfl rfl) ?_));obtain ⟨p31,e31,Y⟩:=zA7 Y
  refine Rn.c2 (cK func201) (zEm (Z0:=All) e31 (show zAd.rep.rel All _ _ _ from ⟨_,_,rfl,⟨_,_,rfl,(zA5 (D29.get 0 rfl)).1,(zA5 (D29.get 0 rfl)).2.1,(zA5 (D29.get 0 rfl)).2.2⟩,⟨_,_,rfl,⟨rfl,trivial⟩,⟨rfl,trivial⟩⟩⟩) :) λA31_0_0 c31_0_0 w31 Q31=>?_
  have D33:=D29.callF (flC (zAm zCz _ _ _ _) fl0) Q31;refine gg 1 rfl (Rn.sq rfl O96 rfl rfl (D33.get 2 rfl) ?_);intro w34 m34 x34;have D35:=(D33.st 2 rfl x34 m34).nf [_,_,zAi _ _ [_,_,_],_,_,_] rfl;refine gg 1 rfl ?_;refine Rn.retG2 func186 rfl (rvT rfl) (rvC rfl V96 O96 (D35.get 2 rfl) rfl) ?_;obtain rfl:=zF3 Y;exact ⟨(some ⟨b28,0,none⟩),1,A31_0_0,c31_0_0,rfl,D35.pk [4,5]⟩
 refine Rn.q rfl (V.ldBA [_,_] V94 O94 rfl (D26.get 1 rfl) rfl rfl) ?_;obtain ⟨p36,e36,Y⟩:=zA7 Y
 refine Rn.c0 (cK func222) (zN6 (Z0:=All) e36 (zAw (D26.get 3 rfl)) :) D26 λw36 _ D37=>?_
 refine gg 1 rfl ?_;refine bS Y 1 4 (λh38 Y=>?_) (λh38 Y=>?_)
 ·have D41:=D37.freeze 3 rfl;have D44:=(D41.cutF [1] [2] [0,3] rfl (by decide) ⟨λ_ h=>h,λ_ h=>h,trivial⟩).nf ([_,_,_]++[_,_,_]) rfl;refine Rn.drawF rfl D44 ?_;intro w45 hmo45 D45;refine dq [1,2,3] ?_;refine RH.tk 4 rfl (λw' hDr=>V.ldB V3 rfl ((hmo45.awayK hDr).get 0 rfl) rfl) ?_;refine dq [5,6] ?_;refine RH.tk 7 rfl (λw' hDr=>V.ldB V3 rfl ((hmo45.awayK hDr).get 0 rfl) rfl) ?_;refine dq [8,9] ?_;refine RH.tk 10 rfl (λw' hDr=>V.ldB V3 rfl ((hmo45.awayK hDr).get 0 rfl) rfl) ?_;refine dq [11] ?_;obtain ⟨z46,e46,Y⟩:=zA7 Y;refine RH.cutH 12 (by kernel_rfl) D45 2 rfl e46 rfl rfl rfl U91 O3 rfl rfl rfl rfl rfl ?_;intro A46 c46 D46;refine RH.tk 14 rfl (λw' hDr=>V.ldBA [_,_,_] V96 O96 rfl ((hmo45.awayK hDr).get 0 rfl) rfl rfl) ?_;refine dq [15,16] ?_;refine RH.tk 17 rfl (λw' hDr=>V.ldBA [_,_] V94 O94 rfl ((hmo45.awayK hDr).get 0 rfl) rfl rfl) ?_;refine RH.bslS 0 (by kernel_rfl) rfl rfl rfl U91 el3 rfl rfl rfl rfl (by first|exact szs rfl|(simp [Value.cells];done)) (by decide) ?_;intro b48 w48 hb48 m48 e48;have D49:=D46.addLit (rep:=(zFe .i64)) (xs:=([1,0]:List Int)) (vss:=[[iv 1],[iv 0]]) hb48 e48 m48 rfl rfl rfl ((zCr (λ_ _=>⟨rfl,trivial⟩) (zCr (λ_ _=>⟨rfl,trivial⟩) zO4)));refine ⟨D49.fr,?_⟩;obtain ⟨z51,e51,Y⟩:=zA7 Y;refine RH.appH 13 (by kernel_rfl) D49 4 rfl e51 rfl rfl rfl U91 el3 rfl rfl rfl rfl (D49.src 3 rfl) ?_;intro A51 c51 w51 D51;refine ⟨D51.fr,?_⟩;obtain ⟨p53,e53,Y⟩:=zA7 Y;refine RH.cq (cK func201) 18 (zEm (Z0:=All) e53 (show zAd.rep.rel All _ _ _ from ⟨_,_,rfl,⟨_,_,rfl,(zA5 (D51.get 1 rfl)).1,(zA5 (D51.get 1 rfl)).2.1,(zA5 (D51.get 1 rfl)).2.2⟩,⟨_,_,rfl,⟨rfl,trivial⟩,⟨rfl,trivial⟩⟩⟩) :) ?_;rintro _ w53 ⟨A53_0_0,c53_0_0,rfl,Q53⟩;have D55:=D51.callF (flC (zAm zCz _ _ _ _) fl0) Q53;refine ⟨_,rfl,D55.fr,?_⟩;refine dq [19] ?_;refine RH.st 20 (by kernel_rfl) rfl rfl O96 rfl rfl rfl rfl (by first|exact zJx rfl|(simp [Value.oneCell'];done)) (D55.get 0 rfl) (by first|exact nbl rfl|(simp;done)) ?_;intro w56 m56 x56;have D57:=(D55.st 0 rfl x56 m56).nf [zAi _ _ [_,_,_],_,_,_,_,_] rfl;refine ⟨D57.fr,?_⟩;refine RH.dn ?_;have D58:=hmo45.callAZ D57;have D59:=(D58.pk [0,3,4,5,6,7,8]).nq;refine Rn.retG2 func186 rfl (rvT rfl) (rvC rfl V96 O96 (D59.get 1 rfl) rfl) ?_;obtain rfl:=zF3 Y;exact ⟨A51,c51,A53_0_0,c53_0_0,rfl,D59.pk [5,6]⟩
 obtain ⟨p60,e60,Y⟩:=zA7 Y
 refine Rn.c0 (cK func223) (zL7 (Z0:=All) e60 (zAw (D37.get 3 rfl)) :) D37 λw60 _ D61=>?_
 refine Rn.als rfl rfl rfl Tryz.zeroValue94 rfl O94 rfl rfl rfl rfl (by first|exact zJx rfl|(simp [Value.oneCell'];done)) ?_;intro b62 w62 hb62 m62 e62;have D64:=(D61.addBox hb62 e62 m62).nf [_,_,_,_,zAi _ _ [_,_]] rfl;refine gg 4 rfl (Rn.q rfl (V.ldB V3 rfl (D64.get 4 rfl) rfl) (Rn.q rfl (V.cv64 U3 U35 rfl) ?_));obtain ⟨p65,e65,Y⟩:=zA7 Y
 refine Rn.c2 (cK func185) (zCi (Z0:=All) e65  :) λA65_0_0 c65_0_0 w65 Q65=>?_
 have D67:=D64.callF (flC (zAm (zD3 _) _ _ _ _) fl0) Q65;refine gg 9 rfl (Rn.q rfl (V.ldB V3 rfl (D67.get 4 rfl) rfl) (gg 1 rfl (Rn.q rfl (V.cv64 U3 U35 rfl) ?_)));obtain ⟨p68,e68,Y⟩:=zA7 Y
 refine Rn.c2 (cK func185) (zCi (Z0:=All) e68  :) λA68_0_0 c68_0_0 w68 Q68=>?_
 have D70:=D67.callF (flC (zAm (zD3 _) _ _ _ _) fl0) Q68;refine gg 8 rfl (Rn.bslS rfl rfl rfl U91 el3 rfl rfl rfl rfl (by first|exact szs rfl|(simp [Value.cells];done)) (by decide) ?_);intro b71 w71 hb71 m71 e71;have D72:=D70.addLit (rep:=(zFe .i64)) (xs:=([1,1]:List Int)) (vss:=[[iv 1],[iv 1]]) hb71 e71 m71 rfl rfl rfl ((zCr (λ_ _=>⟨rfl,trivial⟩) (zCr (λ_ _=>⟨rfl,trivial⟩) zO4)));refine gg 1 rfl ?_;obtain ⟨z74,e74,Y⟩:=zA7 Y;refine Rn.appH D72 7 rfl e74 rfl rfl rfl U91 el3 rfl rfl rfl rfl (D72.srcO 5 rfl) ?_;intro A74 c74 w74 D74;refine gg 6 rfl ?_;obtain ⟨z76,e76,Y⟩:=zA7 Y;refine Rn.appH D74 7 rfl e76 rfl rfl rfl U91 el3 rfl rfl rfl rfl (D74.srcO 6 rfl) ?_;intro A76 c76 w76 D76;refine gg 3 rfl ?_;have D80:=D76.freeze 3 rfl;have D83:=(D80.cutF [1,4,5,6] [2,7] [0,3] rfl (by decide) ⟨λ_ h=>h,λ_ h=>h,trivial⟩).nf ([_,_,_,_,_,_]++[_,_,_,_]) rfl;refine Rn.drawF rfl D83 ?_;intro w84 hmo84 D84;refine dq [0,1,2] ?_;refine RH.tk 3 rfl (λw' hDr=>V.ldB V3 rfl ((hmo84.awayK hDr).get 1 rfl) rfl) ?_;refine dq [4] ?_;refine RH.tk 5 rfl (λw' hDr=>V.ldB V3 rfl ((hmo84.awayK hDr).get 1 rfl) rfl) ?_;refine dq [6] ?_;refine RH.tk 7 rfl (λw' hDr=>V.ldB V3 rfl ((hmo84.awayK hDr).get 1 rfl) rfl) ?_;refine dq [8] ?_;obtain ⟨z85,e85,Y⟩:=zA7 Y;refine RH.cutH 9 (by kernel_rfl) D84 3 rfl e85 rfl rfl rfl U91 O3 rfl rfl rfl rfl rfl ?_;intro A85 c85 D85;refine RH.tk 11 rfl (λw' hDr=>V.ldBA [_,_,_] V96 O96 rfl ((hmo84.awayK hDr).get 0 rfl) rfl rfl) ?_;refine dq [12] ?_;refine RH.tk 13 rfl (λw' hDr=>V.ldBA [_,_] V94 O94 rfl ((hmo84.awayK hDr).get 1 rfl) rfl rfl) ?_;obtain ⟨z87,e87,Y⟩:=zA7 Y;refine RH.appH 10 (by kernel_rfl) D85 1 rfl e87 rfl rfl rfl U91 el3 rfl rfl rfl rfl (D85.src 4 rfl) ?_;intro A87 c87 w87 D87;refine ⟨D87.fr,?_⟩;obtain ⟨p89,e89,Y⟩:=zA7 Y;refine RH.cq (cK func201) 14 (zEm (Z0:=All) e89 (show zAd.rep.rel All _ _ _ from ⟨_,_,rfl,⟨_,_,rfl,(zA5 (D87.get 2 rfl)).1,(zA5 (D87.get 2 rfl)).2.1,(zA5 (D87.get 2 rfl)).2.2⟩,⟨_,_,rfl,⟨rfl,trivial⟩,⟨rfl,trivial⟩⟩⟩) :) ?_;rintro _ w89 ⟨A89_0_0,c89_0_0,rfl,Q89⟩;have D91:=D87.callF (flC (zAm zCz _ _ _ _) fl0) Q89;refine ⟨_,rfl,D91.fr,?_⟩;refine dq [15] ?_;refine RH.st 16 (by kernel_rfl) rfl rfl O96 rfl rfl rfl rfl (by first|exact zJx rfl|(simp [Value.oneCell'];done)) (D91.get 0 rfl) (by first|exact nbl rfl|(simp;done)) ?_;intro w92 m92 x92;have D93:=(D91.st 0 rfl x92 m92).nf [zAi _ _ [_,_,_],_,_,_,_,_] rfl;refine ⟨D93.fr,?_⟩;refine RH.dn ?_;have D94:=hmo84.callAZ D93;have D95:=(D94.pk [0,1,2,3,6,7,8,9,10,11]).nq;refine Rn.retG2 func186 rfl (rvT rfl) (rvC rfl V96 O96 (D95.get 4 rfl) rfl) ?_;obtain rfl:=zF3 Y;exact ⟨A87,c87,A89_0_0,c89_0_0,rfl,D95.pk [5,9]⟩
theorem zFp {x0:(List UInt64)} {x1:UInt64} {r:(List Int)} (Y:zB3 x0 x1=some r) (f0:(slR A0 c0 zAq x0).H Z0 w) :
 Calls prog 130 #[.slice A0 (x0).length c0,zAn x1] w λx w'=>∃ A_0_0 c_0_0,x=.returned (.slice A_0_0 (r).length c_0_0)∧Hp Z0 No w w' [zAy 3 A_0_0 c_0_0 (zFe .i64) r]:=by
 obtain ⟨D0,D2,hc0⟩:=knA f0;refine eg func130 6 ?_;refine Rn.q rfl (V.bldS (cs:=[_,_,_]) st96 rfl rfl) (Rn.als rfl rfl rfl Tryz.zeroValue96 rfl O96 rfl rfl rfl rfl (by first|exact zJx rfl|(simp [Value.oneCell'];done)) ?_);intro b3 w3 hb3 m3 e3;have D5:=(D2.addBox hb3 e3 m3).nf [_,zAi _ _ [_,_,_]] rfl;refine gg 6 rfl ?_;refine Rn.jG D0 Y (G:=zAd×Option Addr×Nat) (λg=>[(1,zAn x1),(5,pt b3 0)]) (λg=>[zAy 35 (g.2.1) (g.2.2) zAq (g.1).L,zAi b3 96 [.slice (g.2.1) ((g.1).L).length (g.2.2),iv (g.1).W.From,iv (g.1).W.Size]]) (λj g=>j g.1) ?_ ?_
 ·rintro ⟨y6,A7,c7⟩ w9 D9 Y
  try dsimp only at Y
  refine gg 2 rfl (Rn.q rfl (V.ldBA [_,_,_] V96 O96 rfl (D9.get 1 rfl) rfl rfl) (gg 1 rfl ?_));obtain ⟨p10,e10,Y⟩:=zA7 Y;refine Rn.cq (cK func186) (zIv (Z0:=All) e10 (show zAd.rep.rel All _ _ _ from ⟨_,_,rfl,⟨_,_,rfl,(zAw (D9.get 0 rfl)).1,(zAw (D9.get 0 rfl)).2.1,(zAw (D9.get 0 rfl)).2.2⟩,⟨_,_,rfl,⟨rfl,trivial⟩,⟨rfl,trivial⟩⟩⟩) :) ?_;rintro _ w10 ⟨A10_0_0,c10_0_0,A10_1_0,c10_1_0,rfl,Q10⟩;refine ⟨_,rfl,?_⟩;have D13:=D9.callF (flC (zAm (zD3 _) _ _ _ _) (flC (zAm zCz _ _ _ _) fl0)) Q10;refine gg 3 rfl (Rn.al D13 Tryz.zeroValue96 λb14 w14 D16=>?_);replace D16:=D16.nf [_,_,_,_,zAi _ _ [_,_,_]] rfl;refine gg 1 rfl (Rn.sq rfl O96 rfl rfl (D16.get 4 rfl) ?_);intro w17 m17 x17;have D18:=(D16.st 4 rfl x17 m17).nf [_,_,_,_,zAi _ _ [_,_,_]] rfl;refine gg 6 rfl ?_
  cases Y
  exact Rn.R1 func130 ⟨A10_0_0,c10_0_0,rfl,D18.pk [2]⟩
 intro j1 Y K1;refine gg 1 rfl ?_;have D23:=D5.addNil 35 zAq;refine Rn.loopF (G:=Int×zAd×Option Addr×Nat) (λg=>[(0,.slice A0 (x0).length c0),(1,zAn x1),(5,pt b3 0),(6,iv (g.1))]) (λg w'=>Hp Z0 No w w' [slR A0 c0 zAq x0,zAy 35 (g.2.2.1) (g.2.2.2) zAq (g.2.1).L,zAi b3 96 [.slice (g.2.2.1) ((g.2.1).L).length (g.2.2.2),iv (g.2.1).W.From,iv (g.2.1).W.Size]]) (λn g=>zBj x0 j1 n g.1 g.2.1) fuel (0,(⟨([]:List UInt64),(⟨0,0⟩:zAo)⟩:zAd),none,0) sA (D23.pk [0,2,1]) Y (λ_=>rfl) ?_;clear Y;rintro m25 ⟨y19,y20,A21,c21⟩ w25 D25 Y N25;replace Y:zBj x0 j1 (m25+1) y19 y20=some r:=Y;rw [zBj] at Y;refine gg 5 rfl (Rn.q rfl (V.lenV U36 rfl) (gg 2 rfl ?_));refine bD Y 3 1 (λh26 Y=>?_) (λh26 Y=>?_)
 ·refine Rn.drawK 9 rfl D25 (by kernel_rfl) ?_;intro w27 D27;refine RH.tk 0 rfl (λw' hDr=>V.ldBA [_,_,_] V96 O96 rfl ((D27.ext hDr).get 2 rfl) rfl rfl) ?_;refine dq [1,2] ?_;obtain ⟨z28,e28,Y⟩:=zA7 Y;obtain ⟨kk28,ke28,kz28,kl28⟩:=zJb e28;obtain ⟨b28,o28,vs28,hA28,hD28,hR28,hrel28⟩:=Hp.at D27 0 rfl kz28;obtain ⟨rfl,_⟩:=hrel28;have D30:=Hp.knowL [rdR b28 (o28+kk28*1) [zAn z28]] _ D27 (knC (λ_ h=>h) ⟨λ_=>hD28,hR28⟩ kn0);refine RH.ho 3 rfl (V.ixA' hA28 kk28 U36 O35 rfl rfl ke28 kl28) ?_;refine RH.ho 4 rfl (V.ldR0 V35 rfl (D30.get 3 rfl).2 rfl) ?_;obtain ⟨p31,e31,Y⟩:=zA7 Y;refine RH.cq (cK func186) 5 (zIv (Z0:=All) e31 (show zAd.rep.rel All _ _ _ from ⟨_,_,rfl,⟨_,_,rfl,(zAw (D30.get 1 rfl)).1,(zAw (D30.get 1 rfl)).2.1,(zAw (D30.get 1 rfl)).2.2⟩,⟨_,_,rfl,⟨rfl,trivial⟩,⟨rfl,trivial⟩⟩⟩) :) ?_;rintro _ w31 ⟨A31_0_0,c31_0_0,A31_1_0,c31_1_0,rfl,Q31⟩;refine ⟨_,rfl,((Ext.refl _).trans Q31.fr),?_⟩;have D34:=D30.callF (flC (zAm (zD3 _) _ _ _ _) (flC (zAm zCz _ _ _ _) fl0)) Q31;refine dq [6,7,8] ?_;refine RG.tailK (by kernel_rfl) ?_;refine RH.st 9 (by kernel_rfl) rfl rfl O96 rfl rfl rfl rfl (by first|exact zJx rfl|(simp [Value.oneCell'];done)) (D34.get 2 rfl) (by first|exact nbl rfl|(simp;done)) ?_;intro w35 m35 x35;have D36:=(D34.st 2 rfl x35 m35).nf [_,_,zAi _ _ [_,_,_],_,_,_] rfl;refine ⟨trivial,?_⟩;refine RH.dn ?_;refine gg 6 rfl ?_;exact N25 ((W64 (y19+1)),p31.2,A31_1_0,c31_1_0) _ _ sA (D36.pk [0,5,2]) Y
 exact K1 (y20,A21,c21) _ _ sA (D25.pk [1,2]) Y
theorem zLr {x0:zA2} {x1:zA2} {r:Bool} (Y:zFt x0 x1=some r) (h0:zA2.rep.rel Z0 w cs0 x0) (h1:zA2.rep.rel Z0 w cs1 x1) :
 Calls prog 159 #[.agg cs0.toArray,.agg cs1.toArray] w λx w'=>x=.returned (.bool (r))∧Hp Z0 No w w' []:=by
 have D0:=Hp.nil Z0 No w;have hc0:=Calm.nil;obtain ⟨Ar1,cr1,Ar3,cr3,rfl,fs1,fs3⟩:=zA2.relE h0;obtain ⟨D9,hc0⟩:=D0.kn (r:=slR Ar1 cr1 zAq x0.Pos.Counts) hc0 fs1;obtain ⟨D10,hc0⟩:=D9.kn (r:=slR Ar3 cr3 zAq x0.Neg.Counts) hc0 fs3;obtain ⟨Ar5,cr5,Ar7,cr7,rfl,fs5,fs7⟩:=zA2.relE h1;obtain ⟨D11,hc0⟩:=D10.kn (r:=slR Ar5 cr5 zAq x1.Pos.Counts) hc0 fs5;obtain ⟨D12,hc0⟩:=D11.kn (r:=slR Ar7 cr7 zAq x1.Neg.Counts) hc0 fs7;refine eg func159 2 ?_;refine Rn.box rfl rfl rfl rfl rfl ?_;intro b13 w13 hb13 m13 e13;have D15:=(D12.addBox hb13 e13 m13).nf [_,_,_,_,zAi _ _ [_,_,_,_,_,_]] rfl;refine Rn.box rfl rfl rfl rfl rfl ?_;intro b16 w16 hb16 m16 e16;have D18:=(D15.addBox hb16 e16 m16).nf [_,_,_,_,_,zAi _ _ [_,_,_,_,_,_]] rfl;refine gg 5 rfl (Rn.q rfl (V.ldB V3 rfl (D18.get 4 rfl) rfl) (gg 1 rfl (Rn.q rfl (V.ldB V3 rfl (D18.get 5 rfl) rfl) (gg 2 rfl ?_))));refine Rn.cutR [14,15,16,17,18,19,20,21,22,23,24,25,26,27,28,29,30,31,32,33,34,35,36,37,38,39,40,41,42,43,44,45] [(2,pt b13 0),(3,pt b16 0),(18,.bool (decide ((x0.Scale=x1.Scale)∧(x0.Pos.Offset=x1.Pos.Offset))))] (λK19=>?_) ?_
 ·refine Rn.partD (t:=10) rfl (λh20=>?_) (λh20=>?_)
  ·refine gg 2 rfl (Rn.q rfl (V.ldB V3 rfl (D18.get 4 rfl) rfl) (gg 2 rfl (Rn.q rfl (V.ldB V3 rfl (D18.get 5 rfl) rfl) (gg 2 rfl ?_))));exact K19 _ sA
  refine gg 8 rfl ?_;exact K19 _ sA
 refine gg 1 rfl ?_;refine Rn.cutR [23,24,25,26,27,28,29,30,31,32,33,34,35,36,37,38,39,40,41,42,43,44,45] [(2,pt b13 0),(3,pt b16 0),(27,.bool (decide (((x0.Scale=x1.Scale)∧(x0.Pos.Offset=x1.Pos.Offset))∧(x0.Neg.Offset=x1.Neg.Offset))))] (λK21=>?_) ?_
 ·refine Rn.partD (t:=19) rfl (λh22=>?_) (λh22=>?_)
  ·refine gg 2 rfl (Rn.q rfl (V.ldB V3 rfl (D18.get 4 rfl) rfl) (gg 2 rfl (Rn.q rfl (V.ldB V3 rfl (D18.get 5 rfl) rfl) (gg 2 rfl ?_))));exact K21 _ sA
  refine gg 8 rfl ?_;exact K21 _ sA
 refine gg 1 rfl ?_;refine Rn.cutR [34,35,36,37,38,39,40,41,42,43,44,45] [(2,pt b13 0),(3,pt b16 0),(38,.bool (decide ((((x0.Scale=x1.Scale)∧(x0.Pos.Offset=x1.Pos.Offset))∧(x0.Neg.Offset=x1.Neg.Offset))∧((x0.Pos.Counts.length:Int)=(x1.Pos.Counts.length:Int)))))] (λK23=>?_) ?_
 ·refine Rn.partD (t:=28) rfl (λh24=>?_) (λh24=>?_)
  ·refine gg 2 rfl (Rn.q rfl (V.ldB V36 rfl (D18.get 4 rfl) rfl) (Rn.q rfl (V.lenV U36 rfl) (gg 2 rfl (Rn.q rfl (V.ldB V36 rfl (D18.get 5 rfl) rfl) (Rn.q rfl (V.lenV U36 rfl) (gg 2 rfl ?_))))));exact K23 _ sA
  refine gg 10 rfl ?_;exact K23 _ sA
 refine gg 1 rfl ?_;refine Rn.cutR [45] [(49,.bool (decide (((((x0.Scale=x1.Scale)∧(x0.Pos.Offset=x1.Pos.Offset))∧(x0.Neg.Offset=x1.Neg.Offset))∧((x0.Pos.Counts.length:Int)=(x1.Pos.Counts.length:Int)))∧((x0.Neg.Counts.length:Int)=(x1.Neg.Counts.length:Int)))))] (λK25=>?_) ?_
 ·refine Rn.partD (t:=39) rfl (λh26=>?_) (λh26=>?_)
  ·refine gg 2 rfl (Rn.q rfl (V.ldB V36 rfl (D18.get 4 rfl) rfl) (Rn.q rfl (V.lenV U36 rfl) (gg 2 rfl (Rn.q rfl (V.ldB V36 rfl (D18.get 5 rfl) rfl) (Rn.q rfl (V.lenV U36 rfl) (gg 2 rfl ?_))))));exact K25 _ sA
  refine gg 10 rfl ?_;exact K25 _ sA
 refine gg 2 rfl ?_
 cases Y
 exact Rn.R1 func159 ⟨rfl,D18.pk []⟩
theorem zH {x0:zA2} {r:(List UInt64)} (Y:zDf x0=some r) (h0:zA2.rep.rel Z0 w cs0 x0) :
 Calls prog 155 #[.agg cs0.toArray] w λx w'=>∃ A_0_0 c_0_0,x=.returned (.slice A_0_0 (r).length c_0_0)∧Hp Z0 No w w' [zAy 35 A_0_0 c_0_0 zAq r]:=by
 have D0:=Hp.nil Z0 No w;have hc0:=Calm.nil;obtain ⟨Ar1,cr1,Ar3,cr3,rfl,fs1,fs3⟩:=zA2.relE h0;obtain ⟨D5,hc0⟩:=D0.kn (r:=slR Ar1 cr1 zAq x0.Pos.Counts) hc0 fs1;obtain ⟨D6,hc0⟩:=D5.kn (r:=slR Ar3 cr3 zAq x0.Neg.Counts) hc0 fs3;refine eg func155 2 ?_;refine Rn.box rfl rfl rfl rfl rfl ?_;intro b7 w7 hb7 m7 e7;have D9:=(D6.addBox hb7 e7 m7).nf [_,_,zAi _ _ [_,_,_,_,_,_]] rfl;refine gg 5 rfl (Rn.q rfl (V.ldB V35 rfl (D9.get 2 rfl) rfl) (Rn.bslS rfl rfl rfl U36 zVc rfl rfl rfl rfl (by first|exact szs rfl|(simp [Value.cells];done)) (by decide) ?_));intro b10 w10 hb10 m10 e10;have D11:=D9.addLit (rep:=zAq) (xs:=([x0.Zero]:List UInt64)) (vss:=[[zAn x0.Zero]]) hb10 e10 m10 rfl rfl rfl ((zCr (λ_ _=>⟨rfl,trivial⟩) zO4));refine gg 7 rfl (Rn.q rfl (V.ldB V36 rfl (D11.get 2 rfl) rfl) ?_);obtain ⟨z13,e13,Y⟩:=zA7 Y;refine Rn.appH D11 3 rfl e13 rfl rfl rfl U36 zVc rfl rfl rfl rfl (D11.src 0 rfl) ?_;intro A13 c13 w13 D13;refine gg 7 rfl (Rn.q rfl (V.ldB V36 rfl (D13.get 2 rfl) rfl) ?_);obtain ⟨z15,e15,Y⟩:=zA7 Y;refine Rn.appH D13 3 rfl e15 rfl rfl rfl U36 zVc rfl rfl rfl rfl (D13.src 1 rfl) ?_;intro A15 c15 w15 D15;refine gg 2 rfl ?_
 cases Y
 exact Rn.R1 func155 ⟨A15,c15,rfl,D15.pk [3]⟩
theorem zHw {x0:Int} {x1:Int} {r:(List Int)} (Y:zC3 x0 x1=some r)  :
 Calls prog 188 #[iv x0,iv x1] w λx w'=>∃ A_0_0 c_0_0,x=.returned (.slice A_0_0 (r).length c_0_0)∧Hp Z0 No w w' [zAy 3 A_0_0 c_0_0 (zFe .i64) r]:=by
 have D0:=Hp.nil Z0 No w;have hc0:=Calm.nil;refine eg func188 7 ?_;refine Rn.q rfl (V.cv64 U3 U35 rfl) (gg 1 rfl ?_);obtain ⟨p1,e1,Y⟩:=zA7 Y
 refine Rn.c2 (cK func185) (zCi (Z0:=All) e1  :) λA1_0_0 c1_0_0 w1 Q1=>?_
 have D3:=D0.callF (flC (zAm (zD3 _) _ _ _ _) fl0) Q1;refine gg 11 rfl ?_
 cases Y
 exact Rn.R1 func188 ⟨A1_0_0,c1_0_0,rfl,D3.pk [0]⟩
theorem zI6 {x0:zAa} {r:(List Int)} (Y:zD x0=some r) (h0:zAa.rep.rel Z0 w cs0 x0) :
 Calls prog 189 #[.agg cs0.toArray] w λx w'=>∃ A_0_0 c_0_0,x=.returned (.slice A_0_0 (r).length c_0_0)∧Hp Z0 No w w' [zAy 3 A_0_0 c_0_0 (zFe .i64) r]:=by
 have D0:=Hp.nil Z0 No w;have hc0:=Calm.nil;obtain ⟨Ar1,cr1,rfl,fs1⟩:=zAa.relE h0;obtain ⟨D3,hc0⟩:=D0.kn (r:=slR Ar1 cr1 zAq x0.Counts) hc0 fs1;refine eg func189 2 ?_;refine Rn.box rfl rfl rfl rfl rfl ?_;intro b4 w4 hb4 m4 e4;have D6:=(D3.addBox hb4 e4 m4).nf [_,zAi _ _ [_,_]] rfl;refine gg 5 rfl (Rn.q rfl (V.ldB V36 rfl (D6.get 1 rfl) rfl) (Rn.q rfl (V.lenV U36 rfl) ?_));obtain ⟨p7,e7,Y⟩:=zA7 Y
 refine Rn.c2 (cK func188) (zHw (Z0:=All) e7  :) λA7_0_0 c7_0_0 w7 Q7=>?_
 have D9:=D6.callF (flC (zAm (zD3 _) _ _ _ _) fl0) Q7;refine gg 6 rfl (Rn.q rfl (V.ldB V36 rfl (D9.get 1 rfl) rfl) (Rn.q rfl (V.lenV U36 rfl) (gg 2 rfl ?_)));refine Rn.jG D0 Y (G:=(List Int)×Option Addr×Nat) (λg=>[(3,.slice (g.2.1) ((g.1)).length (g.2.2))]) (λg=>[slR Ar1 cr1 zAq x0.Counts,zAi b4 38 [iv x0.Offset,.slice Ar1 (x0.Counts).length cr1],zAy 3 (g.2.1) (g.2.2) (zFe .i64) (g.1)]) (λj g=>j g.1) ?_ ?_
 ·rintro ⟨y10,A11,c11⟩ w13 D13 Y
  try dsimp only at Y
  refine gg 5 rfl ?_
  cases Y
  exact Rn.R1 func189 ⟨A11,c11,rfl,D13.pk [2]⟩
 intro j1 Y K1;refine bD Y 3 1 (λh14 Y=>?_) (λh14 Y=>?_)
 ·refine Rn.q rfl (V.ldB V3 rfl (D9.get 1 rfl) rfl) ?_;obtain ⟨p15,e15,Y⟩:=zA7 Y
  refine Rn.c0 (cK func187) (zF2 (Z0:=All) e15  :) D9 λw15 _ D16=>?_
  obtain ⟨p17,e17,Y⟩:=zA7 Y
  refine Rn.c2 (cK func129) (zCn (Z0:=All) e17  :) λA17_0_0 c17_0_0 w17 Q17=>?_
  have D19:=D16.callF (flC (zAm (zD3 _) _ _ _ _) fl0) Q17;obtain ⟨z20,e20,Y⟩:=zA7 Y;refine Rn.appH D19 2 rfl e20 rfl rfl rfl U91 el3 rfl rfl rfl rfl (D19.srcO 3 rfl) ?_;intro A20 c20 w20 D20;refine gg 2 rfl ?_;exact K1 (z20,A20,c20) _ _ sA (D20.pk [0,1,2]) Y
 exact K1 (p7,A7_0_0,c7_0_0) _ _ sA (D9.pk [0,1,2]) Y
theorem zMs {x0:(List zA2)} {x1:zA2} {r:(List Int)} (Y:zDx x0 x1=some r) (h1:zA2.rep.rel Z0 w cs1 x1) (f0:(slR A0 c0 zA2.rep x0).H Z0 w) :
 Calls prog 131 #[.slice A0 (x0).length c0,.agg cs1.toArray] w λx w'=>∃ A_0_0 c_0_0,x=.returned (.slice A_0_0 (r).length c_0_0)∧Hp Z0 No w w' [zAy 3 A_0_0 c_0_0 (zFe .i64) r]:=by
 have D0:=Hp.nil Z0 No w;have hc0:=Calm.nil;obtain ⟨Ar2,cr2,Ar4,cr4,rfl,fs2,fs4⟩:=zA2.relE h1;obtain ⟨D6,hc0⟩:=D0.kn (r:=slR Ar2 cr2 zAq x1.Pos.Counts) hc0 fs2;obtain ⟨D7,hc0⟩:=D6.kn (r:=slR Ar4 cr4 zAq x1.Neg.Counts) hc0 fs4;obtain ⟨D8,hc0⟩:=D7.kn hc0 f0;refine eg func131 2 ?_;refine Rn.box rfl rfl rfl rfl rfl ?_;intro b9 w9 hb9 m9 e9;have D11:=(D8.addBox hb9 e9 m9).nf [_,_,_,zAi _ _ [_,_,_,_,_,_]] rfl;refine gg 5 rfl (Rn.q rfl (V.lenV U97 rfl) (gg 4 rfl ?_));refine Rn.jG D0 Y (G:=Bool) (λg=>[(0,.slice A0 (x0).length c0),(3,pt b9 0),(5,iv (x0.length:Int)),(25,.bool (g))]) (λg=>[slR Ar2 cr2 zAq x1.Pos.Counts,slR Ar4 cr4 zAq x1.Neg.Counts,slR A0 c0 zA2.rep x0,zAi b9 40 [iv x1.Scale,zAn x1.Zero,iv x1.Pos.Offset,.slice Ar2 (x1.Pos.Counts).length cr2,iv x1.Neg.Offset,.slice Ar4 (x1.Neg.Counts).length cr4]]) (λj g=>j g) ?_ ?_
 ·rintro y12 w13 D13 Y
  try dsimp only at Y
  refine bS Y 2 3 (λh14 Y=>?_) (λh14 Y=>?_)
  ·refine Rn.bslS rfl rfl rfl U91 el3 rfl rfl rfl rfl (by first|exact szs rfl|(simp [Value.cells];done)) (by decide) ?_;intro b15 w15 hb15 m15 e15;have D16:=D13.addLit (rep:=(zFe .i64)) (xs:=([1]:List Int)) (vss:=[[iv 1]]) hb15 e15 m15 rfl rfl rfl ((zCr (λ_ _=>⟨rfl,trivial⟩) zO4));refine gg 3 rfl ?_;refine Rn.drawH rfl D16 ?_;intro w18 D18;refine RH.tk 0 rfl (λw' hDr=>V.ldBA [_,_,_,_,_,_] V40 O40 rfl ((D18.ext hDr).get 3 rfl) rfl rfl) ?_;refine dq [2,3,4] ?_;obtain ⟨z19,e19,Y⟩:=zA7 Y;obtain ⟨kk19,ke19,kz19,kl19⟩:=zJb e19;obtain ⟨b19,o19,vs19,hA19,hD19,hR19,hrel19⟩:=Hp.at D18 2 rfl kz19;obtain ⟨Ar20,cr20,Ar22,cr22,rfl,fs20,fs22⟩:=zA2.relE hrel19;have D25:=Hp.knowL [rdR b19 (o19+kk19*6) [iv z19.Scale,zAn z19.Zero,iv z19.Pos.Offset,.slice Ar20 (z19.Pos.Counts).length cr20,iv z19.Neg.Offset,.slice Ar22 (z19.Neg.Counts).length cr22],slR Ar20 cr20 zAq z19.Pos.Counts,slR Ar22 cr22 zAq z19.Neg.Counts] _ D18 (knC (λ_ h=>h) ⟨λ_=>hD19,hR19⟩ (knC (λ_ h=>h) fs20 (knC (λ_ h=>h) fs22 kn0)));refine RH.tk 5 rfl (λw' hDr=>V.ixA' hA19 kk19 U97 O40 rfl rfl ke19 kl19) ?_;refine RH.tk 6 rfl (λw' hDr=>V.ldA (vs:=[_,_,_,_,_,_]) V40 O40 rfl (Rd.pre ((D25.ext hDr).get 5 rfl).2 6) rfl) ?_;obtain ⟨p26,e26,Y⟩:=zA7 Y;refine RH.cq (cK func155) 1 (zH (Z0:=All) e26 (show zA2.rep.rel All _ _ _ from ⟨_,_,rfl,⟨rfl,trivial⟩,⟨_,_,rfl,⟨rfl,trivial⟩,⟨_,_,rfl,⟨_,_,rfl,⟨rfl,trivial⟩,⟨_,_,rfl,(zA5 (D25.get 0 rfl)).1,(zA5 (D25.get 0 rfl)).2.1,(zA5 (D25.get 0 rfl)).2.2⟩⟩,⟨_,_,rfl,⟨rfl,trivial⟩,⟨_,_,rfl,(zA5 (D25.get 1 rfl)).1,(zA5 (D25.get 1 rfl)).2.1,(zA5 (D25.get 1 rfl)).2.2⟩⟩⟩⟩⟩) :) ?_;rintro _ w26 ⟨A26_0_0,c26_0_0,rfl,Q26⟩;refine ⟨_,rfl,((Ext.refl _).trans Q26.fr),?_⟩;have D28:=D25.callF (flC (zAm zCz _ _ _ _) fl0) Q26;obtain ⟨p29,e29,Y⟩:=zA7 Y;refine RH.cq (cK func155) 7 (zH (Z0:=All) e29 (show zA2.rep.rel All _ _ _ from ⟨_,_,rfl,⟨rfl,trivial⟩,⟨_,_,rfl,⟨rfl,trivial⟩,⟨_,_,rfl,⟨_,_,rfl,⟨rfl,trivial⟩,⟨_,_,rfl,(zA5 (D28.get 6 rfl)).1,(zA5 (D28.get 6 rfl)).2.1,(zA5 (D28.get 6 rfl)).2.2⟩⟩,⟨_,_,rfl,⟨rfl,trivial⟩,⟨_,_,rfl,(zA5 (D28.get 7 rfl)).1,(zA5 (D28.get 7 rfl)).2.1,(zA5 (D28.get 7 rfl)).2.2⟩⟩⟩⟩⟩) :) ?_;rintro _ w29 ⟨A29_0_0,c29_0_0,rfl,Q29⟩;refine ⟨_,rfl,(((Ext.refl _).trans Q26.fr).trans Q29.fr),?_⟩;have D31:=D28.callF (flC (zAm zCz _ _ _ _) fl0) Q29;refine dq [8,9] ?_;refine RH.dn ?_;refine gg 5 rfl ?_;refine Rn.jG D0 Y (G:=(List Int)×Option Addr×Nat) (λg=>[(6,.slice (g.2.1) ((g.1)).length (g.2.2))]) (λg=>[slR Ar2 cr2 zAq x1.Pos.Counts,slR Ar4 cr4 zAq x1.Neg.Counts,zAi b9 40 [iv x1.Scale,zAn x1.Zero,iv x1.Pos.Offset,.slice Ar2 (x1.Pos.Counts).length cr2,iv x1.Neg.Offset,.slice Ar4 (x1.Neg.Counts).length cr4],zAy 35 A26_0_0 c26_0_0 zAq p26,zAy 35 A29_0_0 c29_0_0 zAq p29,zAy 3 (g.2.1) (g.2.2) (zFe .i64) (g.1)]) (λj g=>j g.1) ?_ ?_
   ·rintro ⟨y32,A33,c33⟩ w35 D35 Y
    try dsimp only at Y
    refine gg 5 rfl ?_
    cases Y
    exact Rn.R1 func131 ⟨A33,c33,rfl,D35.pk [5]⟩
   intro j2 Y K2;refine gg 1 rfl ?_;refine Rn.loopF (G:=(List Int)×Int×Option Addr×Nat) (λg=>[(6,.slice (g.2.2.1) ((g.1)).length (g.2.2.2)),(7,.slice A26_0_0 (p26).length c26_0_0),(8,.slice A29_0_0 (p29).length c29_0_0),(9,iv (g.2.1))]) (λg w'=>Hp Z0 No w w' [slR Ar2 cr2 zAq x1.Pos.Counts,slR Ar4 cr4 zAq x1.Neg.Counts,zAi b9 40 [iv x1.Scale,zAn x1.Zero,iv x1.Pos.Offset,.slice Ar2 (x1.Pos.Counts).length cr2,iv x1.Neg.Offset,.slice Ar4 (x1.Neg.Counts).length cr4],zAy 35 A26_0_0 c26_0_0 zAq p26,zAy 35 A29_0_0 c29_0_0 zAq p29,zAy 3 (g.2.2.1) (g.2.2.2) (zFe .i64) (g.1)]) (λn g=>zC4 p26 p29 j2 n g.1 g.2.1) fuel (([1]:List Int),0,(some ⟨b15,0,none⟩),1) sA (D31.pk [0,1,3,8,9,4]) Y (λ_=>rfl) ?_;clear Y;rintro m40 ⟨y36,y39,A37,c37⟩ w40 D40 Y N40;replace Y:zC4 p26 p29 j2 (m40+1) y36 y39=some r:=Y;rw [zC4] at Y;refine gg 5 rfl (Rn.q rfl (V.lenV U36 rfl) (gg 2 rfl ?_));refine bD Y 3 1 (λh41 Y=>?_) (λh41 Y=>?_)
   ·refine Rn.drawK 13 rfl D40 (by kernel_rfl) ?_;intro w42 D42;refine dq [0,1,2] ?_;obtain ⟨z43,e43,Y⟩:=zA7 Y;obtain ⟨kk43,ke43,kz43,kl43⟩:=zJb e43;obtain ⟨g43,vs43,hA43,hR43,hrel43⟩:=D42.ownAt 3 rfl kz43;subst hA43;obtain ⟨rfl,_⟩:=hrel43;refine RH.tk 3 rfl (λw' hDr=>V.ixE kk43 U36 O35 rfl rfl ke43 kl43) ?_;refine RH.tk 4 rfl (λw' hDr=>V.ldR0 V35 rfl (hR43.ext hDr) rfl) ?_;refine dq [5,6] ?_;obtain ⟨z44,e44,Y⟩:=zA7 Y;obtain ⟨kk44,ke44,kz44,kl44⟩:=zJb e44;obtain ⟨g44,vs44,hA44,hR44,hrel44⟩:=D42.ownAt 4 rfl kz44;subst hA44;obtain ⟨rfl,_⟩:=hrel44;refine RH.ho 7 rfl (V.ixE kk44 U36 O35 rfl rfl ke44 kl44) ?_;refine RH.ho 8 rfl (V.ldR0 V35 rfl hR44 rfl) ?_;refine RH.ho 9 rfl (V.ari64 (a:=z43) (b:=z44) rfl rfl _ rfl (zI1 _ _)) ?_;refine RH.ho 10 rfl (V.cvW U35 U3 rfl) ?_;obtain ⟨p45,e45,Y⟩:=zA7 Y;refine RH.cq (cK func187) 11 (zF2 (Z0:=All) e45  :) ?_;rintro _ w45 ⟨rfl,Q45⟩;refine ⟨_,rfl,((Ext.refl _).trans Q45.fr),?_⟩;have D46:=D42.call0 Q45;obtain ⟨p47,e47,Y⟩:=zA7 Y;refine RH.cq (cK func129) 12 (zCn (Z0:=All) e47  :) ?_;rintro _ w47 ⟨A47_0_0,c47_0_0,rfl,Q47⟩;refine ⟨_,rfl,(((Ext.refl _).trans Q45.fr).trans Q47.fr),?_⟩;have D49:=D46.callF (flC (zAm (zD3 _) _ _ _ _) fl0) Q47;refine RG.tailK (by kernel_rfl) ?_;obtain ⟨z50,e50,Y⟩:=zA7 Y;refine RH.appH 13 (by kernel_rfl) D49 5 rfl e50 rfl rfl rfl U91 el3 rfl rfl rfl rfl (D49.srcO 6 rfl) ?_;intro A50 c50 w50 D50;refine ⟨trivial,?_⟩;refine dq [14] ?_;refine RH.dn ?_;refine gg 6 rfl ?_;exact N40 (z50,(W64 (y39+1)),A50,c50) _ _ sA (D50.pk [0,1,2,3,4,5]) Y
   exact K2 (y36,A37,c37) _ _ sA (D40.pk [0,1,2,3,4,5]) Y
  refine Rn.bslS rfl rfl rfl U91 el3 rfl rfl rfl rfl (by first|exact szs rfl|(simp [Value.cells];done)) (by decide) ?_;intro b52 w52 hb52 m52 e52;have D53:=D13.addLit (rep:=(zFe .i64)) (xs:=([0]:List Int)) (vss:=[[iv 0]]) hb52 e52 m52 rfl rfl rfl ((zCr (λ_ _=>⟨rfl,trivial⟩) zO4));refine gg 1 rfl (Rn.q rfl (V.ldB V3 rfl (D53.get 3 rfl) rfl) (gg 1 rfl ?_));obtain ⟨p55,e55,Y⟩:=zA7 Y
  refine Rn.c2 (cK func188) (zHw (Z0:=All) e55  :) λA55_0_0 c55_0_0 w55 Q55=>?_
  have D57:=D53.callF (flC (zAm (zD3 _) _ _ _ _) fl0) Q55;obtain ⟨z58,e58,Y⟩:=zA7 Y;refine Rn.appH D57 4 rfl e58 rfl rfl rfl U91 el3 rfl rfl rfl rfl (D57.srcO 5 rfl) ?_;intro A58 c58 w58 D58;refine gg 6 rfl (Rn.q rfl (V.ldBA [_,_] V38 O38 rfl (D58.get 3 rfl) rfl rfl) ?_);obtain ⟨p60,e60,Y⟩:=zA7 Y
  refine Rn.c2 (cK func189) (zI6 (Z0:=All) e60 (show zAa.rep.rel All _ _ _ from ⟨_,_,rfl,⟨rfl,trivial⟩,⟨_,_,rfl,(zA5 (D58.get 0 rfl)).1,(zA5 (D58.get 0 rfl)).2.1,(zA5 (D58.get 0 rfl)).2.2⟩⟩) :) λA60_0_0 c60_0_0 w60 Q60=>?_
  have D62:=D58.callF (flC (zAm (zD3 _) _ _ _ _) fl0) Q60;obtain ⟨z63,e63,Y⟩:=zA7 Y;refine Rn.appH D62 4 rfl e63 rfl rfl rfl U91 el3 rfl rfl rfl rfl (D62.srcO 6 rfl) ?_;intro A63 c63 w63 D63;refine gg 6 rfl (Rn.q rfl (V.ldBA [_,_] V38 O38 rfl (D63.get 3 rfl) rfl rfl) ?_);obtain ⟨p65,e65,Y⟩:=zA7 Y
  refine Rn.c2 (cK func189) (zI6 (Z0:=All) e65 (show zAa.rep.rel All _ _ _ from ⟨_,_,rfl,⟨rfl,trivial⟩,⟨_,_,rfl,(zA5 (D63.get 1 rfl)).1,(zA5 (D63.get 1 rfl)).2.1,(zA5 (D63.get 1 rfl)).2.2⟩⟩) :) λA65_0_0 c65_0_0 w65 Q65=>?_
  have D67:=D63.callF (flC (zAm (zD3 _) _ _ _ _) fl0) Q65;obtain ⟨z68,e68,Y⟩:=zA7 Y;refine Rn.appH D67 4 rfl e68 rfl rfl rfl U91 el3 rfl rfl rfl rfl (D67.srcO 7 rfl) ?_;intro A68 c68 w68 D68;refine gg 4 rfl (Rn.q rfl (V.ldBA [_,_,_,_,_,_] V40 O40 rfl (D68.get 3 rfl) rfl rfl) ?_);obtain ⟨p70,e70,Y⟩:=zA7 Y
  refine Rn.c2 (cK func155) (zH (Z0:=All) e70 (show zA2.rep.rel All _ _ _ from ⟨_,_,rfl,⟨rfl,trivial⟩,⟨_,_,rfl,⟨rfl,trivial⟩,⟨_,_,rfl,⟨_,_,rfl,⟨rfl,trivial⟩,⟨_,_,rfl,(zA5 (D68.get 0 rfl)).1,(zA5 (D68.get 0 rfl)).2.1,(zA5 (D68.get 0 rfl)).2.2⟩⟩,⟨_,_,rfl,⟨rfl,trivial⟩,⟨_,_,rfl,(zA5 (D68.get 1 rfl)).1,(zA5 (D68.get 1 rfl)).2.1,(zA5 (D68.get 1 rfl)).2.2⟩⟩⟩⟩⟩) :) λA70_0_0 c70_0_0 w70 Q70=>?_
  have D72:=D68.callF (flC (zAm zCz _ _ _ _) fl0) Q70;replace D72:=D72.nq;refine gg 7 rfl ?_;refine Rn.jG D0 Y (G:=(List Int)×Option Addr×Nat) (λg=>[(10,.slice (g.2.1) ((g.1)).length (g.2.2))]) (λg=>[slR Ar2 cr2 zAq x1.Pos.Counts,slR Ar4 cr4 zAq x1.Neg.Counts,zAi b9 40 [iv x1.Scale,zAn x1.Zero,iv x1.Pos.Offset,.slice Ar2 (x1.Pos.Counts).length cr2,iv x1.Neg.Offset,.slice Ar4 (x1.Neg.Counts).length cr4],zAy 3 A55_0_0 c55_0_0 (zFe .i64) p55,zAy 3 A60_0_0 c60_0_0 (zFe .i64) p60,zAy 3 A65_0_0 c65_0_0 (zFe .i64) p65,zAy 35 A70_0_0 c70_0_0 zAq p70,zAy 3 (g.2.1) (g.2.2) (zFe .i64) (g.1)]) (λj g=>j g.1) ?_ ?_
  ·rintro ⟨y73,A74,c74⟩ w76 D76 Y
   try dsimp only at Y
   refine gg 5 rfl ?_
   cases Y
   exact Rn.R1 func131 ⟨A74,c74,rfl,D76.pk [7]⟩
  intro j3 Y K3;refine gg 1 rfl ?_;refine Rn.loopF (G:=(List Int)×Int×Option Addr×Nat) (λg=>[(10,.slice (g.2.2.1) ((g.1)).length (g.2.2.2)),(11,.slice A70_0_0 (p70).length c70_0_0),(12,iv (g.2.1))]) (λg w'=>Hp Z0 No w w' [slR Ar2 cr2 zAq x1.Pos.Counts,slR Ar4 cr4 zAq x1.Neg.Counts,zAi b9 40 [iv x1.Scale,zAn x1.Zero,iv x1.Pos.Offset,.slice Ar2 (x1.Pos.Counts).length cr2,iv x1.Neg.Offset,.slice Ar4 (x1.Neg.Counts).length cr4],zAy 3 A55_0_0 c55_0_0 (zFe .i64) p55,zAy 3 A60_0_0 c60_0_0 (zFe .i64) p60,zAy 3 A65_0_0 c65_0_0 (zFe .i64) p65,zAy 35 A70_0_0 c70_0_0 zAq p70,zAy 3 (g.2.2.1) (g.2.2.2) (zFe .i64) (g.1)]) (λn g=>zBp p70 j3 n g.1 g.2.1) fuel (z68,0,A68,c68) sA (D72.pk [0,1,3,5,6,7,8,4]) Y (λ_=>rfl) ?_;clear Y;rintro m81 ⟨y77,y80,A78,c78⟩ w81 D81 Y N81;replace Y:zBp p70 j3 (m81+1) y77 y80=some r:=Y;rw [zBp] at Y;refine gg 5 rfl (Rn.q rfl (V.lenV U36 rfl) (gg 2 rfl ?_));refine bD Y 7 1 (λh82 Y=>?_) (λh82 Y=>?_)
  ·obtain ⟨z83,e83,Y⟩:=zA7 Y;obtain ⟨kk83,ke83,kz83,kl83⟩:=zJb e83;obtain ⟨g83,vs83,hA83,hR83,hrel83⟩:=D81.ownAt 6 rfl kz83;subst hA83;obtain ⟨rfl,_⟩:=hrel83;refine Rn.q rfl (V.ixE kk83 U36 O35 rfl rfl ke83 kl83) (Rn.q rfl (V.ldR0 V35 rfl hR83 rfl) ?_);obtain ⟨p84,e84,Y⟩:=zA7 Y
   refine Rn.c2 (cK func129) (zCn (Z0:=All) e84  :) λA84_0_0 c84_0_0 w84 Q84=>?_
   have D86:=D81.callF (flC (zAm (zD3 _) _ _ _ _) fl0) Q84;replace D86:=D86.nq;obtain ⟨z87,e87,Y⟩:=zA7 Y;refine Rn.appH D86 7 rfl e87 rfl rfl rfl U91 el3 rfl rfl rfl rfl (D86.srcO 8 rfl) ?_;intro A87 c87 w87 D87;replace D87:=D87.nq;refine gg 8 rfl ?_;exact N81 (z87,(W64 (y80+1)),A87,c87) _ _ sA (D87.pk [0,1,2,3,4,5,6,7]) Y
  exact K3 (y77,A78,c78) _ _ sA (D81.pk [0,1,2,3,4,5,6,7]) Y
 intro j1 Y K1;refine Rn.drawH rfl D11 ?_;intro w89 D89;refine dq [0,1,2] ?_;refine zKs Y (RH.partD (t:=17) rfl) (λh90 Y=>?_) (λh90 Y=>?_)
 ·refine dq [3,4,5] ?_;obtain ⟨z91,e91,Y⟩:=zA7 Y;obtain ⟨kk91,ke91,kz91,kl91⟩:=zJb e91;obtain ⟨b91,o91,vs91,hA91,hD91,hR91,hrel91⟩:=Hp.at D89 2 rfl kz91;obtain ⟨Ar92,cr92,Ar94,cr94,rfl,fs92,fs94⟩:=zA2.relE hrel91;have D97:=Hp.knowL [rdR b91 (o91+kk91*6) [iv z91.Scale,zAn z91.Zero,iv z91.Pos.Offset,.slice Ar92 (z91.Pos.Counts).length cr92,iv z91.Neg.Offset,.slice Ar94 (z91.Neg.Counts).length cr94],slR Ar92 cr92 zAq z91.Pos.Counts,slR Ar94 cr94 zAq z91.Neg.Counts] _ D89 (knC (λ_ h=>h) ⟨λ_=>hD91,hR91⟩ (knC (λ_ h=>h) fs92 (knC (λ_ h=>h) fs94 kn0)));refine RH.tk 6 rfl (λw' hDr=>V.ixA' hA91 kk91 U97 O40 rfl rfl ke91 kl91) ?_;refine RH.tk 7 rfl (λw' hDr=>V.ldA (vs:=[_,_,_,_,_,_]) V40 O40 rfl (Rd.pre ((D97.ext hDr).get 4 rfl).2 6) rfl) ?_;refine RH.ho 8 rfl (V.ldBA [_,_,_,_,_,_] V40 O40 rfl (D97.get 3 rfl) rfl rfl) ?_;obtain ⟨p98,e98,Y⟩:=zA7 Y;refine RH.cq (cK func159) 9 (zLr (Z0:=All) e98 (show zA2.rep.rel All _ _ _ from ⟨_,_,rfl,⟨rfl,trivial⟩,⟨_,_,rfl,⟨rfl,trivial⟩,⟨_,_,rfl,⟨_,_,rfl,⟨rfl,trivial⟩,⟨_,_,rfl,(zA5 (D97.get 5 rfl)).1,(zA5 (D97.get 5 rfl)).2.1,(zA5 (D97.get 5 rfl)).2.2⟩⟩,⟨_,_,rfl,⟨rfl,trivial⟩,⟨_,_,rfl,(zA5 (D97.get 6 rfl)).1,(zA5 (D97.get 6 rfl)).2.1,(zA5 (D97.get 6 rfl)).2.2⟩⟩⟩⟩⟩) (show zA2.rep.rel All _ _ _ from ⟨_,_,rfl,⟨rfl,trivial⟩,⟨_,_,rfl,⟨rfl,trivial⟩,⟨_,_,rfl,⟨_,_,rfl,⟨rfl,trivial⟩,⟨_,_,rfl,(zA5 (D97.get 0 rfl)).1,(zA5 (D97.get 0 rfl)).2.1,(zA5 (D97.get 0 rfl)).2.2⟩⟩,⟨_,_,rfl,⟨rfl,trivial⟩,⟨_,_,rfl,(zA5 (D97.get 1 rfl)).1,(zA5 (D97.get 1 rfl)).2.1,(zA5 (D97.get 1 rfl)).2.2⟩⟩⟩⟩⟩) :) ?_;rintro _ w98 ⟨rfl,Q98⟩;refine ⟨_,rfl,((Ext.refl _).trans Q98.fr),?_⟩;have D99:=D97.call0 Q98;refine dq [10] ?_;refine RH.dn ?_;exact K1 p98 _ _ sA (D99.pk [0,1,2,3]) Y
 refine dq [3,4,5,6,7,8,9,10] ?_;refine RH.dn ?_;exact K1 false _ _ sA (D89.pk [0,1,2,3]) Y
theorem zM4 {x0:(List zAc)} {r:(List Int)} (Y:zGh x0=some r) (f0:(slR A0 c0 zAc.rep x0).H Z0 w) :
 Calls prog 70 #[.slice A0 (x0).length c0] w λx w'=>∃ A_0_0 c_0_0,x=.returned (.slice A_0_0 (r).length c_0_0)∧Hp Z0 No w w' [zAy 3 A_0_0 c_0_0 (zFe .i64) r]:=by
 obtain ⟨D0,D2,hc0⟩:=knA f0;refine eg func70 26 ?_;refine Rn.jG D0 Y (G:=(List Int)×Option Addr×Nat) (λg=>[(3,.slice (g.2.1) ((g.1)).length (g.2.2))]) (λg=>[zAy 3 (g.2.1) (g.2.2) (zFe .i64) (g.1)]) (λj g=>j g.1) ?_ ?_
 ·rintro ⟨y3,A4,c4⟩ w6 D6 Y
  try dsimp only at Y
  refine gg 5 rfl ?_
  cases Y
  exact Rn.R1 func70 ⟨A4,c4,rfl,D6.pk [0]⟩
 intro j1 Y K1;refine gg 1 rfl ?_;have D32:=D2.addNil 3 (zFe .i64);have D34:=D32.addNil 3 (zFe .i64);have D36:=D34.addNil 3 (zFe .i64);have D38:=D36.addNil 3 (zFe .i64);have D40:=D38.addNil 3 (zFe .i64);have D42:=D40.addNil 35 zAq;have D44:=D42.addNil 35 zAq;have D46:=D44.addNil 40 zA2.rep;refine Rn.loopF (G:=(List Int)×(List Int)×(List Int)×(List Int)×(List Int)×(List UInt64)×(List UInt64)×(List zA2)×Int×Option Addr×Nat×Option Addr×Nat×Option Addr×Nat×Option Addr×Nat×Option Addr×Nat×Option Addr×Nat×Option Addr×Nat×Option Addr×Nat) (λg=>[(0,.slice A0 (x0).length c0),(3,.slice (g.2.2.2.2.2.2.2.2.2.1) ((g.1)).length (g.2.2.2.2.2.2.2.2.2.2.1)),(4,.slice (g.2.2.2.2.2.2.2.2.2.2.2.1) ((g.2.1)).length (g.2.2.2.2.2.2.2.2.2.2.2.2.1)),(5,.slice (g.2.2.2.2.2.2.2.2.2.2.2.2.2.1) ((g.2.2.1)).length (g.2.2.2.2.2.2.2.2.2.2.2.2.2.2.1)),(6,.slice (g.2.2.2.2.2.2.2.2.2.2.2.2.2.2.2.1) ((g.2.2.2.1)).length (g.2.2.2.2.2.2.2.2.2.2.2.2.2.2.2.2.1)),(7,.slice (g.2.2.2.2.2.2.2.2.2.2.2.2.2.2.2.2.2.1) ((g.2.2.2.2.1)).length (g.2.2.2.2.2.2.2.2.2.2.2.2.2.2.2.2.2.2.1)),(8,.slice (g.2.2.2.2.2.2.2.2.2.2.2.2.2.2.2.2.2.2.2.1) ((g.2.2.2.2.2.1)).length (g.2.2.2.2.2.2.2.2.2.2.2.2.2.2.2.2.2.2.2.2.1)),(9,.slice (g.2.2.2.2.2.2.2.2.2.2.2.2.2.2.2.2.2.2.2.2.2.1) ((g.2.2.2.2.2.2.1)).length (g.2.2.2.2.2.2.2.2.2.2.2.2.2.2.2.2.2.2.2.2.2.2.1)),(10,.slice (g.2.2.2.2.2.2.2.2.2.2.2.2.2.2.2.2.2.2.2.2.2.2.2.1) ((g.2.2.2.2.2.2.2.1)).length (g.2.2.2.2.2.2.2.2.2.2.2.2.2.2.2.2.2.2.2.2.2.2.2.2)),(11,iv (g.2.2.2.2.2.2.2.2.1))]) (λg w'=>Hp Z0 No w w' [slR A0 c0 zAc.rep x0,zAy 3 (g.2.2.2.2.2.2.2.2.2.1) (g.2.2.2.2.2.2.2.2.2.2.1) (zFe .i64) (g.1),zAy 3 (g.2.2.2.2.2.2.2.2.2.2.2.1) (g.2.2.2.2.2.2.2.2.2.2.2.2.1) (zFe .i64) (g.2.1),zAy 3 (g.2.2.2.2.2.2.2.2.2.2.2.2.2.1) (g.2.2.2.2.2.2.2.2.2.2.2.2.2.2.1) (zFe .i64) (g.2.2.1),zAy 3 (g.2.2.2.2.2.2.2.2.2.2.2.2.2.2.2.1) (g.2.2.2.2.2.2.2.2.2.2.2.2.2.2.2.2.1) (zFe .i64) (g.2.2.2.1),zAy 3 (g.2.2.2.2.2.2.2.2.2.2.2.2.2.2.2.2.2.1) (g.2.2.2.2.2.2.2.2.2.2.2.2.2.2.2.2.2.2.1) (zFe .i64) (g.2.2.2.2.1),zAy 35 (g.2.2.2.2.2.2.2.2.2.2.2.2.2.2.2.2.2.2.2.1) (g.2.2.2.2.2.2.2.2.2.2.2.2.2.2.2.2.2.2.2.2.1) zAq (g.2.2.2.2.2.1),zAy 35 (g.2.2.2.2.2.2.2.2.2.2.2.2.2.2.2.2.2.2.2.2.2.1) (g.2.2.2.2.2.2.2.2.2.2.2.2.2.2.2.2.2.2.2.2.2.2.1) zAq (g.2.2.2.2.2.2.1),zAy 40 (g.2.2.2.2.2.2.2.2.2.2.2.2.2.2.2.2.2.2.2.2.2.2.2.1) (g.2.2.2.2.2.2.2.2.2.2.2.2.2.2.2.2.2.2.2.2.2.2.2.2) zA2.rep (g.2.2.2.2.2.2.2.1)]) (λn g=>zCf x0 j1 n g.1 g.2.1 g.2.2.1 g.2.2.2.1 g.2.2.2.2.1 g.2.2.2.2.2.1 g.2.2.2.2.2.2.1 g.2.2.2.2.2.2.2.1 g.2.2.2.2.2.2.2.2.1) fuel (([]:List Int),([]:List Int),([]:List Int),([]:List Int),([]:List Int),([]:List UInt64),([]:List UInt64),([]:List zA2),0,none,0,none,0,none,0,none,0,none,0,none,0,none,0,none,0) sA (D46.pk [0,1,2,3,4,5,6,7,8]) Y (λ_=>rfl) ?_;clear Y;rintro m48 ⟨y7,y10,y13,y16,y19,y22,y25,y28,y31,A8,c8,A11,c11,A14,c14,A17,c17,A20,c20,A23,c23,A26,c26,A29,c29⟩ w48 D48 Y N48;replace Y:zCf x0 j1 (m48+1) y7 y10 y13 y16 y19 y22 y25 y28 y31=some r:=Y;rw [zCf] at Y;refine gg 5 rfl (Rn.q rfl (V.lenV U24 rfl) (gg 2 rfl ?_));refine bD Y 7 1 (λh49 Y=>?_) (λh49 Y=>?_)
 ·obtain ⟨z50,e50,Y⟩:=zA7 Y;refine Rn.ixH D48 0 rfl e50 rfl rfl rfl U24 O44 rfl rfl rfl rfl ?_;rintro b50 o50 vs50 hr50 D50;obtain ⟨Ar51,cr51,Ar53,cr53,Ar55,cr55,rfl,fs51,fs53,fs55⟩:=zAc.relE hr50;have D58:=Hp.know1 (M:=[slR Ar51 cr51 zA0.rep z50.Point.Attrs,slR Ar53 cr53 zAq z50.Point.Hist.Pos.Counts,slR Ar55 cr55 zAq z50.Point.Hist.Neg.Counts]) D50 (λ_ h=>h) (knC (λ_ h=>h) fs51 (knC (λ_ h=>h) fs53 (knC (λ_ h=>h) fs55 kn0)));refine gg 1 rfl (Rn.q rfl (V.ldA (vs:=[_,_,_,_,_,_,_,_,_,_,_,_,_,_,_,_,_]) V42 O42 rfl (Rd.sub (D58.get 9 rfl).2 1 17) rfl) (Rn.als rfl rfl rfl Tryz.zeroValue42 rfl O42 rfl rfl rfl rfl (by first|exact zJx rfl|(simp [Value.oneCell'];done)) ?_));intro b59 w59 hb59 m59 e59;have D61:=(D58.addBox hb59 e59 m59).nf [_,_,_,_,_,_,_,_,_,_,_,_,_,zAi _ _ [_,_,_,_,_,_,_,_,_,_,_,_,_,_,_,_,_]] rfl;refine gg 7 rfl ?_;obtain ⟨z62,e62,Y⟩:=zA7 Y;refine Rn.ixH D61 0 rfl e62 rfl rfl rfl U24 O44 rfl rfl rfl rfl ?_;rintro b62 o62 vs62 hr62 D62;obtain ⟨Ar63,cr63,Ar65,cr65,Ar67,cr67,rfl,fs63,fs65,fs67⟩:=zAc.relE hr62;have D70:=Hp.know1 (M:=[slR Ar63 cr63 zA0.rep z62.Point.Attrs,slR Ar65 cr65 zAq z62.Point.Hist.Pos.Counts,slR Ar67 cr67 zAq z62.Point.Hist.Neg.Counts]) D62 (λ_ h=>h) (knC (λ_ h=>h) fs63 (knC (λ_ h=>h) fs65 (knC (λ_ h=>h) fs67 kn0)));refine gg 1 rfl (Rn.q rfl (V.ldR0 V3 rfl (D70.get 14 rfl).2 rfl) ?_);obtain ⟨p71,e71,Y⟩:=zA7 Y;refine Rn.cq (cK func128) (zEl (Z0:=All) e71 (zAw (D70.get 2 rfl)) :) ?_;rintro _ w71 ⟨F71_0,A71_0,c71_0,rfl,Q71⟩;refine ⟨_,rfl,?_⟩;have D73:=D70.callF (flC (zPo) fl0) Q71;replace D73:=D73.nq;have D75:=D73.freezeRo 18 rfl;obtain ⟨z76,e76,Y⟩:=zA7 Y;refine Rn.appH D75 1 rfl e76 rfl rfl rfl U91 el3 rfl rfl rfl rfl (D75.src 18 rfl) ?_;intro A76 c76 w76 D76;replace D76:=D76.nq;refine gg 7 rfl ?_;obtain ⟨z78,e78,Y⟩:=zA7 Y;refine Rn.ixH D76 0 rfl e78 rfl rfl rfl U24 O44 rfl rfl rfl rfl ?_;rintro b78 o78 vs78 hr78 D78;obtain ⟨Ar79,cr79,Ar81,cr81,Ar83,cr83,rfl,fs79,fs81,fs83⟩:=zAc.relE hr78;have D86:=Hp.know1 (M:=[slR Ar79 cr79 zA0.rep z78.Point.Attrs,slR Ar81 cr81 zAq z78.Point.Hist.Pos.Counts,slR Ar83 cr83 zAq z78.Point.Hist.Neg.Counts]) D78 (λ_ h=>h) (knC (λ_ h=>h) fs79 (knC (λ_ h=>h) fs81 (knC (λ_ h=>h) fs83 kn0)));refine gg 1 rfl (Rn.q rfl (V.ldR0 V3 rfl (D86.get 19 rfl).2 rfl) ?_);obtain ⟨z87,e87,Y⟩:=zA7 Y;refine Rn.pushH (z:=z78.Ord) (vs:=[iv z78.Ord]) D86 2 rfl e87 rfl rfl rfl rfl U91 el3 rfl rfl rfl rfl (λ_=>rfl) (⟨rfl,trivial⟩) ?_;intro A87 c87 w87 u87 D87;replace D87:=D87.nq;refine gg 7 rfl (Rn.q rfl (V.ldB V3 rfl (D87.get 13 rfl) rfl) ?_);obtain ⟨p89,e89,Y⟩:=zA7 Y;refine Rn.cq (cK func128) (zEl (Z0:=All) e89 (zAw (D87.get 3 rfl)) :) ?_;rintro _ w89 ⟨F89_0,A89_0,c89_0,rfl,Q89⟩;refine ⟨_,rfl,?_⟩;have D91:=D87.callF (flC (zPo) fl0) Q89;replace D91:=D91.nq;have D93:=D91.freezeRo 23 rfl;obtain ⟨z94,e94,Y⟩:=zA7 Y;refine Rn.appH D93 1 rfl e94 rfl rfl rfl U91 el3 rfl rfl rfl rfl (D93.src 23 rfl) ?_;intro A94 c94 w94 D94;replace D94:=D94.nq;refine gg 6 rfl (Rn.q rfl (V.ldB V3 rfl (D94.get 13 rfl) rfl) ?_);obtain ⟨z96,e96,Y⟩:=zA7 Y;refine Rn.pushH (z:=z50.Point.Time) (vs:=[iv z50.Point.Time]) D94 3 rfl e96 rfl rfl rfl rfl U91 el3 rfl rfl rfl rfl (λ_=>rfl) (⟨rfl,trivial⟩) ?_;intro A96 c96 w96 u96 D96;replace D96:=D96.nq;refine gg 6 rfl (Rn.q rfl (V.ldB V3 rfl (D96.get 13 rfl) rfl) (gg 2 rfl ?_));refine Rn.jG D0 Y (G:=(List Int)×(List Int)×Option Addr×Nat×Option Addr×Nat) (λg=>[(0,.slice A0 (x0).length c0),(3,.slice (g.2.2.1) ((g.1)).length (g.2.2.2.1)),(4,.slice A87 (z87).length c87),(5,.slice A96 (z96).length c96),(6,.slice (g.2.2.2.2.1) ((g.2.1)).length (g.2.2.2.2.2)),(7,.slice A20 (y19).length c20),(8,.slice A23 (y22).length c23),(9,.slice A26 (y25).length c26),(10,.slice A29 (y28).length c29),(11,iv y31),(12,pt b59 0)]) (λg=>[slR A0 c0 zAc.rep x0,zAy 3 A87 c87 (zFe .i64) z87,zAy 3 A96 c96 (zFe .i64) z96,zAy 3 A20 c20 (zFe .i64) y19,zAy 35 A23 c23 zAq y22,zAy 35 A26 c26 zAq y25,zAy 40 A29 c29 zA2.rep y28,slR Ar51 cr51 zA0.rep z50.Point.Attrs,slR Ar53 cr53 zAq z50.Point.Hist.Pos.Counts,slR Ar55 cr55 zAq z50.Point.Hist.Neg.Counts,zAi b59 42 [Str (z50.Point.Name),.slice Ar51 (z50.Point.Attrs).length cr51,iv z50.Point.Kind,iv z50.Point.Temp,.bool (z50.Point.Mono),iv z50.Point.Start,iv z50.Point.Time,iv z50.Point.Int_,zAn z50.Point.Re,zAn z50.Point.Im,iv z50.Point.Hist.Scale,zAn z50.Point.Hist.Zero,iv z50.Point.Hist.Pos.Offset,.slice Ar53 (z50.Point.Hist.Pos.Counts).length cr53,iv z50.Point.Hist.Neg.Offset,.slice Ar55 (z50.Point.Hist.Neg.Counts).length cr55,iv z50.Point.Flags],zAy 3 (g.2.2.1) (g.2.2.2.1) (zFe .i64) (g.1),zAy 3 (g.2.2.2.2.1) (g.2.2.2.2.2) (zFe .i64) (g.2.1)]) (λj g=>j g.1 g.2.1) ?_ ?_
  ·rintro ⟨y98,y101,A99,c99,A102,c102⟩ w104 D104 Y
   try dsimp only at Y
   refine gg 4 rfl (Rn.q rfl (V.ldB V3 rfl (D104.get 10 rfl) rfl) (Rn.q rfl (V.cv64 U3 U35 rfl) ?_));obtain ⟨p105,e105,Y⟩:=zA7 Y
   refine Rn.c2 (cK func129) (zCn (Z0:=All) e105  :) λA105_0_0 c105_0_0 w105 Q105=>?_
   have D107:=D104.callF (flC (zAm (zD3 _) _ _ _ _) fl0) Q105;replace D107:=D107.nq;obtain ⟨z108,e108,Y⟩:=zA7 Y;refine Rn.appH D107 11 rfl e108 rfl rfl rfl U91 el3 rfl rfl rfl rfl (D107.srcO 13 rfl) ?_;intro A108 c108 w108 D108;replace D108:=D108.nq;refine gg 5 rfl (Rn.q rfl (V.ldB V3 rfl (D108.get 10 rfl) rfl) (gg 1 rfl ?_));refine Rn.jG D0 Y (G:=(List Int)×(List Int)×(List UInt64)×(List UInt64)×(List zA2)×Option Addr×Nat×Option Addr×Nat×Option Addr×Nat×Option Addr×Nat×Option Addr×Nat) (λg=>[(0,.slice A0 (x0).length c0),(3,.slice (g.2.2.2.2.2.1) ((g.1)).length (g.2.2.2.2.2.2.1)),(4,.slice A87 (z87).length c87),(5,.slice A96 (z96).length c96),(6,.slice A102 (y101).length c102),(7,.slice (g.2.2.2.2.2.2.2.1) ((g.2.1)).length (g.2.2.2.2.2.2.2.2.1)),(8,.slice (g.2.2.2.2.2.2.2.2.2.1) ((g.2.2.1)).length (g.2.2.2.2.2.2.2.2.2.2.1)),(9,.slice (g.2.2.2.2.2.2.2.2.2.2.2.1) ((g.2.2.2.1)).length (g.2.2.2.2.2.2.2.2.2.2.2.2.1)),(10,.slice (g.2.2.2.2.2.2.2.2.2.2.2.2.2.1) ((g.2.2.2.2.1)).length (g.2.2.2.2.2.2.2.2.2.2.2.2.2.2)),(11,iv y31)]) (λg=>[slR A0 c0 zAc.rep x0,zAy 3 A87 c87 (zFe .i64) z87,zAy 3 A96 c96 (zFe .i64) z96,slR Ar51 cr51 zA0.rep z50.Point.Attrs,slR Ar53 cr53 zAq z50.Point.Hist.Pos.Counts,slR Ar55 cr55 zAq z50.Point.Hist.Neg.Counts,zAi b59 42 [Str (z50.Point.Name),.slice Ar51 (z50.Point.Attrs).length cr51,iv z50.Point.Kind,iv z50.Point.Temp,.bool (z50.Point.Mono),iv z50.Point.Start,iv z50.Point.Time,iv z50.Point.Int_,zAn z50.Point.Re,zAn z50.Point.Im,iv z50.Point.Hist.Scale,zAn z50.Point.Hist.Zero,iv z50.Point.Hist.Pos.Offset,.slice Ar53 (z50.Point.Hist.Pos.Counts).length cr53,iv z50.Point.Hist.Neg.Offset,.slice Ar55 (z50.Point.Hist.Neg.Counts).length cr55,iv z50.Point.Flags],zAy 3 A102 c102 (zFe .i64) y101,zAy 3 A105_0_0 c105_0_0 (zFe .i64) p105,zAy 3 (g.2.2.2.2.2.1) (g.2.2.2.2.2.2.1) (zFe .i64) (g.1),zAy 3 (g.2.2.2.2.2.2.2.1) (g.2.2.2.2.2.2.2.2.1) (zFe .i64) (g.2.1),zAy 35 (g.2.2.2.2.2.2.2.2.2.1) (g.2.2.2.2.2.2.2.2.2.2.1) zAq (g.2.2.1),zAy 35 (g.2.2.2.2.2.2.2.2.2.2.2.1) (g.2.2.2.2.2.2.2.2.2.2.2.2.1) zAq (g.2.2.2.1),zAy 40 (g.2.2.2.2.2.2.2.2.2.2.2.2.2.1) (g.2.2.2.2.2.2.2.2.2.2.2.2.2.2) zA2.rep (g.2.2.2.2.1)]) (λj g=>j g.1 g.2.1 g.2.2.1 g.2.2.2.1 g.2.2.2.2.1) ?_ ?_
   ·rintro ⟨y110,y113,y116,y119,y122,A111,c111,A114,c114,A117,c117,A120,c120,A123,c123⟩ w125 D125 Y
    try dsimp only at Y
    refine gg 6 rfl ?_;exact N48 (y110,z87,z96,y101,y113,y116,y119,y122,(W64 (y31+1)),A111,c111,A87,c87,A96,c96,A102,c102,A114,c114,A117,c117,A120,c120,A123,c123) _ _ sA (D125.pk [0,9,1,2,7,10,11,12,13]) Y
   intro j3 Y K3;refine gg 6 rfl ?_;refine bD Y 5 6 (λh126 Y=>?_) (λh126 Y=>?_)
   ·refine Rn.q rfl (V.ldB V3 rfl (D108.get 10 rfl) rfl) ?_;obtain ⟨p127,e127,Y⟩:=zA7 Y;refine Rn.cq (cK func128) (zEl (Z0:=All) e127 (zAw (D108.get 3 rfl)) :) ?_;rintro _ w127 ⟨F127_0,A127_0,c127_0,rfl,Q127⟩;refine ⟨_,rfl,?_⟩;have D129:=D108.callF (flC (zPo) fl0) Q127;replace D129:=D129.nq;have D131:=D129.freezeRo 14 rfl;obtain ⟨z132,e132,Y⟩:=zA7 Y;refine Rn.appH D131 11 rfl e132 rfl rfl rfl U91 el3 rfl rfl rfl rfl (D131.src 14 rfl) ?_;intro A132 c132 w132 D132;replace D132:=D132.nq;refine gg 5 rfl (Rn.q rfl (V.ldB V3 rfl (D132.get 10 rfl) rfl) ?_);obtain ⟨z134,e134,Y⟩:=zA7 Y;refine Rn.pushH (z:=z50.Point.Int_) (vs:=[iv z50.Point.Int_]) D132 3 rfl e134 rfl rfl rfl rfl U91 el3 rfl rfl rfl rfl (λ_=>rfl) (⟨rfl,trivial⟩) ?_;intro A134 c134 w134 u134 D134;replace D134:=D134.nq;refine gg 3 rfl ?_;exact K3 (z132,z134,y22,y25,y28,A132,c132,A134,c134,A23,c23,A26,c26,A29,c29) _ _ sA (D134.pk [0,1,2,7,8,9,10,12,13,11,3,4,5,6]) Y
   refine Rn.jG D0 Y (G:=Bool) (λg=>[(0,.slice A0 (x0).length c0),(3,.slice A108 (z108).length c108),(4,.slice A87 (z87).length c87),(5,.slice A96 (z96).length c96),(6,.slice A102 (y101).length c102),(7,.slice A20 (y19).length c20),(8,.slice A23 (y22).length c23),(9,.slice A26 (y25).length c26),(10,.slice A29 (y28).length c29),(11,iv y31),(12,pt b59 0),(79,iv z50.Point.Kind),(93,.bool (g))]) (λg=>[slR A0 c0 zAc.rep x0,zAy 3 A87 c87 (zFe .i64) z87,zAy 3 A96 c96 (zFe .i64) z96,zAy 3 A20 c20 (zFe .i64) y19,zAy 35 A23 c23 zAq y22,zAy 35 A26 c26 zAq y25,zAy 40 A29 c29 zA2.rep y28,slR Ar51 cr51 zA0.rep z50.Point.Attrs,slR Ar53 cr53 zAq z50.Point.Hist.Pos.Counts,slR Ar55 cr55 zAq z50.Point.Hist.Neg.Counts,zAi b59 42 [Str (z50.Point.Name),.slice Ar51 (z50.Point.Attrs).length cr51,iv z50.Point.Kind,iv z50.Point.Temp,.bool (z50.Point.Mono),iv z50.Point.Start,iv z50.Point.Time,iv z50.Point.Int_,zAn z50.Point.Re,zAn z50.Point.Im,iv z50.Point.Hist.Scale,zAn z50.Point.Hist.Zero,iv z50.Point.Hist.Pos.Offset,.slice Ar53 (z50.Point.Hist.Pos.Counts).length cr53,iv z50.Point.Hist.Neg.Offset,.slice Ar55 (z50.Point.Hist.Neg.Counts).length cr55,iv z50.Point.Flags],zAy 3 A108 c108 (zFe .i64) z108,zAy 3 A102 c102 (zFe .i64) y101,zAy 3 A105_0_0 c105_0_0 (zFe .i64) p105]) (λj g=>j g) ?_ ?_
   ·rintro y136 w137 D137 Y
    try dsimp only at Y
    refine bS Y 5 5 (λh138 Y=>?_) (λh138 Y=>?_)
    ·refine Rn.q rfl (V.ldB V35 rfl (D137.get 10 rfl) rfl) ?_;obtain ⟨p139,e139,Y⟩:=zA7 Y
     refine Rn.c2 (cK func130) (zFp (Z0:=All) e139 (zAw (D137.get 4 rfl)) :) λA139_0_0 c139_0_0 w139 Q139=>?_
     have D141:=D137.callF (flC (zAm (zD3 _) _ _ _ _) fl0) Q139;replace D141:=D141.nq;obtain ⟨z142,e142,Y⟩:=zA7 Y;refine Rn.appH D141 11 rfl e142 rfl rfl rfl U91 el3 rfl rfl rfl rfl (D141.srcO 14 rfl) ?_;intro A142 c142 w142 D142;replace D142:=D142.nq;refine gg 5 rfl (Rn.q rfl (V.ldB V35 rfl (D142.get 10 rfl) rfl) ?_);obtain ⟨z144,e144,Y⟩:=zA7 Y;refine Rn.pushH (z:=z50.Point.Re) (vs:=[zAn z50.Point.Re]) D142 4 rfl e144 rfl rfl rfl rfl U36 zVc rfl rfl rfl rfl (λ_=>rfl) (⟨rfl,trivial⟩) ?_;intro A144 c144 w144 u144 D144;replace D144:=D144.nq;refine gg 3 rfl ?_;exact K3 (z142,y19,z144,y25,y28,A142,c142,A20,c20,A144,c144,A26,c26,A29,c29) _ _ sA (D144.pk [0,1,2,7,8,9,10,12,13,11,3,4,5,6]) Y
    refine bD Y 5 5 (λh146 Y=>?_) (λh146 Y=>?_)
    ·refine Rn.q rfl (V.ldBA [_,_,_,_,_,_] V40 O40 rfl (D137.get 10 rfl) rfl rfl) ?_;obtain ⟨p147,e147,Y⟩:=zA7 Y
     refine Rn.c2 (cK func131) (zMs (Z0:=All) e147 (show zA2.rep.rel All _ _ _ from ⟨_,_,rfl,⟨rfl,trivial⟩,⟨_,_,rfl,⟨rfl,trivial⟩,⟨_,_,rfl,⟨_,_,rfl,⟨rfl,trivial⟩,⟨_,_,rfl,(zA5 (D137.get 8 rfl)).1,(zA5 (D137.get 8 rfl)).2.1,(zA5 (D137.get 8 rfl)).2.2⟩⟩,⟨_,_,rfl,⟨rfl,trivial⟩,⟨_,_,rfl,(zA5 (D137.get 9 rfl)).1,(zA5 (D137.get 9 rfl)).2.1,(zA5 (D137.get 9 rfl)).2.2⟩⟩⟩⟩⟩) (zAw (D137.get 6 rfl)) :) λA147_0_0 c147_0_0 w147 Q147=>?_
     have D149:=D137.callF (flC (zAm (zD3 _) _ _ _ _) fl0) Q147;replace D149:=D149.nq;obtain ⟨z150,e150,Y⟩:=zA7 Y;refine Rn.appH D149 11 rfl e150 rfl rfl rfl U91 el3 rfl rfl rfl rfl (D149.srcO 14 rfl) ?_;intro A150 c150 w150 D150;replace D150:=D150.nq;refine gg 5 rfl (Rn.q rfl (V.ldBA [_,_,_,_,_,_] V40 O40 rfl (D150.get 10 rfl) rfl rfl) ?_);obtain ⟨z152,e152,Y⟩:=zA7 Y;refine Rn.pushH (z:=z50.Point.Hist) (vs:=[iv z50.Point.Hist.Scale,zAn z50.Point.Hist.Zero,iv z50.Point.Hist.Pos.Offset,.slice Ar53 (z50.Point.Hist.Pos.Counts).length cr53,iv z50.Point.Hist.Neg.Offset,.slice Ar55 (z50.Point.Hist.Neg.Counts).length cr55]) D150 6 rfl e152 rfl rfl rfl rfl U97 el40 rfl rfl rfl rfl (λ_=>rfl) (⟨_,_,rfl,⟨rfl,trivial⟩,⟨_,_,rfl,⟨rfl,trivial⟩,⟨_,_,rfl,⟨_,_,rfl,⟨rfl,trivial⟩,⟨_,_,rfl,(D150.get 8 rfl).1,(D150.get 8 rfl).2.1,(D150.get 8 rfl).2.2⟩⟩,⟨_,_,rfl,⟨rfl,trivial⟩,⟨_,_,rfl,(D150.get 9 rfl).1,(D150.get 9 rfl).2.1,(D150.get 9 rfl).2.2⟩⟩⟩⟩⟩) ?_;intro A152 c152 w152 u152 D152;replace D152:=D152.nq;refine gg 3 rfl ?_;exact K3 (z150,y19,y22,y25,z152,A150,c150,A20,c20,A23,c23,A26,c26,A152,c152) _ _ sA (D152.pk [0,1,2,7,8,9,10,12,13,11,3,4,5,6]) Y
    refine bD Y 5 2 (λh154 Y=>?_) (λh154 Y=>?_)
    ·refine Rn.q rfl (V.ldB V35 rfl (D137.get 10 rfl) rfl) ?_;obtain ⟨p155,e155,Y⟩:=zA7 Y
     refine Rn.c2 (cK func130) (zFp (Z0:=All) e155 (zAw (D137.get 4 rfl)) :) λA155_0_0 c155_0_0 w155 Q155=>?_
     have D157:=D137.callF (flC (zAm (zD3 _) _ _ _ _) fl0) Q155;replace D157:=D157.nq;obtain ⟨z158,e158,Y⟩:=zA7 Y;refine Rn.appH D157 11 rfl e158 rfl rfl rfl U91 el3 rfl rfl rfl rfl (D157.srcO 14 rfl) ?_;intro A158 c158 w158 D158;replace D158:=D158.nq;refine gg 6 rfl (Rn.q rfl (V.ldB V35 rfl (D158.get 10 rfl) rfl) ?_);obtain ⟨z160,e160,Y⟩:=zA7 Y;refine Rn.pushH (z:=z50.Point.Re) (vs:=[zAn z50.Point.Re]) D158 4 rfl e160 rfl rfl rfl rfl U36 zVc rfl rfl rfl rfl (λ_=>rfl) (⟨rfl,trivial⟩) ?_;intro A160 c160 w160 u160 D160;replace D160:=D160.nq;refine gg 7 rfl (Rn.q rfl (V.ldB V35 rfl (D160.get 10 rfl) rfl) ?_);obtain ⟨p162,e162,Y⟩:=zA7 Y
     refine Rn.c2 (cK func130) (zFp (Z0:=All) e162 (zAw (D160.get 5 rfl)) :) λA162_0_0 c162_0_0 w162 Q162=>?_
     have D164:=D160.callF (flC (zAm (zD3 _) _ _ _ _) fl0) Q162;replace D164:=D164.nq;obtain ⟨z165,e165,Y⟩:=zA7 Y;refine Rn.appH D164 11 rfl e165 rfl rfl rfl U91 el3 rfl rfl rfl rfl (D164.srcO 15 rfl) ?_;intro A165 c165 w165 D165;replace D165:=D165.nq;refine gg 5 rfl (Rn.q rfl (V.ldB V35 rfl (D165.get 10 rfl) rfl) ?_);obtain ⟨z167,e167,Y⟩:=zA7 Y;refine Rn.pushH (z:=z50.Point.Im) (vs:=[zAn z50.Point.Im]) D165 5 rfl e167 rfl rfl rfl rfl U36 zVc rfl rfl rfl rfl (λ_=>rfl) (⟨rfl,trivial⟩) ?_;intro A167 c167 w167 u167 D167;replace D167:=D167.nq;refine gg 3 rfl ?_;exact K3 (z165,y19,z160,z167,y28,A165,c165,A20,c20,A160,c160,A167,c167,A29,c29) _ _ sA (D167.pk [0,1,2,7,8,9,10,12,13,11,3,4,5,6]) Y
    exact K3 (z108,y19,y22,y25,y28,A108,c108,A20,c20,A23,c23,A26,c26,A29,c29) _ _ sA (D137.pk [0,1,2,7,8,9,10,12,13,11,3,4,5,6]) Y
   intro j4 Y K4;refine bD Y 1 4 (λh169 Y=>?_) (λh169 Y=>?_)
   ·exact K4 (decide (z50.Point.Kind=2)) _ _ sA (D108.pk [0,1,2,3,4,5,6,7,8,9,10,11,12,13]) Y
   exact K4 (decide (z50.Point.Kind=3)) _ _ sA (D108.pk [0,1,2,3,4,5,6,7,8,9,10,11,12,13]) Y
  intro j2 Y K2;refine bD Y 5 1 (λh170 Y=>?_) (λh170 Y=>?_)
  ·refine Rn.q rfl (V.ldB V3 rfl (D96.get 13 rfl) rfl) (gg 1 rfl (Rn.q rfl (V.ldB V3 rfl (D96.get 13 rfl) rfl) (gg 1 rfl ?_)));obtain ⟨p171,e171,Y⟩:=zA7 Y;refine Rn.cq (cK func128) (zEl (Z0:=All) e171 (zAw (D96.get 4 rfl)) :) ?_;rintro _ w171 ⟨F171_0,A171_0,c171_0,rfl,Q171⟩;refine ⟨_,rfl,?_⟩;have D173:=D96.callF (flC (zPo) fl0) Q171;replace D173:=D173.nq;have D175:=D173.freezeRo 24 rfl;obtain ⟨z176,e176,Y⟩:=zA7 Y;refine Rn.appH D175 1 rfl e176 rfl rfl rfl U91 el3 rfl rfl rfl rfl (D175.src 24 rfl) ?_;intro A176 c176 w176 D176;replace D176:=D176.nq;refine gg 5 rfl (Rn.q rfl (V.ldB V3 rfl (D176.get 13 rfl) rfl) (gg 1 rfl (Rn.q rfl (V.ldB V3 rfl (D176.get 13 rfl) rfl) (gg 1 rfl ?_))));obtain ⟨z178,e178,Y⟩:=zA7 Y;refine Rn.pushH (z:=W64 (z50.Point.Time-z50.Point.Start)) (vs:=[iv (W64 (z50.Point.Time-z50.Point.Start))]) D176 4 rfl e178 rfl rfl rfl rfl U91 el3 rfl rfl rfl rfl (λ_=>rfl) (⟨rfl,trivial⟩) ?_;intro A178 c178 w178 u178 D178;replace D178:=D178.nq;refine gg 2 rfl ?_;exact K2 (z176,z178,A176,c176,A178,c178) _ _ sA (D178.pk [0,2,3,5,6,7,8,10,11,12,13,1,4]) Y
  exact K2 (z94,y16,A94,c94,A17,c17) _ _ sA (D96.pk [0,2,3,5,6,7,8,10,11,12,13,1,4]) Y
 exact K1 (y7,A8,c8) _ _ sA (D48.pk [1]) Y
theorem zI7 {x0:Int} {r:UInt64} (Y:zEb x0=some r)  :
 Calls prog 91 #[iv x0] w λx w'=>x=.returned (zAn r)∧Hp Z0 No w w' []:=by
 have D0:=Hp.nil Z0 No w;have hc0:=Calm.nil;refine eg func91 13 ?_;refine Rn.jG D0 Y (G:=UInt64) (λg=>[(3,zAn g)]) (λg=>[]) (λj g=>j g) ?_ ?_
 ·rintro y1 w2 D2 Y
  try dsimp only at Y
  refine gg 5 rfl ?_
  cases Y
  exact Rn.R1 func91 ⟨rfl,D2.pk []⟩
 intro j1 Y K1;refine gg 1 rfl ?_;refine Rn.loopF (G:=UInt64×Int) (λg=>[(0,iv x0),(3,zAn (g.1)),(4,iv (g.2))]) (λg w'=>Hp Z0 No w w' []) (λn g=>zBs x0 j1 n g.1 g.2) fuel ((1:UInt64),0) sA (D0.pk []) Y (λ_=>rfl) ?_;clear Y;rintro m5 ⟨y3,y4⟩ w5 D5 Y N5;replace Y:zBs x0 j1 (m5+1) y3 y4=some r:=Y;rw [zBs] at Y;refine gg 7 rfl ?_;refine bD Y 5 1 (λh6 Y=>?_) (λh6 Y=>?_)
 ·refine Rn.q rfl (V.ari64 (a:=(2:UInt64)) (b:=y3) rfl rfl _ rfl (zMu _ _)) (gg 8 rfl ?_);exact N5 (((2:UInt64)*y3),(W64 (y4+1))) _ _ sA (D5.pk []) Y
 exact K1 y3 _ _ sA (D5.pk []) Y
theorem zL9 {x0:UInt64} {r:Int} (Y:zFj x0=some r)  :
 Calls prog 92 #[zAn x0] w λx w'=>x=.returned (iv r)∧Hp Z0 No w w' []:=by
 have D0:=Hp.nil Z0 No w;have hc0:=Calm.nil;refine eg func92 9 ?_;refine Rn.jG D0 Y (G:=Unit) (λg=>[]) (λg=>[]) (λj g=>j ()) ?_ ?_
 ·rintro _ w1 D1 Y
  try dsimp only at Y
  refine gg 4 rfl ?_
  cases Y
  exact Rn.R1 func92 ⟨rfl,D1.pk []⟩
 intro j1 Y K1;refine gg 1 rfl ?_;refine Rn.loopF (G:=Int) (λg=>[(0,zAn x0),(3,iv g)]) (λg w'=>Hp Z0 No w w' []) (λn g=>zBn x0 j1 n g) fuel 0 sA (D0.pk []) Y (λ_=>rfl) ?_;clear Y;rintro m3 y2 w3 D3 Y N3;replace Y:zBn x0 j1 (m3+1) y2=some r:=Y;rw [zBn] at Y;refine gg 6 rfl ?_;refine bD Y 9 1 (λh4 Y=>?_) (λh4 Y=>?_)
 ·obtain ⟨p5,e5,Y⟩:=zA7 Y
  refine Rn.c0 (cK func91) (zI7 (Z0:=All) e5  :) D3 λw5 _ D6=>?_
  refine Rn.q rfl (V.lss rfl rfl) (gg 1 rfl ?_);refine bD Y 5 7 (λh7 Y=>?_) (λh7 Y=>?_)
  ·cases Y
   exact Rn.R1 func92 ⟨rfl,D6.pk []⟩
  exact N3 (W64 (y2+1)) _ _ sA (D6.pk []) Y
 exact K1 () _ _ (sb trivial) (D3.pk []) Y
theorem zH0 {x0:UInt64} {r:(List UInt8)} (Y:zE x0=some r)  :
 Calls prog 72 #[zAn x0] w λx w'=>∃ A_0_0 c_0_0,x=.returned (.slice A_0_0 (r).length c_0_0)∧Hp Z0 No w w' [zAy 5 A_0_0 c_0_0 zBu r]:=by
 have D0:=Hp.nil Z0 No w;have hc0:=Calm.nil;refine eg func72 7 ?_;obtain ⟨p1,e1,Y⟩:=zA7 Y
 refine Rn.c0 (cK func92) (zL9 (Z0:=All) e1  :) D0 λw1 _ D2=>?_
 refine gg 11 rfl ?_;refine Rn.jG D0 Y (G:=UInt64×(List UInt8)×Option Addr×Nat) (λg=>[(0,zAn (g.1)),(3,iv p1),(4,.slice (g.2.2.1) ((g.2.1)).length (g.2.2.2))]) (λg=>[zAy 5 (g.2.2.1) (g.2.2.2) zBu (g.2.1)]) (λj g=>j g.1 g.2.1) ?_ ?_
 ·rintro ⟨y3,y4,A5,c5⟩ w7 D7 Y
  try dsimp only at Y
  refine gg 9 rfl ?_;refine Rn.jG D0 Y (G:=Int) (λg=>[(0,zAn y3),(3,iv p1),(4,.slice A5 (y4).length c5),(6,iv g)]) (λg=>[zAy 5 A5 c5 zBu y4]) (λj g=>j g) ?_ ?_
  ·rintro y8 w9 D9 Y
   try dsimp only at Y
   refine gg 6 rfl ?_;refine Rn.jG D0 Y (G:=Int) (λg=>[(4,.slice A5 (y4).length c5),(6,iv g)]) (λg=>[zAy 5 A5 c5 zBu y4]) (λj g=>j g) ?_ ?_
   ·rintro y10 w11 D11 Y
    try dsimp only at Y
    refine gg 3 rfl (Rn.q rfl (V.cv8 U3 U5 rfl) (Rn.bslS rfl rfl rfl U22 el5 rfl rfl rfl rfl (by first|exact szs rfl|(simp [Value.cells];done)) (by decide) ?_));intro b12 w12 hb12 m12 e12;have D13:=D11.addLit (rep:=zBu) (xs:=([toU8 y10]:List UInt8)) (vss:=[[u8v (toU8 y10)]]) hb12 e12 m12 rfl rfl rfl ((zCr (λ_ _=>⟨rfl,trivial⟩) zO4));refine gg 1 rfl ?_;obtain ⟨z15,e15,Y⟩:=zA7 Y;refine Rn.appH D13 1 rfl e15 rfl rfl rfl U22 el5 rfl rfl rfl rfl (D13.srcO 0 rfl) ?_;intro A15 c15 w15 D15;refine gg 2 rfl ?_
    cases Y
    exact Rn.R1 func72 ⟨A15,c15,rfl,D15.pk [1]⟩
   intro j3 Y K3;refine bD Y 3 1 (λh17 Y=>?_) (λh17 Y=>?_)
   ·refine Rn.q rfl (V.cvW U35 U3 rfl) (gg 3 rfl ?_);exact K3 (W64 (y8+(W64 ((y3).toNat:Int)))) _ _ sA (D9.pk [0]) Y
   exact K3 y8 _ _ sA (D9.pk [0]) Y
  intro j2 Y K2;refine gg 1 rfl ?_;refine Rn.loopF (G:=Int×Int) (λg=>[(0,zAn y3),(3,iv p1),(4,.slice A5 (y4).length c5),(6,iv (g.1)),(7,iv (g.2))]) (λg w'=>Hp Z0 No w w' [zAy 5 A5 c5 zBu y4]) (λn g=>zC6 p1 j2 n g.1 g.2) fuel (0,0) sA (D7.pk [0]) Y (λ_=>rfl) ?_;clear Y;rintro m20 ⟨y18,y19⟩ w20 D20 Y N20;replace Y:zC6 p1 j2 (m20+1) y18 y19=some r:=Y;rw [zC6] at Y;refine gg 7 rfl ?_;refine bD Y 6 1 (λh21 Y=>?_) (λh21 Y=>?_)
  ·obtain ⟨p22,e22,Y⟩:=zA7 Y
   refine Rn.c0 (cK func91) (zI7 (Z0:=All) e22  :) D20 λw22 _ D23=>?_
   refine Rn.q rfl (V.cvW U35 U3 rfl) ?_;obtain ⟨z24,e24,Y⟩:=zA7 Y;refine Rn.q rfl (V.quoZ rfl rfl e24) (gg 9 rfl ?_);exact N20 ((W64 (y18+z24)),(W64 (y19+1))) _ _ sA (D23.pk [0]) Y
  exact K2 y18 _ _ sA (D20.pk [0]) Y
 intro j1 Y K1;refine gg 1 rfl ?_;have D30:=D2.addNil 5 zBu;refine Rn.loopF (G:=UInt64×(List UInt8)×Int×Option Addr×Nat) (λg=>[(0,zAn (g.1)),(3,iv p1),(4,.slice (g.2.2.2.1) ((g.2.1)).length (g.2.2.2.2)),(5,iv (g.2.2.1))]) (λg w'=>Hp Z0 No w w' [zAy 5 (g.2.2.2.1) (g.2.2.2.2) zBu (g.2.1)]) (λn g=>zC5 p1 j1 n g.1 g.2.1 g.2.2.1) fuel (x0,([]:List UInt8),0,none,0) sA (D30.pk [0]) Y (λ_=>rfl) ?_;clear Y;rintro m32 ⟨y25,y26,y29,A27,c27⟩ w32 D32 Y N32;replace Y:zC5 p1 j1 (m32+1) y25 y26 y29=some r:=Y;rw [zC5] at Y;refine gg 7 rfl ?_;refine bD Y 6 1 (λh33 Y=>?_) (λh33 Y=>?_)
 ·obtain ⟨z34,e34,Y⟩:=zA7 Y;refine Rn.q rfl (V.rem64 rfl rfl e34) (Rn.q rfl (V.cv8 U35 U5 rfl) (Rn.bslS rfl rfl rfl U22 el5 rfl rfl rfl rfl (by first|exact szs rfl|(simp [Value.cells];done)) (by decide) ?_));intro b35 w35 hb35 m35 e35;have D36:=D32.addLit (rep:=zBu) (xs:=([toU8 ((z34).toNat:Int)]:List UInt8)) (vss:=[[u8v (toU8 ((z34).toNat:Int))]]) hb35 e35 m35 rfl rfl rfl ((zCr (λ_ _=>⟨rfl,trivial⟩) zO4));refine gg 1 rfl ?_;obtain ⟨z38,e38,Y⟩:=zA7 Y;refine Rn.appH D36 1 rfl e38 rfl rfl rfl U22 el5 rfl rfl rfl rfl (D36.srcO 0 rfl) ?_;intro A38 c38 w38 D38;refine gg 4 rfl ?_;obtain ⟨z40,e40,Y⟩:=zA7 Y;refine Rn.q rfl (V.quo64 rfl rfl e40) (gg 8 rfl ?_);exact N32 (z40,z38,(W64 (y29+1)),A38,c38) _ _ sA (D38.pk [1]) Y
 exact K1 (y25,y26,A27,c27) _ _ sA (D32.pk [0]) Y
theorem zMb {x0:(List UInt8)} {r:(List UInt8)} (Y:zGl x0=some r)  :
 Calls prog 71 #[Str (x0)] w λx w'=>∃ A_0_0 c_0_0,x=.returned (.slice A_0_0 (r).length c_0_0)∧Hp Z0 No w w' [zAy 5 A_0_0 c_0_0 zBu r]:=by
 have D0:=Hp.nil Z0 No w;have hc0:=Calm.nil;refine eg func71 7 ?_;refine Rn.q rfl (V.lenS U9 rfl) (Rn.q rfl (V.cv64 U3 U35 rfl) ?_);obtain ⟨p1,e1,Y⟩:=zA7 Y
 refine Rn.c2 (cK func72) (zH0 (Z0:=All) e1  :) λA1_0_0 c1_0_0 w1 Q1=>?_
 have D3:=D0.callF (flC (zAm zEj _ _ _ _) fl0) Q1;refine gg 1 rfl ?_;obtain ⟨z4,e4,Y⟩:=zA7 Y;refine Rn.appSH D3 0 rfl e4 rfl rfl rfl U22 U9 el5 rfl rfl rfl ?_;intro A4 c4 w4 D4;refine gg 2 rfl ?_
 cases Y
 exact Rn.R1 func71 ⟨A4,c4,rfl,D4.pk [0]⟩
theorem zLw {x0:(List Int)} {r:(List UInt8)} (Y:zFx x0=some r) (f0:(slR A0 c0 (zFe .i64) x0).H Z0 w) :
 Calls prog 73 #[.slice A0 (x0).length c0] w λx w'=>∃ A_0_0 c_0_0,x=.returned (.slice A_0_0 (r).length c_0_0)∧Hp Z0 No w w' [zAy 5 A_0_0 c_0_0 zBu r]:=by
 obtain ⟨D0,D2,hc0⟩:=knA f0;refine eg func73 13 ?_;refine Rn.jG D0 Y (G:=(List UInt8)×Option Addr×Nat) (λg=>[(3,.slice (g.2.1) ((g.1)).length (g.2.2))]) (λg=>[zAy 5 (g.2.1) (g.2.2) zBu (g.1)]) (λj g=>j g.1) ?_ ?_
 ·rintro ⟨y3,A4,c4⟩ w6 D6 Y
  try dsimp only at Y
  refine gg 5 rfl ?_
  cases Y
  exact Rn.R1 func73 ⟨A4,c4,rfl,D6.pk [0]⟩
 intro j1 Y K1;refine gg 1 rfl ?_;have D11:=D2.addNil 5 zBu;refine Rn.loopF (G:=(List UInt8)×Int×Option Addr×Nat) (λg=>[(0,.slice A0 (x0).length c0),(3,.slice (g.2.2.1) ((g.1)).length (g.2.2.2)),(4,iv (g.2.1))]) (λg w'=>Hp Z0 No w w' [slR A0 c0 (zFe .i64) x0,zAy 5 (g.2.2.1) (g.2.2.2) zBu (g.1)]) (λn g=>zBh x0 j1 n g.1 g.2.1) fuel (([]:List UInt8),0,none,0) sA (D11.pk [0,1]) Y (λ_=>rfl) ?_;clear Y;rintro m13 ⟨y7,y10,A8,c8⟩ w13 D13 Y N13;replace Y:zBh x0 j1 (m13+1) y7 y10=some r:=Y;rw [zBh] at Y;refine gg 5 rfl (Rn.q rfl (V.lenV U91 rfl) (gg 2 rfl ?_));refine bD Y 12 1 (λh14 Y=>?_) (λh14 Y=>?_)
 ·refine Rn.jG D0 Y (G:=Int) (λg=>[(0,.slice A0 (x0).length c0),(3,.slice A8 (y7).length c8),(4,iv y10),(5,iv g)]) (λg=>[slR A0 c0 (zFe .i64) x0,zAy 5 A8 c8 zBu y7]) (λj g=>j g) ?_ ?_
  ·rintro y15 w16 D16 Y
   try dsimp only at Y
   refine gg 3 rfl (Rn.q rfl (V.cv8 U3 U5 rfl) ?_);obtain ⟨z17,e17,Y⟩:=zA7 Y;refine Rn.pushH (z:=toU8 y15) (vs:=[u8v (toU8 y15)]) D16 1 rfl e17 rfl rfl rfl rfl U22 el5 rfl rfl rfl rfl (λ_=>rfl) (⟨rfl,trivial⟩) ?_;intro A17 c17 w17 u17 D17;refine gg 8 rfl ?_;exact N13 (z17,(W64 (y10+8)),A17,c17) _ _ sA (D17.pk [0,1]) Y
  intro j2 Y K2;refine gg 1 rfl ?_;refine Rn.loopF (G:=Int×Int) (λg=>[(0,.slice A0 (x0).length c0),(3,.slice A8 (y7).length c8),(4,iv y10),(5,iv (g.1)),(6,iv (g.2))]) (λg w'=>Hp Z0 No w w' [slR A0 c0 (zFe .i64) x0,zAy 5 A8 c8 zBu y7]) (λn g=>zBt x0 y10 j2 n g.1 g.2) fuel (0,0) sA (D13.pk [0,1]) Y (λ_=>rfl) ?_;clear Y;rintro m21 ⟨y19,y20⟩ w21 D21 Y N21;replace Y:zBt x0 y10 j2 (m21+1) y19 y20=some r:=Y;rw [zBt] at Y;refine gg 6 rfl ?_;refine bD Y 2 1 (λh22 Y=>?_) (λh22 Y=>?_)
  ·refine Rn.jG D0 Y (G:=Int) (λg=>[(0,.slice A0 (x0).length c0),(3,.slice A8 (y7).length c8),(4,iv y10),(5,iv g),(6,iv y20)]) (λg=>[slR A0 c0 (zFe .i64) x0,zAy 5 A8 c8 zBu y7]) (λj g=>j g) ?_ ?_
   ·rintro y23 w24 D24 Y
    try dsimp only at Y
    refine gg 5 rfl ?_;exact N21 (y23,(W64 (y20+1))) _ _ sA (D24.pk [0,1]) Y
   intro j3 Y K3;refine gg 13 rfl (Rn.q rfl (V.lenV U91 rfl) (gg 2 rfl ?_));refine bD Y 6 2 (λh25 Y=>?_) (λh25 Y=>?_)
   ·obtain ⟨z26,e26,Y⟩:=zA7 Y;refine Rn.ixH D21 0 rfl e26 rfl rfl rfl U91 O3 rfl rfl rfl rfl ?_;rintro b26 o26 vs26 ⟨rfl,_⟩ D26;refine Rn.q rfl (V.ldR0 V3 rfl (D26.get 2 rfl).2 rfl) (gg 4 rfl ?_);exact K3 (W64 ((W64 (2*y19))+z26)) _ _ sA (D26.pk [0,1]) Y
   exact K3 (W64 (2*y19)) _ _ sA (D21.pk [0,1]) Y
  exact K2 y19 _ _ sA (D21.pk [0,1]) Y
 exact K1 (y7,A8,c8) _ _ sA (D13.pk [1]) Y
theorem zLn {x0:(List UInt8)} {x1:(List zAc)} {r:(List UInt8)} (Y:zE6 x0 x1=some r) (f0:(slR A1 c1 zAc.rep x1).H Z0 w) :
 Calls prog 29 #[Str (x0),.slice A1 (x1).length c1] w λx w'=>∃ F_0 A_0 c_0,x=.returned (.slice A_0 (r).length c_0)∧Hp Z0 No w w' [roR F_0 A_0 c_0 zBu r]:=by
 obtain ⟨D0,D2,hc0⟩:=knA f0;refine eg func29 7 ?_;obtain ⟨p3,e3,Y⟩:=zA7 Y
 refine Rn.c2 (cK func70) (zM4 (Z0:=All) e3 (zA5 (D2.get 0 rfl)) :) λA3_0_0 c3_0_0 w3 Q3=>?_
 have D5:=D2.callF (flC (zAm (zD3 _) _ _ _ _) fl0) Q3;refine gg 3 rfl ?_;refine Rn.drawH rfl D5 ?_;intro w6 D6;refine dq [0,3] ?_;refine RH.tk 4 rfl (λw' hDr=>V.lenV U24 rfl) ?_;refine RH.tk 5 rfl (λw' hDr=>V.cv64 U3 U35 rfl) ?_;refine dq [9] ?_;refine RH.tk 10 rfl (λw' hDr=>V.lenV U91 rfl) ?_;refine RH.tk 11 rfl (λw' hDr=>V.cv64 U3 U35 rfl) ?_;refine dq [15] ?_;obtain ⟨p7,e7,Y⟩:=zA7 Y;refine RH.cq (cK func71) 1 (zMb (Z0:=All) e7  :) ?_;rintro _ w7 ⟨A7_0_0,c7_0_0,rfl,Q7⟩;refine ⟨_,rfl,((Ext.refl _).trans Q7.fr),?_⟩;have D9:=D6.callF (flC (zAm zEj _ _ _ _) fl0) Q7;refine RG.str (S1:=λw'=>Ext w7 w') (λ_ hh=>((Ext.refl _).trans Q7.fr).trans hh) (Ext.refl _) ?_;refine RH.tk 2 rfl (λw' hDr=>V.b2s U22 U9 U5 rfl rfl (Own.sl ((D9.ext hDr).get 2 rfl))) ?_;obtain ⟨p10,e10,Y⟩:=zA7 Y;refine RH.cq (cK func72) 6 (zH0 (Z0:=All) e10  :) ?_;rintro _ w10 ⟨A10_0_0,c10_0_0,rfl,Q10⟩;refine ⟨_,rfl,((Ext.refl _).trans Q10.fr),?_⟩;have D12:=D9.callF (flC (zAm zEj _ _ _ _) fl0) Q10;refine RG.str (S1:=λw'=>Ext w10 w') (λ_ hh=>((Ext.refl _).trans Q10.fr).trans hh) (Ext.refl _) ?_;refine RH.tk 7 rfl (λw' hDr=>V.b2s U22 U9 U5 rfl rfl (Own.sl ((D12.ext hDr).get 3 rfl))) ?_;obtain ⟨z13,e13,Y⟩:=zA7 Y;refine RH.tk 8 rfl (λw' hDr=>V.catZ rfl rfl e13) ?_;obtain ⟨p14,e14,Y⟩:=zA7 Y;refine RH.cq (cK func72) 12 (zH0 (Z0:=All) e14  :) ?_;rintro _ w14 ⟨A14_0_0,c14_0_0,rfl,Q14⟩;refine ⟨_,rfl,((Ext.refl _).trans Q14.fr),?_⟩;have D16:=D12.callF (flC (zAm zEj _ _ _ _) fl0) Q14;refine RG.str (S1:=λw'=>Ext w14 w') (λ_ hh=>((Ext.refl _).trans Q14.fr).trans hh) (Ext.refl _) ?_;refine RH.tk 13 rfl (λw' hDr=>V.b2s U22 U9 U5 rfl rfl (Own.sl ((D16.ext hDr).get 4 rfl))) ?_;obtain ⟨z17,e17,Y⟩:=zA7 Y;refine RH.tk 14 rfl (λw' hDr=>V.catZ rfl rfl e17) ?_;obtain ⟨p18,e18,Y⟩:=zA7 Y;refine RH.cq (cK func73) 16 (zLw (Z0:=All) e18 (zAw (D16.get 1 rfl)) :) ?_;rintro _ w18 ⟨A18_0_0,c18_0_0,rfl,Q18⟩;refine ⟨_,rfl,((Ext.refl _).trans Q18.fr),?_⟩;have D20:=D16.callF (flC (zAm zEj _ _ _ _) fl0) Q18;refine RH.ho 17 rfl (V.b2s U22 U9 U5 rfl rfl (Own.sl (D20.get 5 rfl))) ?_;obtain ⟨z21,e21,Y⟩:=zA7 Y;refine RH.ho 18 rfl (V.catZ rfl rfl e21) ?_;refine dq [19] ?_;refine RH.dn ?_;refine gg 3 rfl ?_;obtain ⟨z22,e22,Y⟩:=zA7 Y;refine Rn.s2bRo D20 e22 rfl rfl rfl U9 U22 U5 rfl ?_;intro F22 A22 c22 w22 D22;refine gg 2 rfl ?_
 cases Y
 exact Rn.R1 func29 ⟨F22,A22,c22,rfl,D22.pk [6]⟩
theorem zMq {x0:(List UInt8)} {x1:(List zAc)} {x2:Int} {x3:zAc} {r:Int} (Y:zGu x0 x1 x2 x3=some r) (h3:zAc.rep.rel Z0 w cs3 x3) (f0:(slR A1 c1 zAc.rep x1).H Z0 w) :
 Calls prog 16 #[Str (x0),.slice A1 (x1).length c1,iv x2,.agg cs3.toArray] w λx w'=>x=.returned (iv r)∧Hp Z0 No w w' []:=by
 have D0:=Hp.nil Z0 No w;have hc0:=Calm.nil;obtain ⟨Ar2,cr2,Ar4,cr4,Ar6,cr6,rfl,fs2,fs4,fs6⟩:=zAc.relE h3;obtain ⟨D8,hc0⟩:=D0.kn (r:=slR Ar2 cr2 zA0.rep x3.Point.Attrs) hc0 fs2;obtain ⟨D9,hc0⟩:=D8.kn (r:=slR Ar4 cr4 zAq x3.Point.Hist.Pos.Counts) hc0 fs4;obtain ⟨D10,hc0⟩:=D9.kn (r:=slR Ar6 cr6 zAq x3.Point.Hist.Neg.Counts) hc0 fs6;obtain ⟨D11,hc0⟩:=D10.kn hc0 f0;refine eg func16 2 ?_;refine Rn.box rfl rfl rfl rfl rfl ?_;intro b12 w12 hb12 m12 e12;have D14:=(D11.addBox hb12 e12 m12).nf [_,_,_,_,zAi _ _ [_,_,_,_,_,_,_,_,_,_,_,_,_,_,_,_,_,_]] rfl;refine gg 5 rfl (Rn.q rfl (V.ldBA [_,_,_,_,_,_,_,_,_,_,_,_,_,_,_,_,_] V42 O42 rfl (D14.get 4 rfl) rfl rfl) ?_);obtain ⟨p15,e15,Y⟩:=zA7 Y
 refine Rn.c0 (cK func15) (zIs (Z0:=All) e15 (show zA8.rep.rel All _ _ _ from ⟨_,_,rfl,⟨rfl,trivial⟩,⟨_,_,rfl,⟨_,_,rfl,(zA5 (D14.get 0 rfl)).1,(zA5 (D14.get 0 rfl)).2.1,(zA5 (D14.get 0 rfl)).2.2⟩,⟨_,_,rfl,⟨rfl,trivial⟩,⟨_,_,rfl,⟨rfl,trivial⟩,⟨_,_,rfl,⟨rfl,trivial⟩,⟨_,_,rfl,⟨rfl,trivial⟩,⟨_,_,rfl,⟨rfl,trivial⟩,⟨_,_,rfl,⟨rfl,trivial⟩,⟨_,_,rfl,⟨rfl,trivial⟩,⟨_,_,rfl,⟨rfl,trivial⟩,⟨_,_,rfl,⟨_,_,rfl,⟨rfl,trivial⟩,⟨_,_,rfl,⟨rfl,trivial⟩,⟨_,_,rfl,⟨_,_,rfl,⟨rfl,trivial⟩,⟨_,_,rfl,(zA5 (D14.get 1 rfl)).1,(zA5 (D14.get 1 rfl)).2.1,(zA5 (D14.get 1 rfl)).2.2⟩⟩,⟨_,_,rfl,⟨rfl,trivial⟩,⟨_,_,rfl,(zA5 (D14.get 2 rfl)).1,(zA5 (D14.get 2 rfl)).2.1,(zA5 (D14.get 2 rfl)).2.2⟩⟩⟩⟩⟩,⟨rfl,trivial⟩⟩⟩⟩⟩⟩⟩⟩⟩⟩⟩⟩) :) D14 λw15 _ D16=>?_
 refine gg 12 rfl ?_;refine bD Y 5 6 (λh17 Y=>?_) (λh17 Y=>?_)
 ·cases Y
  exact Rn.R1 func16 ⟨rfl,D16.pk []⟩
 refine Rn.q rfl (V.neqS rfl rfl) (gg 1 rfl ?_);refine bD Y 4 5 (λh18 Y=>?_) (λh18 Y=>?_)
 ·cases Y
  exact Rn.R1 func16 ⟨rfl,D16.pk []⟩
 refine Rn.q rfl (V.ldB V3 rfl (D16.get 4 rfl) rfl) (gg 2 rfl ?_);refine Rn.cutR [] [(0,Str (x0)),(1,.slice A1 (x1).length c1),(2,iv x2),(7,pt b12 0),(32,.bool (decide ((x3.Ord<0)∨(x3.Ord>4503599627370496))))] (λK19=>?_) ?_
 ·refine Rn.partD (t:=28) rfl (λh20=>?_) (λh20=>?_)
  ·refine gg 4 rfl ?_;exact K19 _ sA
  refine gg 1 rfl (Rn.q rfl (V.ldB V3 rfl (D16.get 4 rfl) rfl) (gg 2 rfl ?_));exact K19 _ sA
 refine gg 1 rfl ?_;refine bD Y 4 5 (λh21 Y=>?_) (λh21 Y=>?_)
 ·cases Y
  exact Rn.R1 func16 ⟨rfl,D16.pk []⟩
 refine Rn.q rfl (V.lenV U24 rfl) (gg 3 rfl ?_);refine Rn.jG D0 Y (G:=Bool) (λg=>[(0,Str (x0)),(1,.slice A1 (x1).length c1),(2,iv x2),(7,pt b12 0),(47,.bool (g))]) (λg=>[slR Ar2 cr2 zA0.rep x3.Point.Attrs,slR Ar4 cr4 zAq x3.Point.Hist.Pos.Counts,slR Ar6 cr6 zAq x3.Point.Hist.Neg.Counts,slR A1 c1 zAc.rep x1,zAi b12 44 [iv x3.Ord,Str (x3.Point.Name),.slice Ar2 (x3.Point.Attrs).length cr2,iv x3.Point.Kind,iv x3.Point.Temp,.bool (x3.Point.Mono),iv x3.Point.Start,iv x3.Point.Time,iv x3.Point.Int_,zAn x3.Point.Re,zAn x3.Point.Im,iv x3.Point.Hist.Scale,zAn x3.Point.Hist.Zero,iv x3.Point.Hist.Pos.Offset,.slice Ar4 (x3.Point.Hist.Pos.Counts).length cr4,iv x3.Point.Hist.Neg.Offset,.slice Ar6 (x3.Point.Hist.Neg.Counts).length cr6,iv x3.Point.Flags]]) (λj g=>j g) ?_ ?_
 ·rintro y22 w23 D23 Y
  try dsimp only at Y
  refine bS Y 4 5 (λh24 Y=>?_) (λh24 Y=>?_)
  ·cases Y
   exact Rn.R1 func16 ⟨rfl,D23.pk []⟩
  refine Rn.q rfl (V.lenV U24 rfl) (gg 2 rfl ?_);refine bD Y 4 9 (λh25 Y=>?_) (λh25 Y=>?_)
  ·cases Y
   exact Rn.R1 func16 ⟨rfl,D23.pk []⟩
  have D27:=D23.addNil 44 zAc.rep;obtain ⟨z26,e26,Y⟩:=zA7 Y;refine Rn.appH D27 5 rfl e26 rfl rfl rfl U24 zh4 rfl rfl rfl rfl (D27.src 3 rfl) ?_;intro A26 c26 w26 D26;refine gg 7 rfl (Rn.q rfl (V.ldBA [_,_,_,_,_,_,_,_,_,_,_,_,_,_,_,_,_,_] V44 O44 rfl (D26.get 4 rfl) rfl rfl) ?_);obtain ⟨z30,e30,Y⟩:=zA7 Y;refine Rn.pushH (z:=x3) (vs:=[iv x3.Ord,Str (x3.Point.Name),.slice Ar2 (x3.Point.Attrs).length cr2,iv x3.Point.Kind,iv x3.Point.Temp,.bool (x3.Point.Mono),iv x3.Point.Start,iv x3.Point.Time,iv x3.Point.Int_,zAn x3.Point.Re,zAn x3.Point.Im,iv x3.Point.Hist.Scale,zAn x3.Point.Hist.Zero,iv x3.Point.Hist.Pos.Offset,.slice Ar4 (x3.Point.Hist.Pos.Counts).length cr4,iv x3.Point.Hist.Neg.Offset,.slice Ar6 (x3.Point.Hist.Neg.Counts).length cr6,iv x3.Point.Flags]) D26 5 rfl e30 rfl rfl rfl rfl U24 zh4 rfl rfl rfl rfl (λ_=>rfl) (⟨_,_,rfl,⟨rfl,trivial⟩,⟨_,_,rfl,⟨rfl,trivial⟩,⟨_,_,rfl,⟨_,_,rfl,(D26.get 0 rfl).1,(D26.get 0 rfl).2.1,(D26.get 0 rfl).2.2⟩,⟨_,_,rfl,⟨rfl,trivial⟩,⟨_,_,rfl,⟨rfl,trivial⟩,⟨_,_,rfl,⟨rfl,trivial⟩,⟨_,_,rfl,⟨rfl,trivial⟩,⟨_,_,rfl,⟨rfl,trivial⟩,⟨_,_,rfl,⟨rfl,trivial⟩,⟨_,_,rfl,⟨rfl,trivial⟩,⟨_,_,rfl,⟨rfl,trivial⟩,⟨_,_,rfl,⟨_,_,rfl,⟨rfl,trivial⟩,⟨_,_,rfl,⟨rfl,trivial⟩,⟨_,_,rfl,⟨_,_,rfl,⟨rfl,trivial⟩,⟨_,_,rfl,(D26.get 1 rfl).1,(D26.get 1 rfl).2.1,(D26.get 1 rfl).2.2⟩⟩,⟨_,_,rfl,⟨rfl,trivial⟩,⟨_,_,rfl,(D26.get 2 rfl).1,(D26.get 2 rfl).2.1,(D26.get 2 rfl).2.2⟩⟩⟩⟩⟩,⟨rfl,trivial⟩⟩⟩⟩⟩⟩⟩⟩⟩⟩⟩⟩⟩) ?_;intro A30 c30 w30 u30 D30;obtain ⟨p32,e32,Y⟩:=zA7 Y;refine Rn.cq (cK func29) (zLn (Z0:=All) e32 (zAw (D30.get 5 rfl)) :) ?_;rintro _ w32 ⟨F32_0,A32_0,c32_0,rfl,Q32⟩;refine ⟨_,rfl,?_⟩;have D34:=D30.callF (flC (zPo) fl0) Q32;have D36:=D34.freezeRo 6 rfl;refine Rn.q rfl (V.lenV U22 rfl) (gg 3 rfl ?_);refine bD Y 4 5 (λh37 Y=>?_) (λh37 Y=>?_)
  ·cases Y
   exact Rn.R1 func16 ⟨rfl,D36.pk []⟩
  cases Y
  exact Rn.R1 func16 ⟨rfl,D36.pk []⟩
 intro j1 Y K1;refine Rn.drawP rfl D16 ?_;intro w38 D38;refine dq [0,1,2] ?_;refine zKs Y (RH.partD (t:=37) rfl) (λh39 Y=>?_) (λh39 Y=>?_)
 ·refine dq [3] ?_;refine RH.tp 4 rfl (V.ldB V3 rfl (D38.get 4 rfl) rfl) ?_;refine dq [5,6,7] ?_;obtain ⟨z40,e40,Y⟩:=zA7 Y;obtain ⟨kk40,ke40,kz40,kl40⟩:=zJb e40;obtain ⟨b40,o40,vs40,hA40,hD40,hR40,hrel40⟩:=Hp.at D38 3 rfl kz40;obtain ⟨Ar41,cr41,Ar43,cr43,Ar45,cr45,rfl,fs41,fs43,fs45⟩:=zAc.relE hrel40;have D48:=Hp.knowL [rdR b40 (o40+kk40*18) [iv z40.Ord,Str (z40.Point.Name),.slice Ar41 (z40.Point.Attrs).length cr41,iv z40.Point.Kind,iv z40.Point.Temp,.bool (z40.Point.Mono),iv z40.Point.Start,iv z40.Point.Time,iv z40.Point.Int_,zAn z40.Point.Re,zAn z40.Point.Im,iv z40.Point.Hist.Scale,zAn z40.Point.Hist.Zero,iv z40.Point.Hist.Pos.Offset,.slice Ar43 (z40.Point.Hist.Pos.Counts).length cr43,iv z40.Point.Hist.Neg.Offset,.slice Ar45 (z40.Point.Hist.Neg.Counts).length cr45,iv z40.Point.Flags],slR Ar41 cr41 zA0.rep z40.Point.Attrs,slR Ar43 cr43 zAq z40.Point.Hist.Pos.Counts,slR Ar45 cr45 zAq z40.Point.Hist.Neg.Counts] _ D38 (knC (λ_ h=>h) ⟨λ_=>hD40,hR40⟩ (knC (λ_ h=>h) fs41 (knC (λ_ h=>h) fs43 (knC (λ_ h=>h) fs45 kn0))));refine RH.tp 8 rfl (V.ixA' hA40 kk40 U24 O44 rfl rfl ke40 kl40) ?_;refine dq [9] ?_;refine RH.tp 10 rfl (V.ldR0 V3 rfl (D48.get 5 rfl).2 rfl) ?_;refine dq [11,12] ?_;refine RH.dn ?_;exact K1 (decide (x3.Ord≤z40.Ord)) _ _ sA (D48.pk [0,1,2,3,4]) Y
 refine dq [3,4,5,6,7,8,9,10,11,12] ?_;refine RH.dn ?_;exact K1 false _ _ sA (D38.pk [0,1,2,3,4]) Y
theorem m_pack_NewReader_s2_sim {x0:(List UInt8)} {r:(zAb×(List UInt8))} (Y:zHi x0=some r) (hL:zKt Z0 w [zAy 5 A0 c0 zBu x0]) :
 Calls prog 31 #[.slice A0 (x0).length c0] w λx w'=>∃ F_0 b_0,x=.returned (pt b_0 0)∧Hp Z0 (LS [zAy 5 A0 c0 zBu x0]) w w' [zAb.obj F_0 b_0 r.1,zAy 5 A0 c0 zBu r.2]∧(r.2).length=(x0).length:=by
 have D0:=hL.start;refine eg func31 7 ?_;obtain ⟨p2,e2,Y⟩:=zA7 Y
 refine Rn.c2 (cK func75) (zG5 (Z0:=All) e2 (zAw (D0.get 0 rfl)) :) λA2_0_0 c2_0_0 w2 Q2=>?_
 have D4:=D0.callF (flC (zAm zEj _ _ _ _) fl0) Q2;refine Rn.q rfl (V.bldS (cs:=[_,_,_]) zg7 rfl rfl) (Rn.box rfl rfl rfl rfl rfl ?_);intro b5 w5 hb5 m5 e5;have D7:=(D4.addBox hb5 e5 m5).nf [_,_,zAi _ _ [_,_,_]] rfl;refine gg 2 rfl ?_;have D9:=D7.freeze 1 rfl;have D10:=D9.dup 1 rfl (λ_ h=>h);have D13:=D10.cu [0,1] [2,3];obtain ⟨F12,D12⟩:=D13.fold (zAb.sh b5 (⟨p2,0,0⟩:zAb)) ⟨A2_0_0,c2_0_0,rfl⟩
 cases Y
 exact Rn.R1 func31 ⟨F12,b5,rfl,D12.pk [2,0],rfl⟩
theorem m_chunk_Read_s2_sim {x0:(List UInt8)} {r:((List zAc)×Int×(List UInt8))} (Y:zJm x0=some r) (hL:zKt Z0 w [zAy 5 A0 c0 zBu x0,rdR 1 0 gl1,rdR 3 0 gl3]) :
 Calls prog 9 #[.slice A0 (x0).length c0] w λx w'=>∃ A_0_0 c_0_0,x=.returned (.tuple #[.slice A_0_0 (r.1).length c_0_0,iv r.2.1])∧Hp Z0 (LS [zAy 5 A0 c0 zBu x0,rdR 1 0 gl1,rdR 3 0 gl3]) w w' [zAy 44 A_0_0 c_0_0 zAc.rep r.1,zAy 5 A0 c0 zBu r.2.2]∧(r.2.2).length=(x0).length:=by
 have D0:=hL.start;refine eg func9 8 ?_;obtain ⟨p4,e4,Y⟩:=zA7 Y;have D5:=D0.cu [1,2] [0];refine Rn.cq (cK func31) (m_pack_NewReader_s2_sim e4 D5.lend :) ?_;rintro _ w4 ⟨F4_0,b4_0,rfl,Q4,hl4_0⟩;refine ⟨_,rfl,?_⟩;have D8:=D5.callAZ Q4;refine gg 5 rfl ?_;obtain ⟨p9,e9,Y⟩:=zA7 Y;have D10:=D8.cu [0,1,3] [2]
 refine Rn.a1 (cK func32) (m_pack_Reader_Text_sim e9 D10.lend :) D10 λF9_p0 w9 D12=>?_
 refine gg 5 rfl ?_;obtain ⟨p13,e13,Y⟩:=zA7 Y;have D14:=D12.cu [0,1,2] [3]
 refine Rn.a1 (cK func33) (m_pack_Reader_Count_sim e13 D14.lend :) D14 λF13_p0 w13 D16=>?_
 refine gg 5 rfl ?_;obtain ⟨p17,e17,Y⟩:=zA7 Y;have D18:=D16.cu [0,1,2] [3]
 refine Rn.a1 (cK func33) (m_pack_Reader_Count_sim e17 D18.lend :) D18 λF17_p0 w17 D20=>?_
 refine gg 7 rfl ?_;obtain ⟨z21,e21,Y⟩:=zA7 Y;refine Rn.q rfl (V.quoZ rfl rfl e21) ?_;obtain ⟨p22,e22,Y⟩:=zA7 Y;have D23:=D20.cu [0,1,2] [3];refine Rn.cq (cK func34) (m_pack_Reader_Raw_sim e22 D23.lend :) ?_;rintro _ w22 ⟨A22_0_0,c22_0_0,F22_p0,rfl,Q22⟩;refine ⟨_,rfl,?_⟩;have D26:=D23.callAZ Q22;refine gg 6 rfl ?_;obtain ⟨p27,e27,Y⟩:=zA7 Y
 refine Rn.c0 (cK func35) (zJu (Z0:=All) e27 (zD8 (D26.get 4 rfl)) :) D26 λw27 _ D28=>?_
 refine gg 7 rfl ?_;refine aD Y (λh29 Y=>?_) (λh29 Y=>?_)
 ·cases Y
 refine gg 4 rfl ?_;obtain ⟨p30,e30,Y⟩:=zA7 Y;refine Rn.cq (cK func18) (zMm (Z0:=D28.Z) e30  :) ?_;rintro _ w30 ⟨A30_0_0,c30_0_0,A30_0_1,c30_0_1,A30_0_2,c30_0_2,rfl,Q30⟩;refine ⟨_,rfl,?_⟩;have D34:=D28.callZ Q30;refine gg 3 rfl (Rn.als rfl rfl rfl Tryz.zeroValue42 rfl O42 rfl rfl rfl rfl (by first|exact zJx rfl|(simp [Value.oneCell'];done)) ?_);intro b35 w35 hb35 m35 e35;have D37:=(D34.addBox hb35 e35 m35).nf [_,_,_,_,_,_,_,_,zAi _ _ [_,_,_,_,_,_,_,_,_,_,_,_,_,_,_,_,_]] rfl;refine gg 8 rfl ?_;refine aD Y (λh38 Y=>?_) (λh38 Y=>?_)
 ·cases Y
 refine gg 5 rfl ?_;have D41:=D37.freeze 3 rfl;obtain ⟨p39,e39,Y⟩:=zA7 Y
 refine Rn.c2 (cK func36) (zKr (Z0:=D41.Z) e39 (D41.get 3 rfl) :) λF39_0 b39_0 w39 Q39=>?_
 have D43:=D41.callZ Q39;replace D43:=D43.nq;refine gg 12 rfl ?_;refine aD Y (λh44 Y=>?_) (λh44 Y=>?_)
 ·cases Y
 refine gg 4 rfl ?_;obtain ⟨p45,e45,Y⟩:=zA7 Y;refine Rn.cq (cK func37) (zJ5 (Z0:=All) e45  :) ?_;rintro _ w45 ⟨F45_0_0,b45_0_0,F45_0_1,b45_0_1,F45_0_2,b45_0_2,F45_0_3,b45_0_3,F45_0_4,b45_0_4,F45_0_5,b45_0_5,F45_0_6,b45_0_6,rfl,Q45⟩;refine ⟨_,rfl,?_⟩;have D53:=D43.callF (flC ((zA9.oflat _ _ _)) (flC ((zA9.oflat _ _ _)) (flC ((zA9.oflat _ _ _)) (flC ((zA9.oflat _ _ _)) (flC ((zAj.oflat _ _ _)) (flC ((zAj.oflat _ _ _)) (flC ((zA4.oflat _ _ _)) fl0))))))) Q45;replace D53:=D53.nq;obtain ⟨z54,e54,Y⟩:=zA7 Y;have D55:=D53.optSome 9 rfl e54;refine Rn.say (t:=47) (pt b39_0 0) rfl (by rw [e54];rfl) ?_;refine Rn.say (t:=12) (pt b39_0 0) rfl (by rw [e54];rfl) ?_;refine Rn.say (t:=52) (pt b39_0 0) rfl (by rw [e54];rfl) ?_;refine Rn.q rfl (V.bldS (cs:=[_,_,_,_,_,_,_,_,_]) st83 rfl rfl) (Rn.box rfl rfl rfl rfl rfl ?_);intro b56 w56 hb56 m56 e56;have D58:=(D55.addBox hb56 e56 m56).nf [_,_,_,_,_,_,_,_,_,_,_,_,_,_,_,_,_,zAi _ _ [_,_,_,_,_,_,_,_,_]] rfl;refine gg 16 rfl ?_;have D60:=D58.cu [0,1,2,3,4,5,6,7,8] [17,9,10,11,12,13,14,15,16];obtain ⟨F59,D59⟩:=D60.fold (zA6.sh b56 b39_0 (⟨z54,p45,0⟩:zA6)) ⟨F39_0,F45_0_0,b45_0_0,F45_0_1,b45_0_1,F45_0_2,b45_0_2,F45_0_3,b45_0_3,F45_0_4,b45_0_4,F45_0_5,b45_0_5,F45_0_6,b45_0_6,rfl⟩;refine Rn.jG D0 Y (G:=(List zAc)×zA6×(Nat→Prop)×Option Addr×Nat×(Nat→Prop)) (λg=>[(12,pt b39_0 0),(14,.slice (g.2.2.2.1) ((g.1)).length (g.2.2.2.2.1))]) (λg=>[rdR 1 0 gl1,rdR 3 0 gl3,zAy 5 A0 c0 zBu p4.2,zAb.obj (g.2.2.1) b4_0 p22.2,slR A30_0_0 c30_0_0 zA0.rep p30.1.Attrs,slR A30_0_1 c30_0_1 zAq p30.1.Hist.Pos.Counts,slR A30_0_2 c30_0_2 zAq p30.1.Hist.Neg.Counts,zAi b35 42 [Str (p30.1.Name),.slice A30_0_0 (p30.1.Attrs).length c30_0_0,iv p30.1.Kind,iv p30.1.Temp,.bool (p30.1.Mono),iv p30.1.Start,iv p30.1.Time,iv p30.1.Int_,zAn p30.1.Re,zAn p30.1.Im,iv p30.1.Hist.Scale,zAn p30.1.Hist.Zero,iv p30.1.Hist.Pos.Offset,.slice A30_0_1 (p30.1.Hist.Pos.Counts).length c30_0_1,iv p30.1.Hist.Neg.Offset,.slice A30_0_2 (p30.1.Hist.Neg.Counts).length c30_0_2,iv p30.1.Flags],zAy 44 (g.2.2.2.1) (g.2.2.2.2.1) zAc.rep (g.1),zA6.obj (g.2.2.2.2.2) b56 b39_0 (g.2.1)]) (λj g=>j g.1 g.2.1) ?_ ?_
 ·rintro ⟨y62,y65,F61,A63,c63,F65⟩ w66 D66 Y
  try dsimp only at Y
  refine gg 3 rfl ?_;obtain ⟨_,⟨F67_0,F67_1,b67_1,F67_2,b67_2,F67_3,b67_3,F67_4,b67_4,F67_5,b67_5,F67_6,b67_6,F67_7,b67_7,rfl⟩,D67⟩:=D66.unf 9 rfl;replace D67:=D67.nq;refine gg 1 rfl ?_;obtain ⟨p76,e76,Y⟩:=zA7 Y
  refine Rn.c0 (cK func40) (zEh (Z0:=All) e76 (zD8 (D67.get 10 rfl)) :) D67 λw76 _ D77=>?_
  replace D77:=D77.nq;refine gg 2 rfl ?_;refine aD Y (λh78 Y=>?_) (λh78 Y=>?_)
  ·cases Y
  refine gg 7 rfl ?_
  cases Y
  exact Rn.R2 func9 ⟨A63,c63,rfl,D77.pk [8,2],hl4_0⟩
 intro j1 Y K1;refine gg 1 rfl ?_;have D86:=D59.addNil 44 zAc.rep;refine Rn.loopF (G:=(List zAc)×Int×Int×zA6×(Nat→Prop)×Option Addr×Nat×(Nat→Prop)) (λg=>[(10,pt b35 0),(12,pt b39_0 0),(13,pt b56 0),(14,.slice (g.2.2.2.2.2.1) ((g.1)).length (g.2.2.2.2.2.2.1)),(15,iv (g.2.1)),(56,iv p13.1),(57,iv (g.2.2.1))]) (λg w'=>Hp Z0 (LS [zAy 5 A0 c0 zBu x0,rdR 1 0 gl1,rdR 3 0 gl3]) w w' [rdR 1 0 gl1,rdR 3 0 gl3,zAy 5 A0 c0 zBu p4.2,zAb.obj (g.2.2.2.2.1) b4_0 p22.2,slR A30_0_0 c30_0_0 zA0.rep p30.1.Attrs,slR A30_0_1 c30_0_1 zAq p30.1.Hist.Pos.Counts,slR A30_0_2 c30_0_2 zAq p30.1.Hist.Neg.Counts,zAi b35 42 [Str (p30.1.Name),.slice A30_0_0 (p30.1.Attrs).length c30_0_0,iv p30.1.Kind,iv p30.1.Temp,.bool (p30.1.Mono),iv p30.1.Start,iv p30.1.Time,iv p30.1.Int_,zAn p30.1.Re,zAn p30.1.Im,iv p30.1.Hist.Scale,zAn p30.1.Hist.Zero,iv p30.1.Hist.Pos.Offset,.slice A30_0_1 (p30.1.Hist.Pos.Counts).length c30_0_1,iv p30.1.Hist.Neg.Offset,.slice A30_0_2 (p30.1.Hist.Neg.Counts).length c30_0_2,iv p30.1.Flags],zAy 44 (g.2.2.2.2.2.1) (g.2.2.2.2.2.2.1) zAc.rep (g.1),zA6.obj (g.2.2.2.2.2.2.2) b56 b39_0 (g.2.2.2.1)]) (λn g=>zDm p13 p30 j1 n g.1 g.2.1 g.2.2.1 g.2.2.2.1) fuel (([]:List zAc),(-1),0,(⟨z54,p45,0⟩:zA6),F22_p0,none,0,F59) sA (D86.pk [0,1,2,4,5,6,7,8,10,9]) Y (λ_=>rfl) ?_;clear Y;rintro m88 ⟨y80,y83,y84,y85,F79,A81,c81,F85⟩ w88 D88 Y N88;replace Y:zDm p13 p30 j1 (m88+1) y80 y83 y84 y85=some r:=Y;rw [zDm] at Y;refine gg 5 rfl ?_;refine bD Y 6 1 (λh89 Y=>?_) (λh89 Y=>?_)
 ·refine Rn.q rfl (V.ldBA [_,_,_,_,_,_,_,_,_,_,_,_,_,_,_,_,_] V42 O42 rfl (D88.get 7 rfl) rfl rfl) ?_;obtain ⟨p90,e90,Y⟩:=zA7 Y;refine Rn.cq (cK func39) (zN3 (Z0:=All) e90 (show zA8.rep.rel All _ _ _ from ⟨_,_,rfl,⟨rfl,trivial⟩,⟨_,_,rfl,⟨_,_,rfl,(zA5 (D88.get 4 rfl)).1,(zA5 (D88.get 4 rfl)).2.1,(zA5 (D88.get 4 rfl)).2.2⟩,⟨_,_,rfl,⟨rfl,trivial⟩,⟨_,_,rfl,⟨rfl,trivial⟩,⟨_,_,rfl,⟨rfl,trivial⟩,⟨_,_,rfl,⟨rfl,trivial⟩,⟨_,_,rfl,⟨rfl,trivial⟩,⟨_,_,rfl,⟨rfl,trivial⟩,⟨_,_,rfl,⟨rfl,trivial⟩,⟨_,_,rfl,⟨rfl,trivial⟩,⟨_,_,rfl,⟨_,_,rfl,⟨rfl,trivial⟩,⟨_,_,rfl,⟨rfl,trivial⟩,⟨_,_,rfl,⟨_,_,rfl,⟨rfl,trivial⟩,⟨_,_,rfl,(zA5 (D88.get 5 rfl)).1,(zA5 (D88.get 5 rfl)).2.1,(zA5 (D88.get 5 rfl)).2.2⟩⟩,⟨_,_,rfl,⟨rfl,trivial⟩,⟨_,_,rfl,(zA5 (D88.get 6 rfl)).1,(zA5 (D88.get 6 rfl)).2.1,(zA5 (D88.get 6 rfl)).2.2⟩⟩⟩⟩⟩,⟨rfl,trivial⟩⟩⟩⟩⟩⟩⟩⟩⟩⟩⟩⟩) :) ?_;rintro _ w90 ⟨A90_0_0,c90_0_0,A90_0_1,c90_0_1,A90_0_2,c90_0_2,rfl,Q90⟩;refine ⟨_,rfl,?_⟩;have D94:=D88.callF (flC (zAm zA0.flat _ _ _ _) (flC (zAm zCz _ _ _ _) (flC (zAm zCz _ _ _ _) fl0))) Q90;replace D94:=D94.nq;refine gg 1 rfl ?_;have D97:=D94.freeze 10 rfl;have D99:=D97.freeze 11 rfl;have D101:=D99.freeze 12 rfl;obtain ⟨p95,e95,Y⟩:=zA7 Y;have D102:=D101.dup 0 rfl (λ_ h=>h);have D104:=D102.dup 1 rfl (λ_ h=>h);have D106:=D104.know (zTs zA8.rep [Str (p90.Name),.slice A90_0_0 (p90.Attrs).length c90_0_0,iv p90.Kind,iv p90.Temp,.bool (p90.Mono),iv p90.Start,iv p90.Time,iv p90.Int_,zAn p90.Re,zAn p90.Im,iv p90.Hist.Scale,zAn p90.Hist.Zero,iv p90.Hist.Pos.Offset,.slice A90_0_1 (p90.Hist.Pos.Counts).length c90_0_1,iv p90.Hist.Neg.Offset,.slice A90_0_2 (p90.Hist.Neg.Counts).length c90_0_2,iv p90.Flags] p90) (λ_ h=>h) (show zA8.rep.rel _ _ _ _ from ⟨_,_,rfl,⟨rfl,trivial⟩,⟨_,_,rfl,⟨_,_,rfl,(D104.get 10 rfl).1,(D104.get 10 rfl).2.1,(D104.get 10 rfl).2.2⟩,⟨_,_,rfl,⟨rfl,trivial⟩,⟨_,_,rfl,⟨rfl,trivial⟩,⟨_,_,rfl,⟨rfl,trivial⟩,⟨_,_,rfl,⟨rfl,trivial⟩,⟨_,_,rfl,⟨rfl,trivial⟩,⟨_,_,rfl,⟨rfl,trivial⟩,⟨_,_,rfl,⟨rfl,trivial⟩,⟨_,_,rfl,⟨rfl,trivial⟩,⟨_,_,rfl,⟨_,_,rfl,⟨rfl,trivial⟩,⟨_,_,rfl,⟨rfl,trivial⟩,⟨_,_,rfl,⟨_,_,rfl,⟨rfl,trivial⟩,⟨_,_,rfl,(D104.get 11 rfl).1,(D104.get 11 rfl).2.1,(D104.get 11 rfl).2.2⟩⟩,⟨_,_,rfl,⟨rfl,trivial⟩,⟨_,_,rfl,(D104.get 12 rfl).1,(D104.get 12 rfl).2.1,(D104.get 12 rfl).2.2⟩⟩⟩⟩⟩,⟨rfl,trivial⟩⟩⟩⟩⟩⟩⟩⟩⟩⟩⟩⟩);have D108:=D106.cu [0,1,2,3,4,5,6,7,8,10,11,12] [9,13,14,15];refine Rn.cq (cK func38) (m_chunk_reader_next_sim e95 D108.lend :) ?_;rintro _ w95 ⟨A95_0_0,c95_0_0,A95_0_1,c95_0_1,A95_0_2,c95_0_2,F95_p0,rfl,Q95⟩;refine ⟨_,rfl,?_⟩;have D113:=D108.callAZ Q95;refine Rn.als rfl rfl rfl Tryz.zeroValue44 rfl O44 rfl rfl rfl rfl (by first|exact zJx rfl|(simp [Value.oneCell'];done)) ?_;intro b114 w114 hb114 m114 e114;have D116:=(D113.addBox hb114 e114 m114).nf [_,_,_,_,_,_,_,_,_,_,_,_,_,_,_,_,zAi _ _ [_,_,_,_,_,_,_,_,_,_,_,_,_,_,_,_,_,_]] rfl;refine gg 7 rfl ?_;obtain ⟨_,⟨F117_0,F117_1,b117_1,F117_2,b117_2,F117_3,b117_3,F117_4,b117_4,F117_5,b117_5,F117_6,b117_6,F117_7,b117_7,rfl⟩,D117⟩:=D116.unf 15 rfl;replace D117:=D117.nq;refine Rn.q rfl (V.ldB V25 rfl (D117.get 16 rfl) rfl) (gg 2 rfl ?_);refine aD Y (λh126 Y=>?_) (λh126 Y=>?_)
  ·cases Y
  refine gg 4 rfl (Rn.q rfl (V.ldBA [_,_,_,_,_,_,_,_,_,_,_,_,_,_,_,_,_,_] V44 O44 rfl (D117.get 15 rfl) rfl rfl) ?_);obtain ⟨z127,e127,Y⟩:=zA7 Y;refine Rn.pushH (z:=p95.1) (vs:=[iv p95.1.Ord,Str (p95.1.Point.Name),.slice A95_0_0 (p95.1.Point.Attrs).length c95_0_0,iv p95.1.Point.Kind,iv p95.1.Point.Temp,.bool (p95.1.Point.Mono),iv p95.1.Point.Start,iv p95.1.Point.Time,iv p95.1.Point.Int_,zAn p95.1.Point.Re,zAn p95.1.Point.Im,iv p95.1.Point.Hist.Scale,zAn p95.1.Point.Hist.Zero,iv p95.1.Point.Hist.Pos.Offset,.slice A95_0_1 (p95.1.Point.Hist.Pos.Counts).length c95_0_1,iv p95.1.Point.Hist.Neg.Offset,.slice A95_0_2 (p95.1.Point.Hist.Neg.Counts).length c95_0_2,iv p95.1.Point.Flags]) D117 8 rfl e127 rfl rfl rfl rfl U24 zh4 rfl rfl rfl rfl (λ_=>rfl) (⟨_,_,rfl,⟨rfl,trivial⟩,⟨_,_,rfl,⟨rfl,trivial⟩,⟨_,_,rfl,⟨_,_,rfl,(D117.get 12 rfl).1,(D117.get 12 rfl).2.1,(D117.get 12 rfl).2.2⟩,⟨_,_,rfl,⟨rfl,trivial⟩,⟨_,_,rfl,⟨rfl,trivial⟩,⟨_,_,rfl,⟨rfl,trivial⟩,⟨_,_,rfl,⟨rfl,trivial⟩,⟨_,_,rfl,⟨rfl,trivial⟩,⟨_,_,rfl,⟨rfl,trivial⟩,⟨_,_,rfl,⟨rfl,trivial⟩,⟨_,_,rfl,⟨rfl,trivial⟩,⟨_,_,rfl,⟨_,_,rfl,⟨rfl,trivial⟩,⟨_,_,rfl,⟨rfl,trivial⟩,⟨_,_,rfl,⟨_,_,rfl,⟨rfl,trivial⟩,⟨_,_,rfl,(D117.get 13 rfl).1,(D117.get 13 rfl).2.1,(D117.get 13 rfl).2.2⟩⟩,⟨_,_,rfl,⟨rfl,trivial⟩,⟨_,_,rfl,(D117.get 14 rfl).1,(D117.get 14 rfl).2.1,(D117.get 14 rfl).2.2⟩⟩⟩⟩⟩,⟨rfl,trivial⟩⟩⟩⟩⟩⟩⟩⟩⟩⟩⟩⟩⟩) ?_;intro A127 c127 w127 u127 D127;replace D127:=D127.nq;refine gg 4 rfl (Rn.q rfl (V.ldB V3 rfl (D127.get 15 rfl) rfl) (gg 7 rfl ?_));have D130:=D127.cu [0,1,2,3,4,5,6,7,8,9,10,11,12,13,14,15] [16,17,18,19,20,21,22,23,24];obtain ⟨F129,D129⟩:=D130.fold (zA6.sh b56 b39_0 p95.2) ⟨F117_0,F117_1,b117_1,F117_2,b117_2,F117_3,b117_3,F117_4,b117_4,F117_5,b117_5,F117_6,b117_6,F117_7,b117_7,rfl⟩;exact N88 (z127,p95.1.Ord,(W64 (y84+1)),p95.2,F79,A127,c127,F129) _ _ sA (D129.pk [0,1,2,3,4,5,6,7,8,16]) Y
 exact K1 (y80,y85,F79,A81,c81,F85) _ _ sA (D88.pk [0,1,2,3,4,5,6,7,8,9]) Y
theorem zM8 {x0:(List zA0)} {x1:(List zA0)} {r:Bool} (Y:zGj x0 x1=some r) (f0:(slR A0 c0 zA0.rep x0).H Z0 w) (f1:(slR A1 c1 zA0.rep x1).H Z0 w) :
 Calls prog 21 #[.slice A0 (x0).length c0,.slice A1 (x1).length c1] w λx w'=>x=.returned (.bool (r))∧Hp Z0 No w w' []:=by
 obtain ⟨D0,D3,hc0⟩:=knA f0;obtain ⟨D4,hc0⟩:=D3.kn hc0 f1;refine eg func21 8 ?_;refine Rn.q rfl (V.lenV U34 rfl) (gg 1 rfl (Rn.q rfl (V.lenV U34 rfl) (gg 2 rfl ?_)));refine bD Y 4 6 (λh5 Y=>?_) (λh5 Y=>?_)
 ·cases Y
  exact Rn.R1 func21 ⟨rfl,D4.pk []⟩
 refine Rn.jG D0 Y (G:=Unit) (λg=>[]) (λg=>[]) (λj g=>j ()) ?_ ?_
 ·rintro _ w6 D6 Y
  try dsimp only at Y
  refine gg 4 rfl ?_
  cases Y
  exact Rn.R1 func21 ⟨rfl,D6.pk []⟩
 intro j1 Y K1;refine gg 1 rfl ?_;refine Rn.loopF (G:=Int) (λg=>[(0,.slice A0 (x0).length c0),(1,.slice A1 (x1).length c1),(5,iv g)]) (λg w'=>Hp Z0 No w w' [slR A0 c0 zA0.rep x0,slR A1 c1 zA0.rep x1]) (λn g=>zCg x0 x1 j1 n g) fuel 0 sA (D4.pk [0,1]) Y (λ_=>rfl) ?_;clear Y;rintro m8 y7 w8 D8 Y N8;replace Y:zCg x0 x1 j1 (m8+1) y7=some r:=Y;rw [zCg] at Y;refine gg 5 rfl (Rn.q rfl (V.lenV U34 rfl) (gg 2 rfl ?_));refine bD Y 4 1 (λh9 Y=>?_) (λh9 Y=>?_)
 ·refine Rn.drawP rfl D8 ?_;intro w10 D10;refine dq [0,1] ?_;obtain ⟨z11,e11,Y⟩:=zA7 Y;obtain ⟨kk11,ke11,kz11,kl11⟩:=zJb e11;obtain ⟨b11,o11,vs11,hA11,hD11,hR11,hrel11⟩:=Hp.at D10 0 rfl kz11;obtain rfl:=zA0.relE hrel11;have D13:=Hp.knowL [rdR b11 (o11+kk11*2) [Str (z11.Key),Str (z11.Val)]] _ D10 (knC (λ_ h=>h) ⟨λ_=>hD11,hR11⟩ kn0);refine RH.tp 2 rfl (V.ixA' hA11 kk11 U34 O118 rfl rfl ke11 kl11) ?_;refine RH.tp 3 rfl (V.ldA (vs:=[_,_]) V118 O118 rfl (Rd.pre (D13.get 2 rfl).2 2) rfl) ?_;refine dq [4,5] ?_;obtain ⟨z14,e14,Y⟩:=zA7 Y;obtain ⟨kk14,ke14,kz14,kl14⟩:=zJb e14;obtain ⟨b14,o14,vs14,hA14,hD14,hR14,hrel14⟩:=Hp.at D13 1 rfl kz14;obtain rfl:=zA0.relE hrel14;have D16:=Hp.knowL [rdR b14 (o14+kk14*2) [Str (z14.Key),Str (z14.Val)]] _ D13 (knC (λ_ h=>h) ⟨λ_=>hD14,hR14⟩ kn0);refine RH.tp 6 rfl (V.ixA' hA14 kk14 U34 O118 rfl rfl ke14 kl14) ?_;refine RH.tp 7 rfl (V.ldA (vs:=[_,_]) V118 O118 rfl (Rd.pre (D16.get 3 rfl).2 2) rfl) ?_;refine RH.tp 8 rfl (V.neqT Tryz.eqGuardType118 rfl rfl (eq118 _ _)) ?_;refine RH.dn ?_;refine bD Y 4 7 (λh17 Y=>?_) (λh17 Y=>?_)
  ·cases Y
   exact Rn.R1 func21 ⟨rfl,D16.pk []⟩
  exact N8 (W64 (y7+1)) _ _ sA (D16.pk [0,1]) Y
 exact K1 () _ _ (sb trivial) (D8.pk []) Y
theorem zM6 {x0:zA8} {x1:zA8} {r:Bool} (Y:zEn x0 x1=some r) (h0:zA8.rep.rel Z0 w cs0 x0) (h1:zA8.rep.rel Z0 w cs1 x1) :
 Calls prog 20 #[.agg cs0.toArray,.agg cs1.toArray] w λx w'=>x=.returned (.bool (r))∧Hp Z0 No w w' []:=by
 have D0:=Hp.nil Z0 No w;have hc0:=Calm.nil;obtain ⟨Ar1,cr1,Ar3,cr3,Ar5,cr5,rfl,fs1,fs3,fs5⟩:=zA8.relE h0;obtain ⟨D13,hc0⟩:=D0.kn (r:=slR Ar1 cr1 zA0.rep x0.Attrs) hc0 fs1;obtain ⟨D14,hc0⟩:=D13.kn (r:=slR Ar3 cr3 zAq x0.Hist.Pos.Counts) hc0 fs3;obtain ⟨D15,hc0⟩:=D14.kn (r:=slR Ar5 cr5 zAq x0.Hist.Neg.Counts) hc0 fs5;obtain ⟨Ar7,cr7,Ar9,cr9,Ar11,cr11,rfl,fs7,fs9,fs11⟩:=zA8.relE h1;obtain ⟨D16,hc0⟩:=D15.kn (r:=slR Ar7 cr7 zA0.rep x1.Attrs) hc0 fs7;obtain ⟨D17,hc0⟩:=D16.kn (r:=slR Ar9 cr9 zAq x1.Hist.Pos.Counts) hc0 fs9;obtain ⟨D18,hc0⟩:=D17.kn (r:=slR Ar11 cr11 zAq x1.Hist.Neg.Counts) hc0 fs11;refine eg func20 2 ?_;refine Rn.box rfl rfl rfl rfl rfl ?_;intro b19 w19 hb19 m19 e19;have D21:=(D18.addBox hb19 e19 m19).nf [_,_,_,_,_,_,zAi _ _ [_,_,_,_,_,_,_,_,_,_,_,_,_,_,_,_,_]] rfl;refine Rn.box rfl rfl rfl rfl rfl ?_;intro b22 w22 hb22 m22 e22;have D24:=(D21.addBox hb22 e22 m22).nf [_,_,_,_,_,_,_,zAi _ _ [_,_,_,_,_,_,_,_,_,_,_,_,_,_,_,_,_]] rfl;refine gg 4 rfl ?_;refine Rn.jG D0 Y (G:=Bool) (λg=>[(2,pt b19 0),(3,pt b22 0),(19,.bool (g))]) (λg=>[slR Ar1 cr1 zA0.rep x0.Attrs,slR Ar3 cr3 zAq x0.Hist.Pos.Counts,slR Ar5 cr5 zAq x0.Hist.Neg.Counts,slR Ar7 cr7 zA0.rep x1.Attrs,slR Ar9 cr9 zAq x1.Hist.Pos.Counts,slR Ar11 cr11 zAq x1.Hist.Neg.Counts,zAi b19 42 [Str (x0.Name),.slice Ar1 (x0.Attrs).length cr1,iv x0.Kind,iv x0.Temp,.bool (x0.Mono),iv x0.Start,iv x0.Time,iv x0.Int_,zAn x0.Re,zAn x0.Im,iv x0.Hist.Scale,zAn x0.Hist.Zero,iv x0.Hist.Pos.Offset,.slice Ar3 (x0.Hist.Pos.Counts).length cr3,iv x0.Hist.Neg.Offset,.slice Ar5 (x0.Hist.Neg.Counts).length cr5,iv x0.Flags],zAi b22 42 [Str (x1.Name),.slice Ar7 (x1.Attrs).length cr7,iv x1.Kind,iv x1.Temp,.bool (x1.Mono),iv x1.Start,iv x1.Time,iv x1.Int_,zAn x1.Re,zAn x1.Im,iv x1.Hist.Scale,zAn x1.Hist.Zero,iv x1.Hist.Pos.Offset,.slice Ar9 (x1.Hist.Pos.Counts).length cr9,iv x1.Hist.Neg.Offset,.slice Ar11 (x1.Hist.Neg.Counts).length cr11,iv x1.Flags]]) (λj g=>j g) ?_ ?_
 ·rintro y25 w26 D26 Y
  try dsimp only at Y
  refine bS Y 4 5 (λh27 Y=>?_) (λh27 Y=>?_)
  ·cases Y
   exact Rn.R1 func20 ⟨rfl,D26.pk []⟩
  refine Rn.q rfl (V.ldB V3 rfl (D26.get 6 rfl) rfl) (gg 1 rfl (Rn.q rfl (V.ldB V3 rfl (D26.get 7 rfl) rfl) (gg 2 rfl ?_)));refine Rn.cutR [12,13,14,15,16,17,18,19,20,21,22,23,24,25,26,27,28,29,30,31,32] [(2,pt b19 0),(3,pt b22 0),(31,.bool (decide ((x0.Kind≠x1.Kind)∨(x0.Temp≠x1.Temp))))] (λK28=>?_) ?_
  ·refine Rn.partD (t:=25) rfl (λh29=>?_) (λh29=>?_)
   ·refine gg 6 rfl ?_;exact K28 _ sA
   refine gg 1 rfl (Rn.q rfl (V.ldB V3 rfl (D26.get 6 rfl) rfl) (gg 1 rfl (Rn.q rfl (V.ldB V3 rfl (D26.get 7 rfl) rfl) (gg 2 rfl ?_))));exact K28 _ sA
  refine gg 1 rfl ?_;refine Rn.cutR [19,20,21,22,23,24,25,26,27,28,29,30,31,32] [(2,pt b19 0),(3,pt b22 0),(38,.bool (decide (((x0.Kind≠x1.Kind)∨(x0.Temp≠x1.Temp))∨(x0.Mono≠x1.Mono))))] (λK30=>?_) ?_
  ·refine Rn.partD (t:=32) rfl (λh31=>?_) (λh31=>?_)
   ·refine gg 6 rfl ?_;exact K30 _ sA
   refine gg 1 rfl (Rn.q rfl (V.ldB V4 rfl (D26.get 6 rfl) rfl) (gg 1 rfl (Rn.q rfl (V.ldB V4 rfl (D26.get 7 rfl) rfl) (Rn.q rfl (V.neqB U4 rfl rfl) (gg 1 rfl ?_)))));exact K30 _ sA
  refine gg 1 rfl ?_;refine Rn.cutR [26,27,28,29,30,31,32] [(2,pt b19 0),(3,pt b22 0),(45,.bool (decide ((((x0.Kind≠x1.Kind)∨(x0.Temp≠x1.Temp))∨(x0.Mono≠x1.Mono))∨(x0.Start≠x1.Start))))] (λK32=>?_) ?_
  ·refine Rn.partD (t:=39) rfl (λh33=>?_) (λh33=>?_)
   ·refine gg 6 rfl ?_;exact K32 _ sA
   refine gg 1 rfl (Rn.q rfl (V.ldB V3 rfl (D26.get 6 rfl) rfl) (gg 1 rfl (Rn.q rfl (V.ldB V3 rfl (D26.get 7 rfl) rfl) (gg 2 rfl ?_))));exact K32 _ sA
  refine gg 1 rfl ?_;refine Rn.cutR [] [(2,pt b19 0),(3,pt b22 0),(52,.bool (decide (((((x0.Kind≠x1.Kind)∨(x0.Temp≠x1.Temp))∨(x0.Mono≠x1.Mono))∨(x0.Start≠x1.Start))∨(x0.Time≠x1.Time))))] (λK34=>?_) ?_
  ·refine Rn.partD (t:=46) rfl (λh35=>?_) (λh35=>?_)
   ·refine gg 6 rfl ?_;exact K34 _ sA
   refine gg 1 rfl (Rn.q rfl (V.ldB V3 rfl (D26.get 6 rfl) rfl) (gg 1 rfl (Rn.q rfl (V.ldB V3 rfl (D26.get 7 rfl) rfl) (gg 2 rfl ?_))));exact K34 _ sA
  refine gg 1 rfl ?_;refine bD Y 4 4 (λh36 Y=>?_) (λh36 Y=>?_)
  ·cases Y
   exact Rn.R1 func20 ⟨rfl,D26.pk []⟩
  refine Rn.q rfl (V.ldB V3 rfl (D26.get 6 rfl) rfl) (gg 1 rfl (Rn.q rfl (V.ldB V3 rfl (D26.get 7 rfl) rfl) (gg 2 rfl ?_)));refine Rn.cutR [12,13,14,15,16,17,18,19,20,21,22,23,24,25,26,27,28,29,30,31,32,33] [(2,pt b19 0),(3,pt b22 0),(64,.bool (decide ((x0.Int_=x1.Int_)∧(((x0.Re).toNat:Int)=((x1.Re).toNat:Int)))))] (λK37=>?_) ?_
  ·refine Rn.partD (t:=58) rfl (λh38=>?_) (λh38=>?_)
   ·refine gg 1 rfl (Rn.q rfl (V.ldB V35 rfl (D26.get 6 rfl) rfl) (gg 1 rfl (Rn.q rfl (V.ldB V35 rfl (D26.get 7 rfl) rfl) (Rn.q rfl (V.eql rfl rfl) (gg 1 rfl ?_)))));exact K37 _ sA
   refine gg 6 rfl ?_;exact K37 _ sA
  refine gg 1 rfl ?_;refine Rn.cutR [19,20,21,22,23,24,25,26,27,28,29,30,31,32,33] [(2,pt b19 0),(3,pt b22 0),(71,.bool (decide (((x0.Int_=x1.Int_)∧(((x0.Re).toNat:Int)=((x1.Re).toNat:Int)))∧(((x0.Im).toNat:Int)=((x1.Im).toNat:Int)))))] (λK39=>?_) ?_
  ·refine Rn.partD (t:=65) rfl (λh40=>?_) (λh40=>?_)
   ·refine gg 1 rfl (Rn.q rfl (V.ldB V35 rfl (D26.get 6 rfl) rfl) (gg 1 rfl (Rn.q rfl (V.ldB V35 rfl (D26.get 7 rfl) rfl) (Rn.q rfl (V.eql rfl rfl) (gg 1 rfl ?_)))));exact K39 _ sA
   refine gg 6 rfl ?_;exact K39 _ sA
  refine gg 1 rfl ?_;refine Rn.cutR [26,27,28,29,30,31,32,33] [(2,pt b19 0),(3,pt b22 0),(78,.bool (decide ((((x0.Int_=x1.Int_)∧(((x0.Re).toNat:Int)=((x1.Re).toNat:Int)))∧(((x0.Im).toNat:Int)=((x1.Im).toNat:Int)))∧(x0.Flags=x1.Flags))))] (λK41=>?_) ?_
  ·refine Rn.partD (t:=72) rfl (λh42=>?_) (λh42=>?_)
   ·refine gg 1 rfl (Rn.q rfl (V.ldB V3 rfl (D26.get 6 rfl) rfl) (gg 1 rfl (Rn.q rfl (V.ldB V3 rfl (D26.get 7 rfl) rfl) (gg 2 rfl ?_))));exact K41 _ sA
   refine gg 6 rfl ?_;exact K41 _ sA
  refine gg 1 rfl ?_;refine Rn.jR D0 Y (G:=Bool) [33] (λg=>[(85,.bool (g))]) (λg=>[slR Ar1 cr1 zA0.rep x0.Attrs,slR Ar3 cr3 zAq x0.Hist.Pos.Counts,slR Ar5 cr5 zAq x0.Hist.Neg.Counts,slR Ar7 cr7 zA0.rep x1.Attrs,slR Ar9 cr9 zAq x1.Hist.Pos.Counts,slR Ar11 cr11 zAq x1.Hist.Neg.Counts,zAi b19 42 [Str (x0.Name),.slice Ar1 (x0.Attrs).length cr1,iv x0.Kind,iv x0.Temp,.bool (x0.Mono),iv x0.Start,iv x0.Time,iv x0.Int_,zAn x0.Re,zAn x0.Im,iv x0.Hist.Scale,zAn x0.Hist.Zero,iv x0.Hist.Pos.Offset,.slice Ar3 (x0.Hist.Pos.Counts).length cr3,iv x0.Hist.Neg.Offset,.slice Ar5 (x0.Hist.Neg.Counts).length cr5,iv x0.Flags],zAi b22 42 [Str (x1.Name),.slice Ar7 (x1.Attrs).length cr7,iv x1.Kind,iv x1.Temp,.bool (x1.Mono),iv x1.Start,iv x1.Time,iv x1.Int_,zAn x1.Re,zAn x1.Im,iv x1.Hist.Scale,zAn x1.Hist.Zero,iv x1.Hist.Pos.Offset,.slice Ar9 (x1.Hist.Pos.Counts).length cr9,iv x1.Hist.Neg.Offset,.slice Ar11 (x1.Hist.Neg.Counts).length cr11,iv x1.Flags]]) (λj g=>j g) ?_ ?_
  ·rintro y43 w44 D44 Y
   try dsimp only at Y
   refine gg 2 rfl ?_
   cases Y
   exact Rn.R1 func20 ⟨rfl,D44.pk []⟩
  intro j2 Y K2;refine zKs Y (Rn.partD (t:=79) rfl) (λh45 Y=>?_) (λh45 Y=>?_)
  ·refine gg 1 rfl (Rn.q rfl (V.ldBA [_,_,_,_,_,_] V40 O40 rfl (D26.get 6 rfl) rfl rfl) (gg 1 rfl (Rn.q rfl (V.ldBA [_,_,_,_,_,_] V40 O40 rfl (D26.get 7 rfl) rfl rfl) ?_)));obtain ⟨p46,e46,Y⟩:=zA7 Y
   refine Rn.c0 (cK func59) (zIl (Z0:=All) e46 (show zA2.rep.rel All _ _ _ from ⟨_,_,rfl,⟨rfl,trivial⟩,⟨_,_,rfl,⟨rfl,trivial⟩,⟨_,_,rfl,⟨_,_,rfl,⟨rfl,trivial⟩,⟨_,_,rfl,(zA5 (D26.get 1 rfl)).1,(zA5 (D26.get 1 rfl)).2.1,(zA5 (D26.get 1 rfl)).2.2⟩⟩,⟨_,_,rfl,⟨rfl,trivial⟩,⟨_,_,rfl,(zA5 (D26.get 2 rfl)).1,(zA5 (D26.get 2 rfl)).2.1,(zA5 (D26.get 2 rfl)).2.2⟩⟩⟩⟩⟩) (show zA2.rep.rel All _ _ _ from ⟨_,_,rfl,⟨rfl,trivial⟩,⟨_,_,rfl,⟨rfl,trivial⟩,⟨_,_,rfl,⟨_,_,rfl,⟨rfl,trivial⟩,⟨_,_,rfl,(zA5 (D26.get 4 rfl)).1,(zA5 (D26.get 4 rfl)).2.1,(zA5 (D26.get 4 rfl)).2.2⟩⟩,⟨_,_,rfl,⟨rfl,trivial⟩,⟨_,_,rfl,(zA5 (D26.get 5 rfl)).1,(zA5 (D26.get 5 rfl)).2.1,(zA5 (D26.get 5 rfl)).2.2⟩⟩⟩⟩⟩) :) D26 λw46 _ D47=>?_
   refine gg 1 rfl ?_;exact K2 p46 _ _ sA (D47.pk [0,1,2,3,4,5,6,7]) Y
  refine gg 6 rfl ?_;exact K2 false _ _ sA (D26.pk [0,1,2,3,4,5,6,7]) Y
 intro j1 Y K1;refine Rn.drawH rfl D24 ?_;intro w48 D48;refine dq [0] ?_;refine RH.tk 1 rfl (λw' hDr=>V.ldB V9 rfl ((D48.ext hDr).get 6 rfl) rfl) ?_;refine dq [2] ?_;refine RH.ho 3 rfl (V.ldB V9 rfl (D48.get 7 rfl) rfl) ?_;refine RH.ho 4 rfl (V.neqS rfl rfl) ?_;refine dq [5] ?_;refine zKs Y (RH.partD (t:=10) rfl) (λh49 Y=>?_) (λh49 Y=>?_)
 ·refine dq [6,7,8,9,10,11,12,13,14] ?_;refine RH.dn ?_;exact K1 true _ _ sA (D48.pk [0,1,2,3,4,5,6,7]) Y
 refine dq [6] ?_;refine RH.tk 7 rfl (λw' hDr=>V.ldB V34 rfl ((D48.ext hDr).get 6 rfl) rfl) ?_;refine dq [9] ?_;refine RH.tk 10 rfl (λw' hDr=>V.ldB V34 rfl ((D48.ext hDr).get 7 rfl) rfl) ?_;obtain ⟨p50,e50,Y⟩:=zA7 Y;refine RH.cq (cK func22) 8 (zFr (Z0:=All) e50 (zA5 (D48.get 0 rfl)) :) ?_;rintro _ w50 ⟨A50_0_0,c50_0_0,rfl,Q50⟩;refine ⟨_,rfl,((Ext.refl _).trans Q50.fr),?_⟩;have D52:=D48.callF (flC (zAm zA0.flat _ _ _ _) fl0) Q50;obtain ⟨p53,e53,Y⟩:=zA7 Y;refine RH.cq (cK func22) 11 (zFr (Z0:=All) e53 (zA5 (D52.get 3 rfl)) :) ?_;rintro _ w53 ⟨A53_0_0,c53_0_0,rfl,Q53⟩;refine ⟨_,rfl,(((Ext.refl _).trans Q50.fr).trans Q53.fr),?_⟩;have D55:=D52.callF (flC (zAm zA0.flat _ _ _ _) fl0) Q53;obtain ⟨p56,e56,Y⟩:=zA7 Y;refine RH.cq (cK func21) 12 (zM8 (Z0:=All) e56 (zAw (D55.get 8 rfl)) (zAw (D55.get 9 rfl)) :) ?_;rintro _ w56 ⟨rfl,Q56⟩;refine ⟨_,rfl,((((Ext.refl _).trans Q50.fr).trans Q53.fr).trans Q56.fr),?_⟩;have D57:=D55.call0 Q56;refine RH.ho 13 rfl (V.notB rfl) ?_;refine dq [14] ?_;refine RH.dn ?_;exact K1 (!p56) _ _ sA (D57.pk [0,1,2,3,4,5,6,7]) Y
theorem zM3 {x0:(List zAc)} {x1:(List zAc)} {r:Bool} (Y:zHt x0 x1=some r) (f0:(slR A0 c0 zAc.rep x0).H Z0 w) (f1:(slR A1 c1 zAc.rep x1).H Z0 w) :
 Calls prog 11 #[.slice A0 (x0).length c0,.slice A1 (x1).length c1] w λx w'=>x=.returned (.bool (r))∧Hp Z0 No w w' []:=by
 obtain ⟨D0,D3,hc0⟩:=knA f0;obtain ⟨D4,hc0⟩:=D3.kn hc0 f1;refine eg func11 8 ?_;refine Rn.q rfl (V.lenV U24 rfl) (gg 1 rfl (Rn.q rfl (V.lenV U24 rfl) (gg 2 rfl ?_)));refine bD Y 4 6 (λh5 Y=>?_) (λh5 Y=>?_)
 ·cases Y
  exact Rn.R1 func11 ⟨rfl,D4.pk []⟩
 refine Rn.jG D0 Y (G:=Unit) (λg=>[]) (λg=>[]) (λj g=>j ()) ?_ ?_
 ·rintro _ w6 D6 Y
  try dsimp only at Y
  refine gg 4 rfl ?_
  cases Y
  exact Rn.R1 func11 ⟨rfl,D6.pk []⟩
 intro j1 Y K1;refine gg 1 rfl ?_;refine Rn.loopF (G:=Int) (λg=>[(0,.slice A0 (x0).length c0),(1,.slice A1 (x1).length c1),(5,iv g)]) (λg w'=>Hp Z0 No w w' [slR A0 c0 zAc.rep x0,slR A1 c1 zAc.rep x1]) (λn g=>zBx x0 x1 j1 n g) fuel 0 sA (D4.pk [0,1]) Y (λ_=>rfl) ?_;clear Y;rintro m8 y7 w8 D8 Y N8;replace Y:zBx x0 x1 j1 (m8+1) y7=some r:=Y;rw [zBx] at Y;refine gg 5 rfl (Rn.q rfl (V.lenV U24 rfl) (gg 2 rfl ?_));refine bD Y 4 1 (λh9 Y=>?_) (λh9 Y=>?_)
 ·refine Rn.jG D0 Y (G:=Bool) (λg=>[(0,.slice A0 (x0).length c0),(1,.slice A1 (x1).length c1),(5,iv y7),(41,.bool (g))]) (λg=>[slR A0 c0 zAc.rep x0,slR A1 c1 zAc.rep x1]) (λj g=>j g) ?_ ?_
  ·rintro y10 w11 D11 Y
   try dsimp only at Y
   refine bS Y 4 7 (λh12 Y=>?_) (λh12 Y=>?_)
   ·cases Y
    exact Rn.R1 func11 ⟨rfl,D11.pk []⟩
   exact N8 (W64 (y7+1)) _ _ sA (D11.pk [0,1]) Y
  intro j2 Y K2;refine Rn.drawH rfl D8 ?_;intro w13 D13;refine dq [0,1] ?_;obtain ⟨z14,e14,Y⟩:=zA7 Y;obtain ⟨kk14,ke14,kz14,kl14⟩:=zJb e14;obtain ⟨b14,o14,vs14,hA14,hD14,hR14,hrel14⟩:=Hp.at D13 0 rfl kz14;obtain ⟨Ar15,cr15,Ar17,cr17,Ar19,cr19,rfl,fs15,fs17,fs19⟩:=zAc.relE hrel14;have D22:=Hp.knowL [rdR b14 (o14+kk14*18) [iv z14.Ord,Str (z14.Point.Name),.slice Ar15 (z14.Point.Attrs).length cr15,iv z14.Point.Kind,iv z14.Point.Temp,.bool (z14.Point.Mono),iv z14.Point.Start,iv z14.Point.Time,iv z14.Point.Int_,zAn z14.Point.Re,zAn z14.Point.Im,iv z14.Point.Hist.Scale,zAn z14.Point.Hist.Zero,iv z14.Point.Hist.Pos.Offset,.slice Ar17 (z14.Point.Hist.Pos.Counts).length cr17,iv z14.Point.Hist.Neg.Offset,.slice Ar19 (z14.Point.Hist.Neg.Counts).length cr19,iv z14.Point.Flags],slR Ar15 cr15 zA0.rep z14.Point.Attrs,slR Ar17 cr17 zAq z14.Point.Hist.Pos.Counts,slR Ar19 cr19 zAq z14.Point.Hist.Neg.Counts] _ D13 (knC (λ_ h=>h) ⟨λ_=>hD14,hR14⟩ (knC (λ_ h=>h) fs15 (knC (λ_ h=>h) fs17 (knC (λ_ h=>h) fs19 kn0))));refine RH.tk 2 rfl (λw' hDr=>V.ixA' hA14 kk14 U24 O44 rfl rfl ke14 kl14) ?_;refine dq [3] ?_;refine RH.tk 4 rfl (λw' hDr=>V.ldR0 V3 rfl ((D22.ext hDr).get 2 rfl).2 rfl) ?_;refine dq [5,6] ?_;obtain ⟨z23,e23,Y⟩:=zA7 Y;obtain ⟨kk23,ke23,kz23,kl23⟩:=zJb e23;obtain ⟨b23,o23,vs23,hA23,hD23,hR23,hrel23⟩:=Hp.at D22 1 rfl kz23;obtain ⟨Ar24,cr24,Ar26,cr26,Ar28,cr28,rfl,fs24,fs26,fs28⟩:=zAc.relE hrel23;have D31:=Hp.knowL [rdR b23 (o23+kk23*18) [iv z23.Ord,Str (z23.Point.Name),.slice Ar24 (z23.Point.Attrs).length cr24,iv z23.Point.Kind,iv z23.Point.Temp,.bool (z23.Point.Mono),iv z23.Point.Start,iv z23.Point.Time,iv z23.Point.Int_,zAn z23.Point.Re,zAn z23.Point.Im,iv z23.Point.Hist.Scale,zAn z23.Point.Hist.Zero,iv z23.Point.Hist.Pos.Offset,.slice Ar26 (z23.Point.Hist.Pos.Counts).length cr26,iv z23.Point.Hist.Neg.Offset,.slice Ar28 (z23.Point.Hist.Neg.Counts).length cr28,iv z23.Point.Flags],slR Ar24 cr24 zA0.rep z23.Point.Attrs,slR Ar26 cr26 zAq z23.Point.Hist.Pos.Counts,slR Ar28 cr28 zAq z23.Point.Hist.Neg.Counts] _ D22 (knC (λ_ h=>h) ⟨λ_=>hD23,hR23⟩ (knC (λ_ h=>h) fs24 (knC (λ_ h=>h) fs26 (knC (λ_ h=>h) fs28 kn0))));refine RH.ho 7 rfl (V.ixA' hA23 kk23 U24 O44 rfl rfl ke23 kl23) ?_;refine dq [8] ?_;refine RH.ho 9 rfl (V.ldR0 V3 rfl (D31.get 6 rfl).2 rfl) ?_;refine dq [10,11] ?_;refine zKs Y (RH.partD (t:=28) rfl) (λh32 Y=>?_) (λh32 Y=>?_)
  ·refine dq [12,13,14,15,16,17,18,19,20,21,22,23,24] ?_;refine RH.dn ?_;exact K2 true _ _ sA (D31.pk [0,1]) Y
  refine dq [12,13] ?_;obtain ⟨z33,e33,Y⟩:=zA7 Y;obtain ⟨kk33,ke33,kz33,kl33⟩:=zJb e33;obtain ⟨b33,o33,vs33,hA33,hD33,hR33,hrel33⟩:=Hp.at D31 0 rfl kz33;obtain ⟨Ar34,cr34,Ar36,cr36,Ar38,cr38,rfl,fs34,fs36,fs38⟩:=zAc.relE hrel33;have D41:=Hp.knowL [rdR b33 (o33+kk33*18) [iv z33.Ord,Str (z33.Point.Name),.slice Ar34 (z33.Point.Attrs).length cr34,iv z33.Point.Kind,iv z33.Point.Temp,.bool (z33.Point.Mono),iv z33.Point.Start,iv z33.Point.Time,iv z33.Point.Int_,zAn z33.Point.Re,zAn z33.Point.Im,iv z33.Point.Hist.Scale,zAn z33.Point.Hist.Zero,iv z33.Point.Hist.Pos.Offset,.slice Ar36 (z33.Point.Hist.Pos.Counts).length cr36,iv z33.Point.Hist.Neg.Offset,.slice Ar38 (z33.Point.Hist.Neg.Counts).length cr38,iv z33.Point.Flags],slR Ar34 cr34 zA0.rep z33.Point.Attrs,slR Ar36 cr36 zAq z33.Point.Hist.Pos.Counts,slR Ar38 cr38 zAq z33.Point.Hist.Neg.Counts] _ D31 (knC (λ_ h=>h) ⟨λ_=>hD33,hR33⟩ (knC (λ_ h=>h) fs34 (knC (λ_ h=>h) fs36 (knC (λ_ h=>h) fs38 kn0))));refine RH.tk 14 rfl (λw' hDr=>V.ixA' hA33 kk33 U24 O44 rfl rfl ke33 kl33) ?_;refine dq [15] ?_;refine RH.tk 16 rfl (λw' hDr=>V.ldA (vs:=[_,_,_,_,_,_,_,_,_,_,_,_,_,_,_,_,_]) V42 O42 rfl (Rd.sub ((D41.ext hDr).get 10 rfl).2 1 17) rfl) ?_;refine dq [17,18] ?_;obtain ⟨z42,e42,Y⟩:=zA7 Y;obtain ⟨kk42,ke42,kz42,kl42⟩:=zJb e42;obtain ⟨b42,o42,vs42,hA42,hD42,hR42,hrel42⟩:=Hp.at D41 1 rfl kz42;obtain ⟨Ar43,cr43,Ar45,cr45,Ar47,cr47,rfl,fs43,fs45,fs47⟩:=zAc.relE hrel42;have D50:=Hp.knowL [rdR b42 (o42+kk42*18) [iv z42.Ord,Str (z42.Point.Name),.slice Ar43 (z42.Point.Attrs).length cr43,iv z42.Point.Kind,iv z42.Point.Temp,.bool (z42.Point.Mono),iv z42.Point.Start,iv z42.Point.Time,iv z42.Point.Int_,zAn z42.Point.Re,zAn z42.Point.Im,iv z42.Point.Hist.Scale,zAn z42.Point.Hist.Zero,iv z42.Point.Hist.Pos.Offset,.slice Ar45 (z42.Point.Hist.Pos.Counts).length cr45,iv z42.Point.Hist.Neg.Offset,.slice Ar47 (z42.Point.Hist.Neg.Counts).length cr47,iv z42.Point.Flags],slR Ar43 cr43 zA0.rep z42.Point.Attrs,slR Ar45 cr45 zAq z42.Point.Hist.Pos.Counts,slR Ar47 cr47 zAq z42.Point.Hist.Neg.Counts] _ D41 (knC (λ_ h=>h) ⟨λ_=>hD42,hR42⟩ (knC (λ_ h=>h) fs43 (knC (λ_ h=>h) fs45 (knC (λ_ h=>h) fs47 kn0))));refine RH.ho 19 rfl (V.ixA' hA42 kk42 U24 O44 rfl rfl ke42 kl42) ?_;refine dq [20] ?_;refine RH.ho 21 rfl (V.ldA (vs:=[_,_,_,_,_,_,_,_,_,_,_,_,_,_,_,_,_]) V42 O42 rfl (Rd.sub (D50.get 14 rfl).2 1 17) rfl) ?_;obtain ⟨p51,e51,Y⟩:=zA7 Y;refine RH.cq (cK func20) 22 (zM6 (Z0:=All) e51 (show zA8.rep.rel All _ _ _ from ⟨_,_,rfl,⟨rfl,trivial⟩,⟨_,_,rfl,⟨_,_,rfl,(zA5 (D50.get 11 rfl)).1,(zA5 (D50.get 11 rfl)).2.1,(zA5 (D50.get 11 rfl)).2.2⟩,⟨_,_,rfl,⟨rfl,trivial⟩,⟨_,_,rfl,⟨rfl,trivial⟩,⟨_,_,rfl,⟨rfl,trivial⟩,⟨_,_,rfl,⟨rfl,trivial⟩,⟨_,_,rfl,⟨rfl,trivial⟩,⟨_,_,rfl,⟨rfl,trivial⟩,⟨_,_,rfl,⟨rfl,trivial⟩,⟨_,_,rfl,⟨rfl,trivial⟩,⟨_,_,rfl,⟨_,_,rfl,⟨rfl,trivial⟩,⟨_,_,rfl,⟨rfl,trivial⟩,⟨_,_,rfl,⟨_,_,rfl,⟨rfl,trivial⟩,⟨_,_,rfl,(zA5 (D50.get 12 rfl)).1,(zA5 (D50.get 12 rfl)).2.1,(zA5 (D50.get 12 rfl)).2.2⟩⟩,⟨_,_,rfl,⟨rfl,trivial⟩,⟨_,_,rfl,(zA5 (D50.get 13 rfl)).1,(zA5 (D50.get 13 rfl)).2.1,(zA5 (D50.get 13 rfl)).2.2⟩⟩⟩⟩⟩,⟨rfl,trivial⟩⟩⟩⟩⟩⟩⟩⟩⟩⟩⟩⟩) (show zA8.rep.rel All _ _ _ from ⟨_,_,rfl,⟨rfl,trivial⟩,⟨_,_,rfl,⟨_,_,rfl,(zA5 (D50.get 15 rfl)).1,(zA5 (D50.get 15 rfl)).2.1,(zA5 (D50.get 15 rfl)).2.2⟩,⟨_,_,rfl,⟨rfl,trivial⟩,⟨_,_,rfl,⟨rfl,trivial⟩,⟨_,_,rfl,⟨rfl,trivial⟩,⟨_,_,rfl,⟨rfl,trivial⟩,⟨_,_,rfl,⟨rfl,trivial⟩,⟨_,_,rfl,⟨rfl,trivial⟩,⟨_,_,rfl,⟨rfl,trivial⟩,⟨_,_,rfl,⟨rfl,trivial⟩,⟨_,_,rfl,⟨_,_,rfl,⟨rfl,trivial⟩,⟨_,_,rfl,⟨rfl,trivial⟩,⟨_,_,rfl,⟨_,_,rfl,⟨rfl,trivial⟩,⟨_,_,rfl,(zA5 (D50.get 16 rfl)).1,(zA5 (D50.get 16 rfl)).2.1,(zA5 (D50.get 16 rfl)).2.2⟩⟩,⟨_,_,rfl,⟨rfl,trivial⟩,⟨_,_,rfl,(zA5 (D50.get 17 rfl)).1,(zA5 (D50.get 17 rfl)).2.1,(zA5 (D50.get 17 rfl)).2.2⟩⟩⟩⟩⟩,⟨rfl,trivial⟩⟩⟩⟩⟩⟩⟩⟩⟩⟩⟩⟩) :) ?_;rintro _ w51 ⟨rfl,Q51⟩;refine ⟨_,rfl,((Ext.refl _).trans Q51.fr),?_⟩;have D52:=D50.call0 Q51;refine RH.ho 23 rfl (V.notB rfl) ?_;refine dq [24] ?_;refine RH.dn ?_;exact K2 (!p51) _ _ sA (D52.pk [0,1]) Y
 exact K1 () _ _ (sb trivial) (D8.pk []) Y
theorem zK7 {x0:(List zAc)} {r:Bool} (Y:zGb x0=some r) (f0:(slR A0 c0 zAc.rep x0).H Z0 w) (f1:(rdR 1 0 gl1).H Z0 w) (f2:(rdR 3 0 gl3).H Z0 w) :
 Calls prog 4 #[.slice A0 (x0).length c0] w λx w'=>x=.returned (.bool (r))∧Hp Z0 No w w' []:=by
 obtain ⟨D0,D4,hc0⟩:=knA f0;obtain ⟨D5,hc0⟩:=D4.kn hc0 f1;obtain ⟨D6,hc0⟩:=D5.kn hc0 f2;refine eg func4 7 ?_;obtain ⟨p7,e7,Y⟩:=zA7 Y
 refine Rn.c0 (cK func8) (zLx (Z0:=All) e7 (zGo (D6.get 1 rfl)) (zGo (D6.get 2 rfl)) :) D6 λw7 _ D8=>?_
 refine Rn.q rfl (V.notB rfl) (gg 1 rfl ?_);refine bS Y 4 5 (λh9 Y=>?_) (λh9 Y=>?_)
 ·cases Y
  exact Rn.R1 func4 ⟨rfl,D8.pk []⟩
 obtain ⟨p10,e10,Y⟩:=zA7 Y
 refine Rn.c0 (cK func13) (zLm (Z0:=All) e10 (zA5 (D8.get 0 rfl)) :) D8 λw10 _ D11=>?_
 refine Rn.q rfl (V.notB rfl) (gg 1 rfl ?_);refine Rn.cutR [] [(0,.slice A0 (x0).length c0),(21,.bool (decide (((!p10)=true)∨((x0.length:Int)=0))))] (λK12=>?_) ?_
 ·refine Rn.part (t:=17) rfl (λh13=>?_) (λh13=>?_)
  ·refine gg 4 rfl ?_;exact K12 _ sA
  refine gg 1 rfl (Rn.q rfl (V.lenV U24 rfl) (gg 2 rfl ?_));exact K12 _ sA
 refine gg 1 rfl ?_;refine bD Y 4 4 (λh14 Y=>?_) (λh14 Y=>?_)
 ·cases Y
  exact Rn.R1 func4 ⟨rfl,D11.pk []⟩
 obtain ⟨z15,e15,Y⟩:=zA7 Y;refine Rn.ixH D11 0 rfl e15 rfl rfl rfl U24 O44 rfl rfl rfl rfl ?_;rintro b15 o15 vs15 hr15 D15;obtain ⟨Ar16,cr16,Ar18,cr18,Ar20,cr20,rfl,fs16,fs18,fs20⟩:=zAc.relE hr15;have D23:=Hp.know1 (M:=[slR Ar16 cr16 zA0.rep z15.Point.Attrs,slR Ar18 cr18 zAq z15.Point.Hist.Pos.Counts,slR Ar20 cr20 zAq z15.Point.Hist.Neg.Counts]) D15 (λ_ h=>h) (knC (λ_ h=>h) fs16 (knC (λ_ h=>h) fs18 (knC (λ_ h=>h) fs20 kn0)));refine gg 1 rfl (Rn.q rfl (V.ldA (vs:=[_,_,_,_,_,_,_,_,_,_,_,_,_,_,_,_,_]) V42 O42 rfl (Rd.sub (D23.get 3 rfl).2 1 17) rfl) ?_);obtain ⟨p24,e24,Y⟩:=zA7 Y
 refine Rn.c0 (cK func14) (zI4 (Z0:=All) e24 (show zA8.rep.rel All _ _ _ from ⟨_,_,rfl,⟨rfl,trivial⟩,⟨_,_,rfl,⟨_,_,rfl,(zA5 (D23.get 4 rfl)).1,(zA5 (D23.get 4 rfl)).2.1,(zA5 (D23.get 4 rfl)).2.2⟩,⟨_,_,rfl,⟨rfl,trivial⟩,⟨_,_,rfl,⟨rfl,trivial⟩,⟨_,_,rfl,⟨rfl,trivial⟩,⟨_,_,rfl,⟨rfl,trivial⟩,⟨_,_,rfl,⟨rfl,trivial⟩,⟨_,_,rfl,⟨rfl,trivial⟩,⟨_,_,rfl,⟨rfl,trivial⟩,⟨_,_,rfl,⟨rfl,trivial⟩,⟨_,_,rfl,⟨_,_,rfl,⟨rfl,trivial⟩,⟨_,_,rfl,⟨rfl,trivial⟩,⟨_,_,rfl,⟨_,_,rfl,⟨rfl,trivial⟩,⟨_,_,rfl,(zA5 (D23.get 5 rfl)).1,(zA5 (D23.get 5 rfl)).2.1,(zA5 (D23.get 5 rfl)).2.2⟩⟩,⟨_,_,rfl,⟨rfl,trivial⟩,⟨_,_,rfl,(zA5 (D23.get 6 rfl)).1,(zA5 (D23.get 6 rfl)).2.1,(zA5 (D23.get 6 rfl)).2.2⟩⟩⟩⟩⟩,⟨rfl,trivial⟩⟩⟩⟩⟩⟩⟩⟩⟩⟩⟩⟩) :) D23 λw24 _ D25=>?_
 refine gg 5 rfl ?_;obtain ⟨z26,e26,Y⟩:=zA7 Y;refine Rn.ixH D25 0 rfl e26 rfl rfl rfl U24 O44 rfl rfl rfl rfl ?_;rintro b26 o26 vs26 hr26 D26;obtain ⟨Ar27,cr27,Ar29,cr29,Ar31,cr31,rfl,fs27,fs29,fs31⟩:=zAc.relE hr26;have D34:=Hp.know1 (M:=[slR Ar27 cr27 zA0.rep z26.Point.Attrs,slR Ar29 cr29 zAq z26.Point.Hist.Pos.Counts,slR Ar31 cr31 zAq z26.Point.Hist.Neg.Counts]) D26 (λ_ h=>h) (knC (λ_ h=>h) fs27 (knC (λ_ h=>h) fs29 (knC (λ_ h=>h) fs31 kn0)));refine gg 1 rfl (Rn.q rfl (V.ldA (vs:=[_,_,_,_,_,_,_,_,_,_,_,_,_,_,_,_,_]) V42 O42 rfl (Rd.sub (D34.get 7 rfl).2 1 17) rfl) ?_);obtain ⟨p35,e35,Y⟩:=zA7 Y
 refine Rn.c0 (cK func15) (zIs (Z0:=All) e35 (show zA8.rep.rel All _ _ _ from ⟨_,_,rfl,⟨rfl,trivial⟩,⟨_,_,rfl,⟨_,_,rfl,(zA5 (D34.get 8 rfl)).1,(zA5 (D34.get 8 rfl)).2.1,(zA5 (D34.get 8 rfl)).2.2⟩,⟨_,_,rfl,⟨rfl,trivial⟩,⟨_,_,rfl,⟨rfl,trivial⟩,⟨_,_,rfl,⟨rfl,trivial⟩,⟨_,_,rfl,⟨rfl,trivial⟩,⟨_,_,rfl,⟨rfl,trivial⟩,⟨_,_,rfl,⟨rfl,trivial⟩,⟨_,_,rfl,⟨rfl,trivial⟩,⟨_,_,rfl,⟨rfl,trivial⟩,⟨_,_,rfl,⟨_,_,rfl,⟨rfl,trivial⟩,⟨_,_,rfl,⟨rfl,trivial⟩,⟨_,_,rfl,⟨_,_,rfl,⟨rfl,trivial⟩,⟨_,_,rfl,(zA5 (D34.get 9 rfl)).1,(zA5 (D34.get 9 rfl)).2.1,(zA5 (D34.get 9 rfl)).2.2⟩⟩,⟨_,_,rfl,⟨rfl,trivial⟩,⟨_,_,rfl,(zA5 (D34.get 10 rfl)).1,(zA5 (D34.get 10 rfl)).2.1,(zA5 (D34.get 10 rfl)).2.2⟩⟩⟩⟩⟩,⟨rfl,trivial⟩⟩⟩⟩⟩⟩⟩⟩⟩⟩⟩⟩) :) D34 λw35 _ D36=>?_
 replace D36:=D36.nq;refine gg 11 rfl ?_;refine Rn.jG D0 Y (G:=Int) (λg=>[(0,.slice A0 (x0).length c0),(3,iv g)]) (λg=>[slR A0 c0 zAc.rep x0,rdR 1 0 gl1,rdR 3 0 gl3]) (λj g=>j g) ?_ ?_
 ·rintro y37 w38 D38 Y
  try dsimp only at Y
  refine gg 3 rfl ?_;obtain ⟨p39,e39,Y⟩:=zA7 Y
  refine Rn.c2 (cK func12) (zO1 (Z0:=All) e39 (zA5 (D38.get 0 rfl)) (zGo (D38.get 1 rfl)) (zGo (D38.get 2 rfl)) :) λA39_0_0 c39_0_0 w39 Q39=>?_
  have D41:=D38.callF (flC (zAm zEj _ _ _ _) fl0) Q39;refine gg 13 rfl ?_;refine Rn.cutR [] [(0,.slice A0 (x0).length c0),(3,iv y37),(7,.slice A39_0_0 (p39.1).length c39_0_0),(8,iv p39.2),(65,.bool (decide ((p39.2≠y37)∨(p39.2≠0))))] (λK42=>?_) ?_
  ·refine Rn.partD (t:=62) rfl (λh43=>?_) (λh43=>?_)
   ·refine gg 3 rfl ?_;exact K42 _ sA
   refine gg 3 rfl ?_;exact K42 _ sA
  refine gg 1 rfl ?_;refine bD Y 6 4 (λh44 Y=>?_) (λh44 Y=>?_)
  ·refine Rn.cutR [8] [(73,.bool (decide ((p39.2=y37)∧((p39.1.length:Int)=0))))] (λK45=>?_) ?_
   ·refine Rn.partD (t:=69) rfl (λh46=>?_) (λh46=>?_)
    ·refine gg 1 rfl (Rn.q rfl (V.lenV U22 rfl) (gg 2 rfl ?_));exact K45 _ sA
    refine gg 4 rfl ?_;exact K45 _ sA
   refine gg 2 rfl ?_
   cases Y
   exact Rn.R1 func4 ⟨rfl,D41.pk []⟩
  obtain ⟨p47,e47,Y⟩:=zA7 Y;have D48:=D41.dup 1 rfl (λ_ h=>h);have D50:=D48.dup 2 rfl (λ_ h=>h);have D52:=D50.cu [0,1,2] [3,4,5];refine Rn.cq (cK func9) (m_chunk_Read_s2_sim e47 D52.lend :) ?_;rintro _ w47 ⟨A47_0_0,c47_0_0,rfl,Q47,hl47_0⟩;refine ⟨_,rfl,?_⟩;have D55:=D52.callAZ Q47;refine gg 11 rfl ?_;refine Rn.jG D0 Y (G:=Unit) (λg=>[(0,.slice A0 (x0).length c0),(9,.slice A47_0_0 (p47.1).length c47_0_0),(10,iv p47.2.1)]) (λg=>[slR A0 c0 zAc.rep x0,rdR 1 0 gl1,rdR 3 0 gl3,zAy 44 A47_0_0 c47_0_0 zAc.rep p47.1]) (λj g=>j ()) ?_ ?_
  ·rintro _ w56 D56 Y
   try dsimp only at Y
   refine gg 5 rfl ?_;refine Rn.jR D0 Y (G:=Bool) [7] (λg=>[(94,.bool (g))]) (λg=>[rdR 1 0 gl1,rdR 3 0 gl3,zAy 44 A47_0_0 c47_0_0 zAc.rep p47.1]) (λj g=>j g) ?_ ?_
   ·rintro y57 w58 D58 Y
    try dsimp only at Y
    refine gg 2 rfl ?_
    cases Y
    exact Rn.R1 func4 ⟨rfl,D58.pk []⟩
   intro j3 Y K3;refine zKs Y (Rn.partD (t:=90) rfl) (λh59 Y=>?_) (λh59 Y=>?_)
   ·refine gg 2 rfl ?_;obtain ⟨p60,e60,Y⟩:=zA7 Y
    refine Rn.c0 (cK func11) (zM3 (Z0:=All) e60 (zA5 (D56.get 0 rfl)) (zAw (D56.get 3 rfl)) :) D56 λw60 _ D61=>?_
    refine gg 1 rfl ?_;exact K3 p60 _ _ sA (D61.pk [1,2,3]) Y
   refine gg 4 rfl ?_;exact K3 false _ _ sA (D56.pk [1,2,3]) Y
  intro j2 Y K2;refine gg 1 rfl ?_;refine Rn.loopF (G:=(List UInt8)×Int) (λg=>[(0,.slice A0 (x0).length c0),(7,.slice A39_0_0 (p39.1).length c39_0_0),(9,.slice A47_0_0 (p47.1).length c47_0_0),(10,iv p47.2.1),(11,iv (g.2))]) (λg w'=>Hp Z0 No w w' [slR A0 c0 zAc.rep x0,rdR 1 0 gl1,rdR 3 0 gl3,zAy 44 A47_0_0 c47_0_0 zAc.rep p47.1,zAy 5 A39_0_0 c39_0_0 zBu (g.1)]∧(g.1).length=(p39.1).length) (λn g=>zBa p39 j2 n g.1 g.2) fuel (p47.2.2,0) sA (⟨D55.pk [0,1,2,3,4],hl47_0⟩) Y (λ_=>rfl) ?_;clear Y;rintro m64 ⟨y62,y63⟩ w64 ⟨D64,hl62⟩ Y N64;replace hl62:y62.length=(p39.1).length:=hl62;replace Y:zBa p39 j2 (m64+1) y62 y63=some r:=Y;rw [zBa] at Y;refine gg 5 rfl (Rn.q rfl (V.lenV U22 rfl) (gg 2 rfl ?_));refine bD Y 6 1 (λh65 Y=>?_) (λh65 Y=>?_)
  ·obtain ⟨z66,e66,Y⟩:=zA7 Y;obtain ⟨kk66,ke66,kz66,kl66⟩:=zJb e66;obtain ⟨g66,vs66,hA66,hR66,hrel66⟩:=D64.ownAt 4 rfl kz66;subst hA66;obtain ⟨rfl,_⟩:=hrel66;refine Rn.q rfl (V.ixE kk66 U22 O5 rfl rfl ke66 (Nat.lt_of_lt_of_eq kl66 hl62)) (Rn.stI D64 4 rfl ke66 kl66 rfl rfl O5 rfl rfl rfl (vs:=[u8v (0:UInt8)]) rfl (⟨rfl,trivial⟩) ?_);intro w67 D67;refine gg 7 rfl ?_;exact N64 ((zLd y62 y63 (0:UInt8)),(W64 (y63+1))) _ _ sA (⟨D67.pk [0,1,2,3,4],((zEi _ _ _).trans hl62)⟩) Y
  exact K2 () _ _ sA (D64.pk [0,1,2,3]) Y
 intro j1 Y K1;refine gg 1 rfl ?_;refine Rn.loopF (G:=Int×Int) (λg=>[(0,.slice A0 (x0).length c0),(3,iv (g.1)),(4,Str (p35.1)),(6,iv (g.2))]) (λg w'=>Hp Z0 No w w' [slR A0 c0 zAc.rep x0,rdR 1 0 gl1,rdR 3 0 gl3]) (λn g=>zAz x0 p35 j1 n g.1 g.2) fuel (p24,0) sA (D36.pk [0,1,2]) Y (λ_=>rfl) ?_;clear Y;rintro m70 ⟨y68,y69⟩ w70 D70 Y N70;replace Y:zAz x0 p35 j1 (m70+1) y68 y69=some r:=Y;rw [zAz] at Y;refine gg 5 rfl (Rn.q rfl (V.lenV U24 rfl) (gg 2 rfl ?_));refine Rn.cutR [] [(0,.slice A0 (x0).length c0),(3,iv y68),(4,Str (p35.1)),(6,iv y69),(42,.bool (decide ((y69<(x0.length:Int))∧(y68=0))))] (λK71=>?_) ?_
 ·refine Rn.partD (t:=39) rfl (λh72=>?_) (λh72=>?_)
  ·refine gg 3 rfl ?_;exact K71 _ sA
  refine gg 3 rfl ?_;exact K71 _ sA
 refine gg 1 rfl ?_;refine bD Y 3 1 (λh73 Y=>?_) (λh73 Y=>?_)
 ·refine Rn.drawH rfl D70 ?_;intro w74 D74;refine dq [0,1,2] ?_;obtain ⟨z75,e75,Y⟩:=zA7 Y;refine RH.cutH 3 (by kernel_rfl) D74 0 rfl e75 rfl rfl rfl U24 O44 rfl rfl rfl rfl rfl ?_;intro A75 c75 D75;refine dq [4,5] ?_;obtain ⟨z77,e77,Y⟩:=zA7 Y;obtain ⟨kk77,ke77,kz77,kl77⟩:=zJb e77;obtain ⟨b77,o77,vs77,hA77,hD77,hR77,hrel77⟩:=Hp.at D75 0 rfl kz77;obtain ⟨Ar78,cr78,Ar80,cr80,Ar82,cr82,rfl,fs78,fs80,fs82⟩:=zAc.relE hrel77;have D85:=Hp.knowL [rdR b77 (o77+kk77*18) [iv z77.Ord,Str (z77.Point.Name),.slice Ar78 (z77.Point.Attrs).length cr78,iv z77.Point.Kind,iv z77.Point.Temp,.bool (z77.Point.Mono),iv z77.Point.Start,iv z77.Point.Time,iv z77.Point.Int_,zAn z77.Point.Re,zAn z77.Point.Im,iv z77.Point.Hist.Scale,zAn z77.Point.Hist.Zero,iv z77.Point.Hist.Pos.Offset,.slice Ar80 (z77.Point.Hist.Pos.Counts).length cr80,iv z77.Point.Hist.Neg.Offset,.slice Ar82 (z77.Point.Hist.Neg.Counts).length cr82,iv z77.Point.Flags],slR Ar78 cr78 zA0.rep z77.Point.Attrs,slR Ar80 cr80 zAq z77.Point.Hist.Pos.Counts,slR Ar82 cr82 zAq z77.Point.Hist.Neg.Counts] _ D75 (knC (λ_ h=>h) ⟨λ_=>hD77,hR77⟩ (knC (λ_ h=>h) fs78 (knC (λ_ h=>h) fs80 (knC (λ_ h=>h) fs82 kn0))));refine RH.ho 6 rfl (V.ixA' hA77 kk77 U24 O44 rfl rfl ke77 kl77) ?_;refine RH.ho 7 rfl (V.ldA (vs:=[_,_,_,_,_,_,_,_,_,_,_,_,_,_,_,_,_,_]) V44 O44 rfl (Rd.pre (D85.get 4 rfl).2 18) rfl) ?_;obtain ⟨p86,e86,Y⟩:=zA7 Y;refine RH.cq (cK func16) 8 (zMq (Z0:=All) e86 (show zAc.rep.rel All _ _ _ from ⟨_,_,rfl,⟨rfl,trivial⟩,⟨_,_,rfl,⟨rfl,trivial⟩,⟨_,_,rfl,⟨_,_,rfl,(zA5 (D85.get 5 rfl)).1,(zA5 (D85.get 5 rfl)).2.1,(zA5 (D85.get 5 rfl)).2.2⟩,⟨_,_,rfl,⟨rfl,trivial⟩,⟨_,_,rfl,⟨rfl,trivial⟩,⟨_,_,rfl,⟨rfl,trivial⟩,⟨_,_,rfl,⟨rfl,trivial⟩,⟨_,_,rfl,⟨rfl,trivial⟩,⟨_,_,rfl,⟨rfl,trivial⟩,⟨_,_,rfl,⟨rfl,trivial⟩,⟨_,_,rfl,⟨rfl,trivial⟩,⟨_,_,rfl,⟨_,_,rfl,⟨rfl,trivial⟩,⟨_,_,rfl,⟨rfl,trivial⟩,⟨_,_,rfl,⟨_,_,rfl,⟨rfl,trivial⟩,⟨_,_,rfl,(zA5 (D85.get 6 rfl)).1,(zA5 (D85.get 6 rfl)).2.1,(zA5 (D85.get 6 rfl)).2.2⟩⟩,⟨_,_,rfl,⟨rfl,trivial⟩,⟨_,_,rfl,(zA5 (D85.get 7 rfl)).1,(zA5 (D85.get 7 rfl)).2.1,(zA5 (D85.get 7 rfl)).2.2⟩⟩⟩⟩⟩,⟨rfl,trivial⟩⟩⟩⟩⟩⟩⟩⟩⟩⟩⟩⟩⟩) (zA5 (D85.get 3 rfl)) :) ?_;rintro _ w86 ⟨rfl,Q86⟩;refine ⟨_,rfl,((Ext.refl _).trans Q86.fr),?_⟩;have D87:=D85.call0 Q86;refine dq [9] ?_;refine RH.dn ?_;refine gg 6 rfl ?_;exact N70 (p86,(W64 (y69+1))) _ _ sA (D87.pk [0,1,2]) Y
 exact K1 y68 _ _ sA (D70.pk [0,1,2]) Y
end Go.Proofs.YthjhejgjcdajdaaGreatDoor
