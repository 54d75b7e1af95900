import Derived.Test.YthjhejgjcdajdaaGreatDoorRows
import Derived.Test.YthjhejgjcdajdaaGreatDoorVD2
import Derived.Test.YthjhejgjcdajdaaGreatDoorSD3
set_option maxRecDepth 20000
set_option maxHeartbeats 4000000
set_option linter.unusedVariables false
set_option linter.unusedSimpArgs false
namespace Go.Proofs.YthjhejgjcdajdaaGreatDoor
open Go Go.RowKit Go.Wk _root_.Go.Proofs.Tryz
variable {Z0:Nat→Prop} {w:World} {F0:Nat→Prop} {F1:Nat→Prop} {F2:Nat→Prop} {F3:Nat→Prop} {F4:Nat→Prop} {F5:Nat→Prop} {b0:Nat} {b1:Nat} {b2:Nat} {b3:Nat} {b4:Nat} {b5:Nat} {A0:Option Addr} {A1:Option Addr} {A2:Option Addr} {A3:Option Addr} {A4:Option Addr} {A5:Option Addr} {c0:Nat} {c1:Nat} {c2:Nat} {c3:Nat} {c4:Nat} {c5:Nat} {cs0:List Value} {cs1:List Value} {cs2:List Value} {cs3:List Value}
theorem zJ2 {x0:zA6} {r:Int} (hM:zE7 x0=some r) (h0:zA6.rep.rel Z0 w cs0 x0) :
 Calls prog 14 #[.agg cs0.toArray] w fun x w'=>x=.returned (iv r)∧Hp Z0 No w w' []:=by
 have hm0:=Hp.nil Z0 No w;have hc0:=Calm.nil;obtain ⟨Ar1,cr1,Ar3,cr3,Ar5,cr5,rfl,fs1,fs3,fs5⟩:=zA6.relE h0;obtain ⟨hm7,hc0⟩:=hm0.kn (r:=slR Ar1 cr1 zA.rep x0.Attrs) hc0 fs1;obtain ⟨hm8,hc0⟩:=hm7.kn (r:=slR Ar3 cr3 zAq x0.Hist.Pos.Counts) hc0 fs3;obtain ⟨hm9,hc0⟩:=hm8.kn (r:=slR Ar5 cr5 zAq x0.Hist.Neg.Counts) hc0 fs5;refine Rn.en func14 ?_;refine gg 2 rfl (Rn.box rfl rfl rfl rfl rfl ?_);intro b10 w10 hb10 m10 e10;have hm12:=(hm9.addBox hb10 e10 m10).nf [_,_,_,zAh _ _ [_,_,_,_,_,_,_,_,_,_,_,_,_,_,_,_,_]] rfl;refine gg 6 rfl (Rn.q rfl (V.ldB isAgg9 rfl (hm12.get 3 rfl) rfl) (gg 1 rfl (Rn.q rfl (V.ldB isAgg34 rfl (hm12.get 3 rfl) rfl) ?_)));obtain ⟨p13,e13,hM⟩:=zAb hM
 refine Rn.c0 (cK func45) (zJ5 (Z0:=All) e13 (zA7 (hm12.get 0 rfl)) :) hm12 fun w13 _ hm14=>?_
 refine gg 7 rfl ?_;refine aD hM (fun h15 hM=>?_) (fun h15 hM=>?_)
 ·refine gg 5 rfl ?_
  cases hM
  exact Rn.R1 func14 ⟨rfl,hm14.pk []⟩
 refine gg 5 rfl (Rn.q rfl (V.ldB isAgg3 rfl (hm14.get 3 rfl) rfl) (gg 2 rfl ?_));refine Rn.cutR [] [(1,pt b10 0),(19,.bool (decide ((x0.Kind<1)∨(x0.Kind>5))))] (fun hk16=>?_) ?_
 ·refine Rn.partD (t:=15) rfl (fun h17=>?_) (fun h17=>?_)
  ·refine gg 4 rfl ?_;exact hk16 _ sA
  refine gg 1 rfl (Rn.q rfl (V.ldB isAgg3 rfl (hm14.get 3 rfl) rfl) (gg 2 rfl ?_));exact hk16 _ sA
 refine gg 1 rfl ?_;refine aD hM (fun h18 hM=>?_) (fun h18 hM=>?_)
 ·refine gg 4 rfl ?_
  cases hM
  exact Rn.R1 func14 ⟨rfl,hm14.pk []⟩
 refine gg 5 rfl (Rn.q rfl (V.ldB isAgg3 rfl (hm14.get 3 rfl) rfl) (gg 2 rfl ?_));refine Rn.cutR [8,9,10,11,12,13,14,15,16,17,18,19,20,21,22] [(1,pt b10 0),(27,.bool (decide ((x0.Kind=3)∧(x0.Temp≠0))))] (fun hk19=>?_) ?_
 ·refine Rn.partD (t:=23) rfl (fun h20=>?_) (fun h20=>?_)
  ·refine gg 1 rfl (Rn.q rfl (V.ldB isAgg3 rfl (hm14.get 3 rfl) rfl) (gg 2 rfl ?_));exact hk19 _ sA
  refine gg 4 rfl ?_;exact hk19 _ sA
 refine gg 1 rfl ?_;refine Rn.cutR [] [(1,pt b10 0),(42,.bool (decide (((x0.Kind=3)∧(x0.Temp≠0))∨(((x0.Kind≠3)∧(x0.Temp≠1))∧(x0.Temp≠2)))))] (fun hk21=>?_) ?_
 ·refine Rn.partD (t:=28) rfl (fun h22=>?_) (fun h22=>?_)
  ·refine gg 14 rfl ?_;exact hk21 _ sA
  refine gg 1 rfl (Rn.q rfl (V.ldB isAgg3 rfl (hm14.get 3 rfl) rfl) (gg 2 rfl ?_));refine Rn.cutR [17,18,19,20,21,22] [(1,pt b10 0),(28,.bool false),(36,.bool (decide ((x0.Kind≠3)∧(x0.Temp≠1))))] (fun hk23=>?_) ?_
  ·refine Rn.partD (t:=32) rfl (fun h24=>?_) (fun h24=>?_)
   ·refine gg 1 rfl (Rn.q rfl (V.ldB isAgg3 rfl (hm14.get 3 rfl) rfl) (gg 2 rfl ?_));exact hk23 _ sA
   refine gg 4 rfl ?_;exact hk23 _ sA
  refine gg 1 rfl ?_;refine Rn.cutR [22] [(1,pt b10 0),(28,.bool false),(41,.bool (decide (((x0.Kind≠3)∧(x0.Temp≠1))∧(x0.Temp≠2))))] (fun hk25=>?_) ?_
  ·refine Rn.partD (t:=37) rfl (fun h26=>?_) (fun h26=>?_)
   ·refine gg 1 rfl (Rn.q rfl (V.ldB isAgg3 rfl (hm14.get 3 rfl) rfl) (gg 2 rfl ?_));exact hk25 _ sA
   refine gg 4 rfl ?_;exact hk25 _ sA
  refine gg 1 rfl ?_;exact hk21 _ sA
 refine gg 1 rfl ?_;refine aD hM (fun h27 hM=>?_) (fun h27 hM=>?_)
 ·refine gg 4 rfl ?_
  cases hM
  exact Rn.R1 func14 ⟨rfl,hm14.pk []⟩
 refine gg 5 rfl (Rn.q rfl (V.ldB isAgg4 rfl (hm14.get 3 rfl) rfl) (gg 1 rfl ?_));refine Rn.cutR [7,8,9,10,11] [(1,pt b10 0),(49,.bool (decide ((x0.Mono=true)∧(x0.Kind≠1))))] (fun hk28=>?_) ?_
 ·refine Rn.part (t:=45) rfl (fun h29=>?_) (fun h29=>?_)
  ·refine gg 1 rfl (Rn.q rfl (V.ldB isAgg3 rfl (hm14.get 3 rfl) rfl) (gg 2 rfl ?_));exact hk28 _ sA
  refine gg 4 rfl ?_;exact hk28 _ sA
 refine gg 1 rfl ?_;refine Rn.cutR [] [(1,pt b10 0),(54,.bool (decide (((x0.Mono=true)∧(x0.Kind≠1))∧(x0.Kind≠2))))] (fun hk30=>?_) ?_
 ·refine Rn.partD (t:=50) rfl (fun h31=>?_) (fun h31=>?_)
  ·refine gg 1 rfl (Rn.q rfl (V.ldB isAgg3 rfl (hm14.get 3 rfl) rfl) (gg 2 rfl ?_));exact hk30 _ sA
  refine gg 4 rfl ?_;exact hk30 _ sA
 refine gg 1 rfl ?_;refine aD hM (fun h32 hM=>?_) (fun h32 hM=>?_)
 ·refine gg 4 rfl ?_
  cases hM
  exact Rn.R1 func14 ⟨rfl,hm14.pk []⟩
 refine gg 5 rfl (Rn.q rfl (V.ldB isAgg3 rfl (hm14.get 3 rfl) rfl) (gg 2 rfl ?_));refine Rn.cutR [8,9,10,11,12,13,14,15,16,17,18,19,20,21,22,23,24,25,26,27,28,29,30,31] [(1,pt b10 0),(62,.bool (decide ((x0.Start<0)∨(x0.Time>4503599627370496))))] (fun hk33=>?_) ?_
 ·refine Rn.partD (t:=58) rfl (fun h34=>?_) (fun h34=>?_)
  ·refine gg 4 rfl ?_;exact hk33 _ sA
  refine gg 1 rfl (Rn.q rfl (V.ldB isAgg3 rfl (hm14.get 3 rfl) rfl) (gg 2 rfl ?_));exact hk33 _ sA
 refine gg 1 rfl ?_;refine Rn.cutR [20,21,22,23,24,25,26,27,28,29,30,31] [(1,pt b10 0),(74,.bool (decide (((x0.Start<0)∨(x0.Time>4503599627370496))∨((x0.Kind=3)∧(x0.Start≠x0.Time)))))] (fun hk35=>?_) ?_
 ·refine Rn.partD (t:=63) rfl (fun h36=>?_) (fun h36=>?_)
  ·refine gg 11 rfl ?_;exact hk35 _ sA
  refine gg 1 rfl (Rn.q rfl (V.ldB isAgg3 rfl (hm14.get 3 rfl) rfl) (gg 2 rfl ?_));refine Rn.cutR [19,20,21,22,23,24,25,26,27,28,29,30,31] [(1,pt b10 0),(63,.bool false),(73,.bool (decide ((x0.Kind=3)∧(x0.Start≠x0.Time))))] (fun hk37=>?_) ?_
  ·refine Rn.partD (t:=67) rfl (fun h38=>?_) (fun h38=>?_)
   ·refine gg 1 rfl (Rn.q rfl (V.ldB isAgg3 rfl (hm14.get 3 rfl) rfl) (gg 1 rfl (Rn.q rfl (V.ldB isAgg3 rfl (hm14.get 3 rfl) rfl) (gg 2 rfl ?_))));exact hk37 _ sA
   refine gg 6 rfl ?_;exact hk37 _ sA
  refine gg 1 rfl ?_;exact hk35 _ sA
 refine gg 1 rfl ?_;refine Rn.cutR [] [(1,pt b10 0),(86,.bool (decide ((((x0.Start<0)∨(x0.Time>4503599627370496))∨((x0.Kind=3)∧(x0.Start≠x0.Time)))∨((x0.Kind≠3)∧(x0.Start≥x0.Time)))))] (fun hk39=>?_) ?_
 ·refine Rn.partD (t:=75) rfl (fun h40=>?_) (fun h40=>?_)
  ·refine gg 11 rfl ?_;exact hk39 _ sA
  refine gg 1 rfl (Rn.q rfl (V.ldB isAgg3 rfl (hm14.get 3 rfl) rfl) (gg 2 rfl ?_));refine Rn.cutR [31] [(1,pt b10 0),(75,.bool false),(85,.bool (decide ((x0.Kind≠3)∧(x0.Start≥x0.Time))))] (fun hk41=>?_) ?_
  ·refine Rn.partD (t:=79) rfl (fun h42=>?_) (fun h42=>?_)
   ·refine gg 1 rfl (Rn.q rfl (V.ldB isAgg3 rfl (hm14.get 3 rfl) rfl) (gg 1 rfl (Rn.q rfl (V.ldB isAgg3 rfl (hm14.get 3 rfl) rfl) (gg 2 rfl ?_))));exact hk41 _ sA
   refine gg 6 rfl ?_;exact hk41 _ sA
  refine gg 1 rfl ?_;exact hk39 _ sA
 refine gg 1 rfl ?_;refine aD hM (fun h43 hM=>?_) (fun h43 hM=>?_)
 ·refine gg 4 rfl ?_
  cases hM
  exact Rn.R1 func14 ⟨rfl,hm14.pk []⟩
 refine gg 5 rfl (Rn.q rfl (V.ldB isAgg3 rfl (hm14.get 3 rfl) rfl) (gg 2 rfl ?_));refine Rn.cutR [8,9,10,11,12,13,14,15,16,17,18,19,20,21,22,23,24,25,26,27,28] [(1,pt b10 0),(94,.bool (decide ((x0.Kind≠1)∧(x0.Int_≠0))))] (fun hk44=>?_) ?_
 ·refine Rn.partD (t:=90) rfl (fun h45=>?_) (fun h45=>?_)
  ·refine gg 1 rfl (Rn.q rfl (V.ldB isAgg3 rfl (hm14.get 3 rfl) rfl) (gg 2 rfl ?_));exact hk44 _ sA
  refine gg 4 rfl ?_;exact hk44 _ sA
 refine gg 1 rfl ?_;refine Rn.cutR [18,19,20,21,22,23,24,25,26,27,28] [(1,pt b10 0),(104,.bool (decide (((x0.Kind≠1)∧(x0.Int_≠0))∨((x0.Kind≠5)∧(((x0.Im).toNat:Int)≠0)))))] (fun hk46=>?_) ?_
 ·refine Rn.partD (t:=95) rfl (fun h47=>?_) (fun h47=>?_)
  ·refine gg 9 rfl ?_;exact hk46 _ sA
  refine gg 1 rfl (Rn.q rfl (V.ldB isAgg3 rfl (hm14.get 3 rfl) rfl) (gg 2 rfl ?_));refine Rn.cutR [17,18,19,20,21,22,23,24,25,26,27,28] [(1,pt b10 0),(95,.bool false),(103,.bool (decide ((x0.Kind≠5)∧(((x0.Im).toNat:Int)≠0))))] (fun hk48=>?_) ?_
  ·refine Rn.partD (t:=99) rfl (fun h49=>?_) (fun h49=>?_)
   ·refine gg 1 rfl (Rn.q rfl (V.ldB isAgg35 rfl (hm14.get 3 rfl) rfl) (Rn.q rfl (V.neq rfl rfl) (gg 1 rfl ?_)));exact hk48 _ sA
   refine gg 4 rfl ?_;exact hk48 _ sA
  refine gg 1 rfl ?_;exact hk46 _ sA
 refine gg 1 rfl ?_;refine Rn.jR hm0 hM (G:=Bool) [] (fun g=>[(1,pt b10 0),(115,.bool (g))]) (fun g=>[slR Ar1 cr1 zA.rep x0.Attrs,slR Ar3 cr3 zAq x0.Hist.Pos.Counts,slR Ar5 cr5 zAq x0.Hist.Neg.Counts,zAh b10 42 [Str (x0.Name),.slice Ar1 (x0.Attrs).length cr1,iv x0.Kind,iv x0.Temp,.bool (x0.Mono),iv x0.Start,iv x0.Time,iv x0.Int_,zAl x0.Re,zAl x0.Im,iv x0.Hist.Scale,zAl x0.Hist.Zero,iv x0.Hist.Pos.Offset,.slice Ar3 (x0.Hist.Pos.Counts).length cr3,iv x0.Hist.Neg.Offset,.slice Ar5 (x0.Hist.Neg.Counts).length cr5,iv x0.Flags]]) (fun j g=>j g) ?_ ?_
 ·rintro y50 w51 hm51 hM
  try dsimp only at hM
  refine gg 1 rfl ?_;refine aS hM (fun h52 hM=>?_) (fun h52 hM=>?_)
  ·refine gg 4 rfl ?_
   cases hM
   exact Rn.R1 func14 ⟨rfl,hm51.pk []⟩
  refine gg 5 rfl (Rn.q rfl (V.ldB isAgg3 rfl (hm51.get 3 rfl) rfl) (gg 2 rfl ?_));refine Rn.cutR [8,9,10,11,12,13,14,15,16,17,18,19,20,21,22] [(1,pt b10 0),(123,.bool (decide ((x0.Kind=1)∨(x0.Kind=4))))] (fun hk53=>?_) ?_
  ·refine Rn.partD (t:=119) rfl (fun h54=>?_) (fun h54=>?_)
   ·refine gg 4 rfl ?_;exact hk53 _ sA
   refine gg 1 rfl (Rn.q rfl (V.ldB isAgg3 rfl (hm51.get 3 rfl) rfl) (gg 2 rfl ?_));exact hk53 _ sA
  refine gg 1 rfl ?_;refine Rn.cutR [13,14,15,16,17,18,19,20,21,22] [(1,pt b10 0),(128,.bool (decide (((x0.Kind=1)∨(x0.Kind=4))∧(((x0.Re).toNat:Int)≠0))))] (fun hk55=>?_) ?_
  ·refine Rn.partD (t:=124) rfl (fun h56=>?_) (fun h56=>?_)
   ·refine gg 1 rfl (Rn.q rfl (V.ldB isAgg35 rfl (hm51.get 3 rfl) rfl) (Rn.q rfl (V.neq rfl rfl) (gg 1 rfl ?_)));exact hk55 _ sA
   refine gg 4 rfl ?_;exact hk55 _ sA
  refine gg 1 rfl ?_;refine Rn.cutR [18,19,20,21,22] [(1,pt b10 0),(133,.bool (decide ((((x0.Kind=1)∨(x0.Kind=4))∧(((x0.Re).toNat:Int)≠0))∨(x0.Flags<0))))] (fun hk57=>?_) ?_
  ·refine Rn.partD (t:=129) rfl (fun h58=>?_) (fun h58=>?_)
   ·refine gg 4 rfl ?_;exact hk57 _ sA
   refine gg 1 rfl (Rn.q rfl (V.ldB isAgg3 rfl (hm51.get 3 rfl) rfl) (gg 2 rfl ?_));exact hk57 _ sA
  refine gg 1 rfl ?_;refine Rn.cutR [] [(1,pt b10 0),(138,.bool (decide (((((x0.Kind=1)∨(x0.Kind=4))∧(((x0.Re).toNat:Int)≠0))∨(x0.Flags<0))∨(x0.Flags>31))))] (fun hk59=>?_) ?_
  ·refine Rn.partD (t:=134) rfl (fun h60=>?_) (fun h60=>?_)
   ·refine gg 4 rfl ?_;exact hk59 _ sA
   refine gg 1 rfl (Rn.q rfl (V.ldB isAgg3 rfl (hm51.get 3 rfl) rfl) (gg 2 rfl ?_));exact hk59 _ sA
  refine gg 1 rfl ?_;refine aD hM (fun h61 hM=>?_) (fun h61 hM=>?_)
  ·refine gg 4 rfl ?_
   cases hM
   exact Rn.R1 func14 ⟨rfl,hm51.pk []⟩
  refine gg 5 rfl (Rn.q rfl (V.ldB isAgg4 rfl (hm51.get 3 rfl) rfl) (gg 1 rfl ?_));refine Rn.cutR [7,8,9,10,11,12] [(1,pt b10 0),(145,.bool (decide ((x0.Mono=true)∧(x0.Kind=2))))] (fun hk62=>?_) ?_
  ·refine Rn.part (t:=141) rfl (fun h63=>?_) (fun h63=>?_)
   ·refine gg 1 rfl (Rn.q rfl (V.ldB isAgg3 rfl (hm51.get 3 rfl) rfl) (gg 2 rfl ?_));exact hk62 _ sA
   refine gg 4 rfl ?_;exact hk62 _ sA
  refine gg 1 rfl ?_;refine Rn.jR hm0 hM (G:=Bool) [] (fun g=>[(1,pt b10 0),(151,.bool (g))]) (fun g=>[slR Ar1 cr1 zA.rep x0.Attrs,slR Ar3 cr3 zAq x0.Hist.Pos.Counts,slR Ar5 cr5 zAq x0.Hist.Neg.Counts,zAh b10 42 [Str (x0.Name),.slice Ar1 (x0.Attrs).length cr1,iv x0.Kind,iv x0.Temp,.bool (x0.Mono),iv x0.Start,iv x0.Time,iv x0.Int_,zAl x0.Re,zAl x0.Im,iv x0.Hist.Scale,zAl x0.Hist.Zero,iv x0.Hist.Pos.Offset,.slice Ar3 (x0.Hist.Pos.Counts).length cr3,iv x0.Hist.Neg.Offset,.slice Ar5 (x0.Hist.Neg.Counts).length cr5,iv x0.Flags]]) (fun j g=>j g) ?_ ?_
  ·rintro y64 w65 hm65 hM
   try dsimp only at hM
   refine gg 1 rfl ?_;refine aS hM (fun h66 hM=>?_) (fun h66 hM=>?_)
   ·refine gg 4 rfl ?_
    cases hM
    exact Rn.R1 func14 ⟨rfl,hm65.pk []⟩
   refine gg 5 rfl (Rn.q rfl (V.ldB isAgg4 rfl (hm65.get 3 rfl) rfl) (gg 1 rfl ?_));refine Rn.cutR [7,8,9,10,11,12,13,14,15,16,17,18,19,20,21,22,23,24,25] [(1,pt b10 0),(158,.bool (decide ((x0.Mono=true)∧(x0.Kind=2))))] (fun hk67=>?_) ?_
   ·refine Rn.part (t:=154) rfl (fun h68=>?_) (fun h68=>?_)
    ·refine gg 1 rfl (Rn.q rfl (V.ldB isAgg3 rfl (hm65.get 3 rfl) rfl) (gg 2 rfl ?_));exact hk67 _ sA
    refine gg 4 rfl ?_;exact hk67 _ sA
   refine gg 1 rfl ?_;refine Rn.jR hm0 hM (G:=Bool) [12,13,14,15,16,17,18,19,20,21,22,23,24,25] (fun g=>[(1,pt b10 0),(163,.bool (g))]) (fun g=>[slR Ar1 cr1 zA.rep x0.Attrs,slR Ar3 cr3 zAq x0.Hist.Pos.Counts,slR Ar5 cr5 zAq x0.Hist.Neg.Counts,zAh b10 42 [Str (x0.Name),.slice Ar1 (x0.Attrs).length cr1,iv x0.Kind,iv x0.Temp,.bool (x0.Mono),iv x0.Start,iv x0.Time,iv x0.Int_,zAl x0.Re,zAl x0.Im,iv x0.Hist.Scale,zAl x0.Hist.Zero,iv x0.Hist.Pos.Offset,.slice Ar3 (x0.Hist.Pos.Counts).length cr3,iv x0.Hist.Neg.Offset,.slice Ar5 (x0.Hist.Neg.Counts).length cr5,iv x0.Flags]]) (fun j g=>j g) ?_ ?_
   ·rintro y69 w70 hm70 hM
    try dsimp only at hM
    refine gg 1 rfl ?_;refine Rn.cutR [] [(1,pt b10 0),(177,.bool (decide ((y69=true)∨(((x0.Mono=true)∧(x0.Kind=1))∧(x0.Int_<0)))))] (fun hk71=>?_) ?_
    ·refine Rn.part (t:=164) rfl (fun h72=>?_) (fun h72=>?_)
     ·refine gg 13 rfl ?_;exact hk71 _ sA
     refine gg 1 rfl (Rn.q rfl (V.ldB isAgg4 rfl (hm70.get 3 rfl) rfl) (gg 1 rfl ?_));refine Rn.cutR [20,21,22,23,24,25] [(1,pt b10 0),(164,.bool false),(171,.bool (decide ((x0.Mono=true)∧(x0.Kind=1))))] (fun hk73=>?_) ?_
     ·refine Rn.part (t:=167) rfl (fun h74=>?_) (fun h74=>?_)
      ·refine gg 1 rfl (Rn.q rfl (V.ldB isAgg3 rfl (hm70.get 3 rfl) rfl) (gg 2 rfl ?_));exact hk73 _ sA
      refine gg 4 rfl ?_;exact hk73 _ sA
     refine gg 1 rfl ?_;refine Rn.cutR [25] [(1,pt b10 0),(164,.bool false),(176,.bool (decide (((x0.Mono=true)∧(x0.Kind=1))∧(x0.Int_<0))))] (fun hk75=>?_) ?_
     ·refine Rn.partD (t:=172) rfl (fun h76=>?_) (fun h76=>?_)
      ·refine gg 1 rfl (Rn.q rfl (V.ldB isAgg3 rfl (hm70.get 3 rfl) rfl) (gg 2 rfl ?_));exact hk75 _ sA
      refine gg 4 rfl ?_;exact hk75 _ sA
     refine gg 1 rfl ?_;exact hk71 _ sA
    refine gg 1 rfl ?_;refine aD hM (fun h77 hM=>?_) (fun h77 hM=>?_)
    ·refine gg 4 rfl ?_
     cases hM
     exact Rn.R1 func14 ⟨rfl,hm70.pk []⟩
    refine gg 5 rfl (Rn.q rfl (V.ldB isAgg3 rfl (hm70.get 3 rfl) rfl) (gg 2 rfl ?_));refine aD hM (fun h78 hM=>?_) (fun h78 hM=>?_)
    ·refine gg 3 rfl (Rn.q rfl (V.ldBA [_,_,_,_,_,_] isAgg40 sizeOf40 rfl (hm70.get 3 rfl) rfl rfl) ?_);obtain ⟨p79,e79,hM⟩:=zAb hM
     refine Rn.c0 (cK func49) (zJ8 (Z0:=All) e79 (show zA3.rep.rel All _ _ _ from ⟨_,_,rfl,⟨rfl,trivial⟩,⟨_,_,rfl,⟨rfl,trivial⟩,⟨_,_,rfl,⟨_,_,rfl,⟨rfl,trivial⟩,⟨_,_,rfl,(zA7 (hm70.get 1 rfl)).1,(zA7 (hm70.get 1 rfl)).2.1,(zA7 (hm70.get 1 rfl)).2.2⟩⟩,⟨_,_,rfl,⟨rfl,trivial⟩,⟨_,_,rfl,(zA7 (hm70.get 2 rfl)).1,(zA7 (hm70.get 2 rfl)).2.1,(zA7 (hm70.get 2 rfl)).2.2⟩⟩⟩⟩⟩) :) hm70 fun w79 _ hm80=>?_
     refine gg 2 rfl ?_
     cases hM
     exact Rn.R1 func14 ⟨rfl,hm80.pk []⟩
    refine gg 5 rfl ?_
    cases hM
    exact Rn.R1 func14 ⟨rfl,hm70.pk []⟩
   intro j3 hM hk3;refine zIu hM (Rn.partD (t:=159) rfl) (fun h81 hM=>?_) (fun h81 hM=>?_)
   ·refine gg 1 rfl (Rn.q rfl (V.ldB isAgg35 rfl (hm65.get 3 rfl) rfl) ?_);obtain ⟨p82,e82,hM⟩:=zAb hM
    refine Rn.c0 (cK func48) (zJk (Z0:=All) e82  :) hm65 fun w82 _ hm83=>?_
    refine gg 1 rfl ?_;exact hk3 p82 _ _ sA (hm83.pk [0,1,2,3]) hM
   refine gg 4 rfl ?_;exact hk3 false _ _ sA (hm65.pk [0,1,2,3]) hM
  intro j2 hM hk2;refine zIu hM (Rn.partD (t:=146) rfl) (fun h84 hM=>?_) (fun h84 hM=>?_)
  ·refine gg 1 rfl (Rn.q rfl (V.ldB isAgg35 rfl (hm51.get 3 rfl) rfl) ?_);obtain ⟨p85,e85,hM⟩:=zAb hM
   refine Rn.c0 (cK func47) (zIp (Z0:=All) e85  :) hm51 fun w85 _ hm86=>?_
   refine Rn.q rfl (V.notB rfl) (gg 1 rfl ?_);exact hk2 (!p85) _ _ sA (hm86.pk [0,1,2,3]) hM
  refine gg 5 rfl ?_;exact hk2 false _ _ sA (hm51.pk [0,1,2,3]) hM
 intro j1 hM hk1;refine zIu hM (Rn.partD (t:=105) rfl) (fun h87 hM=>?_) (fun h87 hM=>?_)
 ·refine gg 10 rfl ?_;exact hk1 true _ _ sA (hm14.pk [0,1,2,3]) hM
 refine gg 1 rfl (Rn.q rfl (V.ldB isAgg3 rfl (hm14.get 3 rfl) rfl) (gg 2 rfl ?_));refine Rn.jR hm0 hM (G:=Bool) [28] (fun g=>[(1,pt b10 0),(105,.bool false),(114,.bool (g))]) (fun g=>[slR Ar1 cr1 zA.rep x0.Attrs,slR Ar3 cr3 zAq x0.Hist.Pos.Counts,slR Ar5 cr5 zAq x0.Hist.Neg.Counts,zAh b10 42 [Str (x0.Name),.slice Ar1 (x0.Attrs).length cr1,iv x0.Kind,iv x0.Temp,.bool (x0.Mono),iv x0.Start,iv x0.Time,iv x0.Int_,zAl x0.Re,zAl x0.Im,iv x0.Hist.Scale,zAl x0.Hist.Zero,iv x0.Hist.Pos.Offset,.slice Ar3 (x0.Hist.Pos.Counts).length cr3,iv x0.Hist.Neg.Offset,.slice Ar5 (x0.Hist.Neg.Counts).length cr5,iv x0.Flags]]) (fun j g=>j g) ?_ ?_
 ·rintro y88 w89 hm89 hM
  try dsimp only at hM
  refine gg 1 rfl ?_;exact hk1 y88 _ _ sA (hm89.pk [0,1,2,3]) hM
 intro j4 hM hk4;refine zIu hM (Rn.partD (t:=109) rfl) (fun h90 hM=>?_) (fun h90 hM=>?_)
 ·refine gg 1 rfl (Rn.q rfl (V.ldBA [_,_,_,_,_,_] isAgg40 sizeOf40 rfl (hm14.get 3 rfl) rfl rfl) ?_);obtain ⟨p91,e91,hM⟩:=zAb hM
  refine Rn.c0 (cK func46) (zJh (Z0:=All) e91 (show zA3.rep.rel All _ _ _ from ⟨_,_,rfl,⟨rfl,trivial⟩,⟨_,_,rfl,⟨rfl,trivial⟩,⟨_,_,rfl,⟨_,_,rfl,⟨rfl,trivial⟩,⟨_,_,rfl,(zA7 (hm14.get 1 rfl)).1,(zA7 (hm14.get 1 rfl)).2.1,(zA7 (hm14.get 1 rfl)).2.2⟩⟩,⟨_,_,rfl,⟨rfl,trivial⟩,⟨_,_,rfl,(zA7 (hm14.get 2 rfl)).1,(zA7 (hm14.get 2 rfl)).2.1,(zA7 (hm14.get 2 rfl)).2.2⟩⟩⟩⟩⟩) :) hm14 fun w91 _ hm92=>?_
  refine Rn.q rfl (V.notB rfl) (gg 1 rfl ?_);exact hk4 (!p91) _ _ sA (hm92.pk [0,1,2,3]) hM
 refine gg 5 rfl ?_;exact hk4 false _ _ sA (hm14.pk [0,1,2,3]) hM
theorem zLd {x0:zAc} {r:Int} (hM:zHy x0=some r) (f0:(fzR (zAc.obj F0 b0 x0)).H Z0 w) :
 Calls prog 26 #[pt b0 0] w fun x w'=>x=.returned (iv r)∧Hp Z0 No w w' []:=by
 have hm0:=Hp.nil Z0 No w;have hc0:=Calm.nil;obtain ⟨hm2,hc0⟩:=hm0.kn hc0 f0;refine Rn.en func26 ?_;refine gg 9 rfl ?_;obtain ⟨_,⟨F3_0,b3_0,F3_1,b3_1,F3_2,b3_2,F3_3,b3_3,F3_4,b3_4,F3_5,b3_5,F3_6,b3_6,F3_7,b3_7,rfl⟩,hm3⟩:=hm2.unfz 0 rfl;replace hm3:=hm3.nq;refine Rn.q rfl (V.ldB isAgg3 rfl (hm3.getz 1 rfl) rfl) (gg 2 rfl ?_)
 cases hM
 exact Rn.R1 func26 ⟨rfl,hm3.pk []⟩
theorem zKz {x0:zAc} {r:Int} (hM:zHd x0=some r) (f0:(fzR (zAc.obj F0 b0 x0)).H Z0 w) :
 Calls prog 27 #[pt b0 0] w fun x w'=>x=.returned (iv r)∧Hp Z0 No w w' []:=by
 have hm0:=Hp.nil Z0 No w;have hc0:=Calm.nil;obtain ⟨hm2,hc0⟩:=hm0.kn hc0 f0;refine Rn.en func27 ?_;refine gg 9 rfl ?_;obtain ⟨_,⟨F3_0,b3_0,F3_1,b3_1,F3_2,b3_2,F3_3,b3_3,F3_4,b3_4,F3_5,b3_5,F3_6,b3_6,F3_7,b3_7,rfl⟩,hm3⟩:=hm2.unfz 0 rfl;replace hm3:=hm3.nq;refine Rn.q rfl (V.ldB isAgg3 rfl (hm3.getz 1 rfl) rfl) (gg 2 rfl ?_)
 cases hM
 exact Rn.R1 func27 ⟨rfl,hm3.pk []⟩
theorem zG {x0:(List zA)} {r:(List zA)} (hM:zD3 x0=some r) (f0:(slR A0 c0 zA.rep x0).H Z0 w) :
 Calls prog 22 #[.slice A0 (x0).length c0] w fun x w'=>∃ A_0_0 c_0_0,x=.returned (.slice A_0_0 (r).length c_0_0)∧Hp Z0 No w w' [zBi 118 A_0_0 c_0_0 zA.rep r]:=by
 have hm0:=Hp.nil Z0 No w;have hc0:=Calm.nil;obtain ⟨hm2,hc0⟩:=hm0.kn hc0 f0;refine Rn.en func22 ?_;refine gg 13 rfl ?_;refine Rn.jG hm0 hM (G:=(List zA)×Option Addr×Nat) (fun g=>[(3,.slice (g.2.1) ((g.1)).length (g.2.2))]) (fun g=>[zBi 118 (g.2.1) (g.2.2) zA.rep (g.1)]) (fun j g=>j g.1) ?_ ?_
 ·rintro ⟨y3,A4,c4⟩ w6 hm6 hM
  try dsimp only at hM
  refine gg 5 rfl ?_
  cases hM
  exact Rn.R1 func22 ⟨A4,c4,rfl,hm6.pk [0]⟩
 intro j1 hM hk1;refine gg 1 rfl ?_;have hm11:=hm2.addNil 118 zA.rep;refine Rn.loopF (G:=(List zA)×Int×Option Addr×Nat) (fun g=>[(0,.slice A0 (x0).length c0),(3,.slice (g.2.2.1) ((g.1)).length (g.2.2.2)),(4,iv (g.2.1))]) (fun g w'=>Hp Z0 No w w' [slR A0 c0 zA.rep x0,zBi 118 (g.2.2.1) (g.2.2.2) zA.rep (g.1)]) (fun n g=>zAu x0 j1 n g.1 g.2.1) fuel (([]:List zA),0,none,0) sA (hm11.pk [0,1]) hM (fun _=>rfl) ?_;clear hM;rintro m13 ⟨y7,y10,A8,c8⟩ w13 hm13 hM hn13;replace hM:zAu x0 j1 (m13+1) y7 y10=some r:=hM;rw [zAu] at hM;refine gg 5 rfl (Rn.q rfl (V.lenV underlying34 rfl) (gg 2 rfl ?_));refine aD hM (fun h14 hM=>?_) (fun h14 hM=>?_)
 ·refine gg 6 rfl (Rn.q rfl (V.lenV underlying34 rfl) (gg 3 rfl ?_));refine Rn.jG hm0 hM (G:=Int) (fun g=>[(0,.slice A0 (x0).length c0),(3,.slice A8 (y7).length c8),(4,iv y10),(5,iv g)]) (fun g=>[slR A0 c0 zA.rep x0,zBi 118 A8 c8 zA.rep y7]) (fun j g=>j g) ?_ ?_
  ·rintro y15 w16 hm16 hM
   try dsimp only at hM
   refine gg 9 rfl ?_;have hm19:=hm16.freeze 1 rfl;obtain ⟨z17,e17,hM⟩:=zAb hM;refine Rn.cutH hm19 1 rfl e17 rfl rfl rfl underlying34 sizeOf118 rfl rfl rfl rfl rfl ?_;intro A17 c17 hm17;have hm22:=hm17.addNil 118 zA.rep;obtain ⟨z21,e21,hM⟩:=zAb hM;refine Rn.appH hm22 3 rfl e21 rfl rfl rfl underlying34 zU9 rfl rfl rfl rfl (hm22.src 2 rfl) ?_;intro A21 c21 w21 hm21;refine gg 7 rfl ?_;obtain ⟨z25,e25,hM⟩:=zAb hM;refine Rn.ixH hm21 0 rfl e25 rfl rfl rfl underlying34 sizeOf118 rfl rfl rfl rfl ?_;rintro b25 o25 vs25 hr25 hm25;obtain rfl:=zA.relE hr25;refine Rn.q rfl (V.ldA (vs:=[_,_]) isAgg118 sizeOf118 rfl (Rd.pre (hm25.get 4 rfl).2 2) rfl) ?_;obtain ⟨z27,e27,hM⟩:=zAb hM;refine Rn.pushH (z:=z25) (vs:=[Str (z25.Key),Str (z25.Val)]) hm25 3 rfl e27 rfl rfl rfl rfl underlying34 zU9 rfl rfl rfl rfl (fun _=>rfl) (⟨_,_,rfl,⟨rfl,trivial⟩,⟨rfl,trivial⟩⟩) ?_;intro A27 c27 w27 u27 hm27;refine gg 6 rfl ?_;obtain ⟨z29,e29,hM⟩:=zAb hM;refine Rn.cutH hm27 1 rfl e29 rfl rfl rfl underlying34 sizeOf118 rfl rfl rfl rfl rfl ?_;intro A29 c29 hm29;obtain ⟨z31,e31,hM⟩:=zAb hM;refine Rn.appH hm29 3 rfl e31 rfl rfl rfl underlying34 zU9 rfl rfl rfl rfl (hm29.src 5 rfl) ?_;intro A31 c31 w31 hm31;refine gg 8 rfl ?_;exact hn13 (z31,(W64 (y10+1)),A31,c31) _ _ sA (hm31.pk [0,3]) hM
  intro j2 hM hk2;refine gg 1 rfl ?_;refine Rn.loopF (G:=Int) (fun g=>[(0,.slice A0 (x0).length c0),(3,.slice A8 (y7).length c8),(4,iv y10),(5,iv g)]) (fun g w'=>Hp Z0 No w w' [slR A0 c0 zA.rep x0,zBi 118 A8 c8 zA.rep y7]) (fun n g=>zBg x0 y7 y10 j2 n g) fuel (y7.length:Int) sA (hm13.pk [0,1]) hM (fun _=>rfl) ?_;clear hM;rintro m34 y33 w34 hm34 hM hn34;replace hM:zBg x0 y7 y10 j2 (m34+1) y33=some r:=hM;rw [zBg] at hM;refine gg 2 rfl ?_;refine Rn.jG hm0 hM (G:=Bool) (fun g=>[(0,.slice A0 (x0).length c0),(3,.slice A8 (y7).length c8),(4,iv y10),(5,iv y33),(30,.bool (g))]) (fun g=>[slR A0 c0 zA.rep x0,zBi 118 A8 c8 zA.rep y7]) (fun j g=>j g) ?_ ?_
  ·rintro y35 w36 hm36 hM
   try dsimp only at hM
   refine aS hM (fun h37 hM=>?_) (fun h37 hM=>?_)
   ·refine gg 8 rfl ?_;exact hn34 (W64 (y33-1)) _ _ sA (hm36.pk [0,1]) hM
   refine gg 1 rfl ?_;exact hk2 y33 _ _ sA (hm36.pk [0,1]) hM
  intro j3 hM hk3;refine Rn.drawP rfl hm34 ?_;intro w38 hm38;refine dq [0,1,2] ?_;refine zIu hM (RH.partD (t:=17) rfl) (fun h39 hM=>?_) (fun h39 hM=>?_)
  ·refine dq [3,4,5] ?_;obtain ⟨z40,e40,hM⟩:=zAb hM;obtain ⟨kk40,ke40,kz40,kl40⟩:=zGz e40;obtain ⟨g40,vs40,hA40,hR40,hrel40⟩:=hm38.ownAt 1 rfl kz40;subst hA40;obtain rfl:=zA.relE hrel40;refine RH.takeP 6 (by kernel_rfl) rfl rfl rfl rfl (V.ixE kk40 underlying34 sizeOf118 rfl rfl ke40 kl40) ?_;refine dq [7] ?_;refine RH.takeP 8 (by kernel_rfl) rfl rfl rfl rfl (V.ldR0 isAgg9 rfl hR40 rfl) ?_;refine dq [9,10] ?_;obtain ⟨z41,e41,hM⟩:=zAb hM;obtain ⟨kk41,ke41,kz41,kl41⟩:=zGz e41;obtain ⟨b41,o41,vs41,hA41,hD41,hR41,hrel41⟩:=Hp.at hm38 0 rfl kz41;obtain rfl:=zA.relE hrel41;have hm43:=Hp.knowL [rdR b41 (o41+kk41*2) [Str (z41.Key),Str (z41.Val)]] _ hm38 (knC (fun _ h=>h) ⟨fun _=>hD41,hR41⟩ kn0);refine RH.takeP 11 (by kernel_rfl) rfl rfl rfl rfl (V.ixA' hA41 kk41 underlying34 sizeOf118 rfl rfl ke41 kl41) ?_;refine dq [12] ?_;refine RH.takeP 13 (by kernel_rfl) rfl rfl rfl rfl (V.ldR0 isAgg9 rfl (hm43.get 2 rfl).2 rfl) ?_;refine RH.takeP 14 (by kernel_rfl) rfl rfl rfl rfl (V.gtrS rfl rfl) ?_;refine dq [15] ?_;refine RH.doneP (by kernel_rfl) ?_;exact hk3 (Op.bytesLess z41.Key z40.Key) _ _ sA (hm43.pk [0,1]) hM
  refine dq [3,4,5,6,7,8,9,10,11,12,13,14,15] ?_;refine RH.doneP (by kernel_rfl) ?_;exact hk3 false _ _ sA (hm38.pk [0,1]) hM
 refine gg 1 rfl ?_;exact hk1 (y7,A8,c8) _ _ sA (hm13.pk [1]) hM
theorem zJj {x0:(List zA)} {x1:(List zA)} {r:Bool} (hM:zEq x0 x1=some r) (f0:(slR A0 c0 zA.rep x0).H Z0 w) (f1:(slR A1 c1 zA.rep x1).H Z0 w) :
 Calls prog 21 #[.slice A0 (x0).length c0,.slice A1 (x1).length c1] w fun x w'=>x=.returned (.bool (r))∧Hp Z0 No w w' []:=by
 have hm0:=Hp.nil Z0 No w;have hc0:=Calm.nil;obtain ⟨hm3,hc0⟩:=hm0.kn hc0 f0;obtain ⟨hm4,hc0⟩:=hm3.kn hc0 f1;refine Rn.en func21 ?_;refine gg 8 rfl (Rn.q rfl (V.lenV underlying34 rfl) (gg 1 rfl (Rn.q rfl (V.lenV underlying34 rfl) (gg 2 rfl ?_))));refine aD hM (fun h5 hM=>?_) (fun h5 hM=>?_)
 ·refine gg 4 rfl ?_
  cases hM
  exact Rn.R1 func21 ⟨rfl,hm4.pk []⟩
 refine gg 6 rfl ?_;refine Rn.jG hm0 hM (G:=Unit) (fun g=>[]) (fun g=>[]) (fun j g=>j ()) ?_ ?_
 ·rintro _ w6 hm6 hM
  try dsimp only at hM
  refine gg 4 rfl ?_
  cases hM
  exact Rn.R1 func21 ⟨rfl,hm6.pk []⟩
 intro j1 hM hk1;refine gg 1 rfl ?_;refine Rn.loopF (G:=Int) (fun g=>[(0,.slice A0 (x0).length c0),(1,.slice A1 (x1).length c1),(5,iv g)]) (fun g w'=>Hp Z0 No w w' [slR A0 c0 zA.rep x0,slR A1 c1 zA.rep x1]) (fun n g=>zB2 x0 x1 j1 n g) fuel 0 sA (hm4.pk [0,1]) hM (fun _=>rfl) ?_;clear hM;rintro m8 y7 w8 hm8 hM hn8;replace hM:zB2 x0 x1 j1 (m8+1) y7=some r:=hM;rw [zB2] at hM;refine gg 5 rfl (Rn.q rfl (V.lenV underlying34 rfl) (gg 2 rfl ?_));refine aD hM (fun h9 hM=>?_) (fun h9 hM=>?_)
 ·refine gg 4 rfl ?_;refine Rn.drawP rfl hm8 ?_;intro w10 hm10;refine dq [0,1] ?_;obtain ⟨z11,e11,hM⟩:=zAb hM;obtain ⟨kk11,ke11,kz11,kl11⟩:=zGz e11;obtain ⟨b11,o11,vs11,hA11,hD11,hR11,hrel11⟩:=Hp.at hm10 0 rfl kz11;obtain rfl:=zA.relE hrel11;have hm13:=Hp.knowL [rdR b11 (o11+kk11*2) [Str (z11.Key),Str (z11.Val)]] _ hm10 (knC (fun _ h=>h) ⟨fun _=>hD11,hR11⟩ kn0);refine RH.takeP 2 (by kernel_rfl) rfl rfl rfl rfl (V.ixA' hA11 kk11 underlying34 sizeOf118 rfl rfl ke11 kl11) ?_;refine RH.takeP 3 (by kernel_rfl) rfl rfl rfl rfl (V.ldA (vs:=[_,_]) isAgg118 sizeOf118 rfl (Rd.pre (hm13.get 2 rfl).2 2) rfl) ?_;refine dq [4,5] ?_;obtain ⟨z14,e14,hM⟩:=zAb hM;obtain ⟨kk14,ke14,kz14,kl14⟩:=zGz e14;obtain ⟨b14,o14,vs14,hA14,hD14,hR14,hrel14⟩:=Hp.at hm13 1 rfl kz14;obtain rfl:=zA.relE hrel14;have hm16:=Hp.knowL [rdR b14 (o14+kk14*2) [Str (z14.Key),Str (z14.Val)]] _ hm13 (knC (fun _ h=>h) ⟨fun _=>hD14,hR14⟩ kn0);refine RH.takeP 6 (by kernel_rfl) rfl rfl rfl rfl (V.ixA' hA14 kk14 underlying34 sizeOf118 rfl rfl ke14 kl14) ?_;refine RH.takeP 7 (by kernel_rfl) rfl rfl rfl rfl (V.ldA (vs:=[_,_]) isAgg118 sizeOf118 rfl (Rd.pre (hm16.get 3 rfl).2 2) rfl) ?_;refine RH.takeP 8 (by kernel_rfl) rfl rfl rfl rfl (V.neqT Tryz.eqGuardType118 rfl rfl (eq118 _ _)) ?_;refine RH.doneP (by kernel_rfl) ?_;refine aD hM (fun h17 hM=>?_) (fun h17 hM=>?_)
  ·refine gg 4 rfl ?_
   cases hM
   exact Rn.R1 func21 ⟨rfl,hm16.pk []⟩
  refine gg 7 rfl ?_;exact hn8 (W64 (y7+1)) _ _ sA (hm16.pk [0,1]) hM
 refine gg 1 rfl ?_;exact hk1 () _ _ (sb trivial) (hm8.pk []) hM
theorem zJi {x0:zA6} {x1:zA6} {r:Bool} (hM:zEp x0 x1=some r) (h0:zA6.rep.rel Z0 w cs0 x0) (h1:zA6.rep.rel Z0 w cs1 x1) :
 Calls prog 20 #[.agg cs0.toArray,.agg cs1.toArray] w fun x w'=>x=.returned (.bool (r))∧Hp Z0 No w w' []:=by
 have hm0:=Hp.nil Z0 No w;have hc0:=Calm.nil;obtain ⟨Ar1,cr1,Ar3,cr3,Ar5,cr5,rfl,fs1,fs3,fs5⟩:=zA6.relE h0;obtain ⟨hm13,hc0⟩:=hm0.kn (r:=slR Ar1 cr1 zA.rep x0.Attrs) hc0 fs1;obtain ⟨hm14,hc0⟩:=hm13.kn (r:=slR Ar3 cr3 zAq x0.Hist.Pos.Counts) hc0 fs3;obtain ⟨hm15,hc0⟩:=hm14.kn (r:=slR Ar5 cr5 zAq x0.Hist.Neg.Counts) hc0 fs5;obtain ⟨Ar7,cr7,Ar9,cr9,Ar11,cr11,rfl,fs7,fs9,fs11⟩:=zA6.relE h1;obtain ⟨hm16,hc0⟩:=hm15.kn (r:=slR Ar7 cr7 zA.rep x1.Attrs) hc0 fs7;obtain ⟨hm17,hc0⟩:=hm16.kn (r:=slR Ar9 cr9 zAq x1.Hist.Pos.Counts) hc0 fs9;obtain ⟨hm18,hc0⟩:=hm17.kn (r:=slR Ar11 cr11 zAq x1.Hist.Neg.Counts) hc0 fs11;refine Rn.en func20 ?_;refine gg 2 rfl (Rn.box rfl rfl rfl rfl rfl ?_);intro b19 w19 hb19 m19 e19;have hm21:=(hm18.addBox hb19 e19 m19).nf [_,_,_,_,_,_,zAh _ _ [_,_,_,_,_,_,_,_,_,_,_,_,_,_,_,_,_]] rfl;refine Rn.box rfl rfl rfl rfl rfl ?_;intro b22 w22 hb22 m22 e22;have hm24:=(hm21.addBox hb22 e22 m22).nf [_,_,_,_,_,_,_,zAh _ _ [_,_,_,_,_,_,_,_,_,_,_,_,_,_,_,_,_]] rfl;refine gg 4 rfl ?_;refine Rn.jG hm0 hM (G:=Bool) (fun g=>[(2,pt b19 0),(3,pt b22 0),(19,.bool (g))]) (fun g=>[slR Ar1 cr1 zA.rep x0.Attrs,slR Ar3 cr3 zAq x0.Hist.Pos.Counts,slR Ar5 cr5 zAq x0.Hist.Neg.Counts,slR Ar7 cr7 zA.rep x1.Attrs,slR Ar9 cr9 zAq x1.Hist.Pos.Counts,slR Ar11 cr11 zAq x1.Hist.Neg.Counts,zAh b19 42 [Str (x0.Name),.slice Ar1 (x0.Attrs).length cr1,iv x0.Kind,iv x0.Temp,.bool (x0.Mono),iv x0.Start,iv x0.Time,iv x0.Int_,zAl x0.Re,zAl x0.Im,iv x0.Hist.Scale,zAl x0.Hist.Zero,iv x0.Hist.Pos.Offset,.slice Ar3 (x0.Hist.Pos.Counts).length cr3,iv x0.Hist.Neg.Offset,.slice Ar5 (x0.Hist.Neg.Counts).length cr5,iv x0.Flags],zAh b22 42 [Str (x1.Name),.slice Ar7 (x1.Attrs).length cr7,iv x1.Kind,iv x1.Temp,.bool (x1.Mono),iv x1.Start,iv x1.Time,iv x1.Int_,zAl x1.Re,zAl x1.Im,iv x1.Hist.Scale,zAl x1.Hist.Zero,iv x1.Hist.Pos.Offset,.slice Ar9 (x1.Hist.Pos.Counts).length cr9,iv x1.Hist.Neg.Offset,.slice Ar11 (x1.Hist.Neg.Counts).length cr11,iv x1.Flags]]) (fun j g=>j g) ?_ ?_
 ·rintro y25 w26 hm26 hM
  try dsimp only at hM
  refine aS hM (fun h27 hM=>?_) (fun h27 hM=>?_)
  ·refine gg 4 rfl ?_
   cases hM
   exact Rn.R1 func20 ⟨rfl,hm26.pk []⟩
  refine gg 5 rfl (Rn.q rfl (V.ldB isAgg3 rfl (hm26.get 6 rfl) rfl) (gg 1 rfl (Rn.q rfl (V.ldB isAgg3 rfl (hm26.get 7 rfl) rfl) (gg 2 rfl ?_))));refine Rn.cutR [12,13,14,15,16,17,18,19,20,21,22,23,24,25,26,27,28,29,30,31,32] [(2,pt b19 0),(3,pt b22 0),(31,.bool (decide ((x0.Kind≠x1.Kind)∨(x0.Temp≠x1.Temp))))] (fun hk28=>?_) ?_
  ·refine Rn.partD (t:=25) rfl (fun h29=>?_) (fun h29=>?_)
   ·refine gg 6 rfl ?_;exact hk28 _ sA
   refine gg 1 rfl (Rn.q rfl (V.ldB isAgg3 rfl (hm26.get 6 rfl) rfl) (gg 1 rfl (Rn.q rfl (V.ldB isAgg3 rfl (hm26.get 7 rfl) rfl) (gg 2 rfl ?_))));exact hk28 _ sA
  refine gg 1 rfl ?_;refine Rn.cutR [19,20,21,22,23,24,25,26,27,28,29,30,31,32] [(2,pt b19 0),(3,pt b22 0),(38,.bool (decide (((x0.Kind≠x1.Kind)∨(x0.Temp≠x1.Temp))∨(x0.Mono≠x1.Mono))))] (fun hk30=>?_) ?_
  ·refine Rn.partD (t:=32) rfl (fun h31=>?_) (fun h31=>?_)
   ·refine gg 6 rfl ?_;exact hk30 _ sA
   refine gg 1 rfl (Rn.q rfl (V.ldB isAgg4 rfl (hm26.get 6 rfl) rfl) (gg 1 rfl (Rn.q rfl (V.ldB isAgg4 rfl (hm26.get 7 rfl) rfl) (Rn.q rfl (V.neqB underlying4 rfl rfl) (gg 1 rfl ?_)))));exact hk30 _ sA
  refine gg 1 rfl ?_;refine Rn.cutR [26,27,28,29,30,31,32] [(2,pt b19 0),(3,pt b22 0),(45,.bool (decide ((((x0.Kind≠x1.Kind)∨(x0.Temp≠x1.Temp))∨(x0.Mono≠x1.Mono))∨(x0.Start≠x1.Start))))] (fun hk32=>?_) ?_
  ·refine Rn.partD (t:=39) rfl (fun h33=>?_) (fun h33=>?_)
   ·refine gg 6 rfl ?_;exact hk32 _ sA
   refine gg 1 rfl (Rn.q rfl (V.ldB isAgg3 rfl (hm26.get 6 rfl) rfl) (gg 1 rfl (Rn.q rfl (V.ldB isAgg3 rfl (hm26.get 7 rfl) rfl) (gg 2 rfl ?_))));exact hk32 _ sA
  refine gg 1 rfl ?_;refine Rn.cutR [] [(2,pt b19 0),(3,pt b22 0),(52,.bool (decide (((((x0.Kind≠x1.Kind)∨(x0.Temp≠x1.Temp))∨(x0.Mono≠x1.Mono))∨(x0.Start≠x1.Start))∨(x0.Time≠x1.Time))))] (fun hk34=>?_) ?_
  ·refine Rn.partD (t:=46) rfl (fun h35=>?_) (fun h35=>?_)
   ·refine gg 6 rfl ?_;exact hk34 _ sA
   refine gg 1 rfl (Rn.q rfl (V.ldB isAgg3 rfl (hm26.get 6 rfl) rfl) (gg 1 rfl (Rn.q rfl (V.ldB isAgg3 rfl (hm26.get 7 rfl) rfl) (gg 2 rfl ?_))));exact hk34 _ sA
  refine gg 1 rfl ?_;refine aD hM (fun h36 hM=>?_) (fun h36 hM=>?_)
  ·refine gg 4 rfl ?_
   cases hM
   exact Rn.R1 func20 ⟨rfl,hm26.pk []⟩
  refine gg 4 rfl (Rn.q rfl (V.ldB isAgg3 rfl (hm26.get 6 rfl) rfl) (gg 1 rfl (Rn.q rfl (V.ldB isAgg3 rfl (hm26.get 7 rfl) rfl) (gg 2 rfl ?_))));refine Rn.cutR [12,13,14,15,16,17,18,19,20,21,22,23,24,25,26,27,28,29,30,31,32,33] [(2,pt b19 0),(3,pt b22 0),(64,.bool (decide ((x0.Int_=x1.Int_)∧(((x0.Re).toNat:Int)=((x1.Re).toNat:Int)))))] (fun hk37=>?_) ?_
  ·refine Rn.partD (t:=58) rfl (fun h38=>?_) (fun h38=>?_)
   ·refine gg 1 rfl (Rn.q rfl (V.ldB isAgg35 rfl (hm26.get 6 rfl) rfl) (gg 1 rfl (Rn.q rfl (V.ldB isAgg35 rfl (hm26.get 7 rfl) rfl) (Rn.q rfl (V.eql rfl rfl) (gg 1 rfl ?_)))));exact hk37 _ sA
   refine gg 6 rfl ?_;exact hk37 _ sA
  refine gg 1 rfl ?_;refine Rn.cutR [19,20,21,22,23,24,25,26,27,28,29,30,31,32,33] [(2,pt b19 0),(3,pt b22 0),(71,.bool (decide (((x0.Int_=x1.Int_)∧(((x0.Re).toNat:Int)=((x1.Re).toNat:Int)))∧(((x0.Im).toNat:Int)=((x1.Im).toNat:Int)))))] (fun hk39=>?_) ?_
  ·refine Rn.partD (t:=65) rfl (fun h40=>?_) (fun h40=>?_)
   ·refine gg 1 rfl (Rn.q rfl (V.ldB isAgg35 rfl (hm26.get 6 rfl) rfl) (gg 1 rfl (Rn.q rfl (V.ldB isAgg35 rfl (hm26.get 7 rfl) rfl) (Rn.q rfl (V.eql rfl rfl) (gg 1 rfl ?_)))));exact hk39 _ sA
   refine gg 6 rfl ?_;exact hk39 _ sA
  refine gg 1 rfl ?_;refine Rn.cutR [26,27,28,29,30,31,32,33] [(2,pt b19 0),(3,pt b22 0),(78,.bool (decide ((((x0.Int_=x1.Int_)∧(((x0.Re).toNat:Int)=((x1.Re).toNat:Int)))∧(((x0.Im).toNat:Int)=((x1.Im).toNat:Int)))∧(x0.Flags=x1.Flags))))] (fun hk41=>?_) ?_
  ·refine Rn.partD (t:=72) rfl (fun h42=>?_) (fun h42=>?_)
   ·refine gg 1 rfl (Rn.q rfl (V.ldB isAgg3 rfl (hm26.get 6 rfl) rfl) (gg 1 rfl (Rn.q rfl (V.ldB isAgg3 rfl (hm26.get 7 rfl) rfl) (gg 2 rfl ?_))));exact hk41 _ sA
   refine gg 6 rfl ?_;exact hk41 _ sA
  refine gg 1 rfl ?_;refine Rn.jR hm0 hM (G:=Bool) [33] (fun g=>[(85,.bool (g))]) (fun g=>[slR Ar1 cr1 zA.rep x0.Attrs,slR Ar3 cr3 zAq x0.Hist.Pos.Counts,slR Ar5 cr5 zAq x0.Hist.Neg.Counts,slR Ar7 cr7 zA.rep x1.Attrs,slR Ar9 cr9 zAq x1.Hist.Pos.Counts,slR Ar11 cr11 zAq x1.Hist.Neg.Counts,zAh b19 42 [Str (x0.Name),.slice Ar1 (x0.Attrs).length cr1,iv x0.Kind,iv x0.Temp,.bool (x0.Mono),iv x0.Start,iv x0.Time,iv x0.Int_,zAl x0.Re,zAl x0.Im,iv x0.Hist.Scale,zAl x0.Hist.Zero,iv x0.Hist.Pos.Offset,.slice Ar3 (x0.Hist.Pos.Counts).length cr3,iv x0.Hist.Neg.Offset,.slice Ar5 (x0.Hist.Neg.Counts).length cr5,iv x0.Flags],zAh b22 42 [Str (x1.Name),.slice Ar7 (x1.Attrs).length cr7,iv x1.Kind,iv x1.Temp,.bool (x1.Mono),iv x1.Start,iv x1.Time,iv x1.Int_,zAl x1.Re,zAl x1.Im,iv x1.Hist.Scale,zAl x1.Hist.Zero,iv x1.Hist.Pos.Offset,.slice Ar9 (x1.Hist.Pos.Counts).length cr9,iv x1.Hist.Neg.Offset,.slice Ar11 (x1.Hist.Neg.Counts).length cr11,iv x1.Flags]]) (fun j g=>j g) ?_ ?_
  ·rintro y43 w44 hm44 hM
   try dsimp only at hM
   refine gg 2 rfl ?_
   cases hM
   exact Rn.R1 func20 ⟨rfl,hm44.pk []⟩
  intro j2 hM hk2;refine zIu hM (Rn.partD (t:=79) rfl) (fun h45 hM=>?_) (fun h45 hM=>?_)
  ·refine gg 1 rfl (Rn.q rfl (V.ldBA [_,_,_,_,_,_] isAgg40 sizeOf40 rfl (hm26.get 6 rfl) rfl rfl) (gg 1 rfl (Rn.q rfl (V.ldBA [_,_,_,_,_,_] isAgg40 sizeOf40 rfl (hm26.get 7 rfl) rfl rfl) ?_)));obtain ⟨p46,e46,hM⟩:=zAb hM
   refine Rn.c0 (cK func59) (zGk (Z0:=All) e46 (show zA3.rep.rel All _ _ _ from ⟨_,_,rfl,⟨rfl,trivial⟩,⟨_,_,rfl,⟨rfl,trivial⟩,⟨_,_,rfl,⟨_,_,rfl,⟨rfl,trivial⟩,⟨_,_,rfl,(zA7 (hm26.get 1 rfl)).1,(zA7 (hm26.get 1 rfl)).2.1,(zA7 (hm26.get 1 rfl)).2.2⟩⟩,⟨_,_,rfl,⟨rfl,trivial⟩,⟨_,_,rfl,(zA7 (hm26.get 2 rfl)).1,(zA7 (hm26.get 2 rfl)).2.1,(zA7 (hm26.get 2 rfl)).2.2⟩⟩⟩⟩⟩) (show zA3.rep.rel All _ _ _ from ⟨_,_,rfl,⟨rfl,trivial⟩,⟨_,_,rfl,⟨rfl,trivial⟩,⟨_,_,rfl,⟨_,_,rfl,⟨rfl,trivial⟩,⟨_,_,rfl,(zA7 (hm26.get 4 rfl)).1,(zA7 (hm26.get 4 rfl)).2.1,(zA7 (hm26.get 4 rfl)).2.2⟩⟩,⟨_,_,rfl,⟨rfl,trivial⟩,⟨_,_,rfl,(zA7 (hm26.get 5 rfl)).1,(zA7 (hm26.get 5 rfl)).2.1,(zA7 (hm26.get 5 rfl)).2.2⟩⟩⟩⟩⟩) :) hm26 fun w46 _ hm47=>?_
   refine gg 1 rfl ?_;exact hk2 p46 _ _ sA (hm47.pk [0,1,2,3,4,5,6,7]) hM
  refine gg 6 rfl ?_;exact hk2 false _ _ sA (hm26.pk [0,1,2,3,4,5,6,7]) hM
 intro j1 hM hk1;refine Rn.drawH rfl hm24 ?_;intro w48 hm48;refine dq [0] ?_;refine RH.tk 1 rfl (fun w' hDr=>V.ldB isAgg9 rfl ((hm48.ext hDr).get 6 rfl) rfl) ?_;refine dq [2] ?_
 refine RH.here fun hS3=>RH.on 3 rfl (V.ldB isAgg9 rfl (hm48.get 7 rfl) rfl) hS3 ?_
 refine RH.here fun hS4=>RH.on 4 rfl (V.neqS rfl rfl) hS4 ?_
 refine dq [5] ?_;refine zIu hM (RH.partD (t:=10) rfl) (fun h49 hM=>?_) (fun h49 hM=>?_)
 ·refine dq [6,7,8,9,10,11,12,13,14] ?_;refine RH.doneP (by kernel_rfl) ?_;exact hk1 true _ _ sA (hm48.pk [0,1,2,3,4,5,6,7]) hM
 refine dq [6] ?_;refine RH.tk 7 rfl (fun w' hDr=>V.ldB isAgg34 rfl ((hm48.ext hDr).get 6 rfl) rfl) ?_;refine dq [9] ?_;refine RH.tk 10 rfl (fun w' hDr=>V.ldB isAgg34 rfl ((hm48.ext hDr).get 7 rfl) rfl) ?_;obtain ⟨p50,e50,hM⟩:=zAb hM;refine RH.cq (cK func22) 8 (zG (Z0:=All) e50 (zA7 (hm48.get 0 rfl)) :) ?_;rintro _ w50 ⟨A50_0_0,c50_0_0,rfl,hq50⟩;refine ⟨_,rfl,((Ext.refl _).trans hq50.fr),?_⟩;have hm52:=hm48.callF (flC (zBf zA.flat _ _ _ _) fl0) hq50;obtain ⟨p53,e53,hM⟩:=zAb hM;refine RH.cq (cK func22) 11 (zG (Z0:=All) e53 (zA7 (hm52.get 3 rfl)) :) ?_;rintro _ w53 ⟨A53_0_0,c53_0_0,rfl,hq53⟩;refine ⟨_,rfl,(((Ext.refl _).trans hq50.fr).trans hq53.fr),?_⟩;have hm55:=hm52.callF (flC (zBf zA.flat _ _ _ _) fl0) hq53;obtain ⟨p56,e56,hM⟩:=zAb hM;refine RH.cq (cK func21) 12 (zJj (Z0:=All) e56 (zB4 (hm55.get 8 rfl)) (zB4 (hm55.get 9 rfl)) :) ?_;rintro _ w56 ⟨rfl,hq56⟩;refine ⟨_,rfl,((((Ext.refl _).trans hq50.fr).trans hq53.fr).trans hq56.fr),?_⟩;have hm57:=hm55.call0 hq56
 refine RH.here fun hS13=>RH.on 13 rfl (V.notB rfl) hS13 ?_
 refine dq [14] ?_;refine RH.doneP (by kernel_rfl) ?_;exact hk1 (!p56) _ _ sA (hm57.pk [0,1,2,3,4,5,6,7]) hM
theorem zHv {x0:zA6} {x1:Int} {r:Bool} (hM:zEk x0 x1=some r) (h0:zA6.rep.rel Z0 w cs0 x0) (f0:(rdR 1 0 gl1).H Z0 w) (f1:(rdR 3 0 gl3).H Z0 w) :
 Calls prog 6 #[.agg cs0.toArray,iv x1] w fun x w'=>x=.returned (.bool (r))∧Hp Z0 No w w' []:=by
 have hm0:=Hp.nil Z0 No w;have hc0:=Calm.nil;obtain ⟨Ar1,cr1,Ar3,cr3,Ar5,cr5,rfl,fs1,fs3,fs5⟩:=zA6.relE h0;obtain ⟨hm9,hc0⟩:=hm0.kn (r:=slR Ar1 cr1 zA.rep x0.Attrs) hc0 fs1;obtain ⟨hm10,hc0⟩:=hm9.kn (r:=slR Ar3 cr3 zAq x0.Hist.Pos.Counts) hc0 fs3;obtain ⟨hm11,hc0⟩:=hm10.kn (r:=slR Ar5 cr5 zAq x0.Hist.Neg.Counts) hc0 fs5;obtain ⟨hm12,hc0⟩:=hm11.kn hc0 f0;obtain ⟨hm13,hc0⟩:=hm12.kn hc0 f1;refine Rn.en func6 ?_;refine gg 2 rfl (Rn.box rfl rfl rfl rfl rfl ?_);intro b14 w14 hb14 m14 e14;have hm16:=(hm13.addBox hb14 e14 m14).nf [_,_,_,_,_,zAh _ _ [_,_,_,_,_,_,_,_,_,_,_,_,_,_,_,_,_]] rfl;refine gg 5 rfl ?_;obtain ⟨p17,e17,hM⟩:=zAb hM
 refine Rn.c0 (cK func8) (zJ9 (Z0:=All) e17 (zF8 (hm16.get 3 rfl)) (zF8 (hm16.get 4 rfl)) :) hm16 fun w17 _ hm18=>?_
 refine Rn.q rfl (V.notB rfl) (gg 1 rfl ?_);refine aS hM (fun h19 hM=>?_) (fun h19 hM=>?_)
 ·refine gg 4 rfl ?_
  cases hM
  exact Rn.R1 func6 ⟨rfl,hm18.pk []⟩
 refine gg 4 rfl (Rn.q rfl (V.ldBA [_,_,_,_,_,_,_,_,_,_,_,_,_,_,_,_,_] isAgg42 sizeOf42 rfl (hm18.get 5 rfl) rfl rfl) ?_);obtain ⟨p20,e20,hM⟩:=zAb hM
 refine Rn.c0 (cK func17) (zJ1 (Z0:=All) e20 (show zA6.rep.rel All _ _ _ from ⟨_,_,rfl,⟨rfl,trivial⟩,⟨_,_,rfl,⟨_,_,rfl,(zA7 (hm18.get 0 rfl)).1,(zA7 (hm18.get 0 rfl)).2.1,(zA7 (hm18.get 0 rfl)).2.2⟩,⟨_,_,rfl,⟨rfl,trivial⟩,⟨_,_,rfl,⟨rfl,trivial⟩,⟨_,_,rfl,⟨rfl,trivial⟩,⟨_,_,rfl,⟨rfl,trivial⟩,⟨_,_,rfl,⟨rfl,trivial⟩,⟨_,_,rfl,⟨rfl,trivial⟩,⟨_,_,rfl,⟨rfl,trivial⟩,⟨_,_,rfl,⟨rfl,trivial⟩,⟨_,_,rfl,⟨_,_,rfl,⟨rfl,trivial⟩,⟨_,_,rfl,⟨rfl,trivial⟩,⟨_,_,rfl,⟨_,_,rfl,⟨rfl,trivial⟩,⟨_,_,rfl,(zA7 (hm18.get 1 rfl)).1,(zA7 (hm18.get 1 rfl)).2.1,(zA7 (hm18.get 1 rfl)).2.2⟩⟩,⟨_,_,rfl,⟨rfl,trivial⟩,⟨_,_,rfl,(zA7 (hm18.get 2 rfl)).1,(zA7 (hm18.get 2 rfl)).2.1,(zA7 (hm18.get 2 rfl)).2.2⟩⟩⟩⟩⟩,⟨rfl,trivial⟩⟩⟩⟩⟩⟩⟩⟩⟩⟩⟩⟩) :) hm18 fun w20 _ hm21=>?_
 refine Rn.q rfl (V.notB rfl) (gg 1 rfl ?_);refine Rn.cutR [11,12,13,14,15,16,17,18,19,20,21,22,23,24,25,26] [(1,iv x1),(2,pt b14 0),(23,.bool (decide (((!p20)=true)∨((x0.Hist.Pos.Counts.length:Int)>20))))] (fun hk22=>?_) ?_
 ·refine Rn.part (t:=16) rfl (fun h23=>?_) (fun h23=>?_)
  ·refine gg 7 rfl ?_;exact hk22 _ sA
  refine gg 3 rfl (Rn.q rfl (V.ldB isAgg36 rfl (hm21.get 5 rfl) rfl) (Rn.q rfl (V.lenV underlying36 rfl) (gg 2 rfl ?_)));exact hk22 _ sA
 refine gg 1 rfl ?_;refine Rn.cutR [19,20,21,22,23,24,25,26] [(1,iv x1),(2,pt b14 0),(31,.bool (decide ((((!p20)=true)∨((x0.Hist.Pos.Counts.length:Int)>20))∨((x0.Hist.Neg.Counts.length:Int)>20))))] (fun hk24=>?_) ?_
 ·refine Rn.partD (t:=24) rfl (fun h25=>?_) (fun h25=>?_)
  ·refine gg 7 rfl ?_;exact hk24 _ sA
  refine gg 3 rfl (Rn.q rfl (V.ldB isAgg36 rfl (hm21.get 5 rfl) rfl) (Rn.q rfl (V.lenV underlying36 rfl) (gg 2 rfl ?_)));exact hk24 _ sA
 refine gg 1 rfl ?_;refine Rn.cutR [23,24,25,26] [(1,iv x1),(2,pt b14 0),(35,.bool (decide (((((!p20)=true)∨((x0.Hist.Pos.Counts.length:Int)>20))∨((x0.Hist.Neg.Counts.length:Int)>20))∨(x1<0))))] (fun hk26=>?_) ?_
 ·refine Rn.partD (t:=32) rfl (fun h27=>?_) (fun h27=>?_)
  ·refine gg 3 rfl ?_;exact hk26 _ sA
  refine gg 3 rfl ?_;exact hk26 _ sA
 refine gg 1 rfl ?_;refine Rn.cutR [] [(1,iv x1),(2,pt b14 0),(39,.bool (decide ((((((!p20)=true)∨((x0.Hist.Pos.Counts.length:Int)>20))∨((x0.Hist.Neg.Counts.length:Int)>20))∨(x1<0))∨(x1>3))))] (fun hk28=>?_) ?_
 ·refine Rn.partD (t:=36) rfl (fun h29=>?_) (fun h29=>?_)
  ·refine gg 3 rfl ?_;exact hk28 _ sA
  refine gg 3 rfl ?_;exact hk28 _ sA
 refine gg 1 rfl ?_;refine aD hM (fun h30 hM=>?_) (fun h30 hM=>?_)
 ·refine gg 4 rfl ?_
  cases hM
  exact Rn.R1 func6 ⟨rfl,hm21.pk []⟩
 refine gg 3 rfl (Rn.q rfl (V.ldBA [_,_,_,_,_,_,_,_,_,_,_,_,_,_,_,_,_] isAgg42 sizeOf42 rfl (hm21.get 5 rfl) rfl rfl) ?_);obtain ⟨p31,e31,hM⟩:=zAb hM
 refine Rn.c2 (cK func23) (zLc (Z0:=All) e31 (show zA6.rep.rel All _ _ _ from ⟨_,_,rfl,⟨rfl,trivial⟩,⟨_,_,rfl,⟨_,_,rfl,(zA7 (hm21.get 0 rfl)).1,(zA7 (hm21.get 0 rfl)).2.1,(zA7 (hm21.get 0 rfl)).2.2⟩,⟨_,_,rfl,⟨rfl,trivial⟩,⟨_,_,rfl,⟨rfl,trivial⟩,⟨_,_,rfl,⟨rfl,trivial⟩,⟨_,_,rfl,⟨rfl,trivial⟩,⟨_,_,rfl,⟨rfl,trivial⟩,⟨_,_,rfl,⟨rfl,trivial⟩,⟨_,_,rfl,⟨rfl,trivial⟩,⟨_,_,rfl,⟨rfl,trivial⟩,⟨_,_,rfl,⟨_,_,rfl,⟨rfl,trivial⟩,⟨_,_,rfl,⟨rfl,trivial⟩,⟨_,_,rfl,⟨_,_,rfl,⟨rfl,trivial⟩,⟨_,_,rfl,(zA7 (hm21.get 1 rfl)).1,(zA7 (hm21.get 1 rfl)).2.1,(zA7 (hm21.get 1 rfl)).2.2⟩⟩,⟨_,_,rfl,⟨rfl,trivial⟩,⟨_,_,rfl,(zA7 (hm21.get 2 rfl)).1,(zA7 (hm21.get 2 rfl)).2.1,(zA7 (hm21.get 2 rfl)).2.2⟩⟩⟩⟩⟩,⟨rfl,trivial⟩⟩⟩⟩⟩⟩⟩⟩⟩⟩⟩⟩) :) fun F31_0 b31_0 w31 hq31=>?_
 have hm33:=hm21.callF (flC (zRf fun _=>(zAc.oflat _ _ _)) fl0) hq31;refine gg 10 rfl (Rn.q rfl (V.eqlO underlying56 rfl rfl) (gg 1 rfl ?_));refine aS hM (fun h34 hM=>?_) (fun h34 hM=>?_)
 ·refine gg 2 rfl (Rn.q rfl (V.ldBA [_,_,_,_,_,_,_,_,_,_,_,_,_,_,_,_,_] isAgg42 sizeOf42 rfl (hm33.get 5 rfl) rfl rfl) ?_);obtain ⟨p35,e35,hM⟩:=zAb hM
  refine Rn.c0 (cK func14) (zJ2 (Z0:=All) e35 (show zA6.rep.rel All _ _ _ from ⟨_,_,rfl,⟨rfl,trivial⟩,⟨_,_,rfl,⟨_,_,rfl,(zA7 (hm33.get 0 rfl)).1,(zA7 (hm33.get 0 rfl)).2.1,(zA7 (hm33.get 0 rfl)).2.2⟩,⟨_,_,rfl,⟨rfl,trivial⟩,⟨_,_,rfl,⟨rfl,trivial⟩,⟨_,_,rfl,⟨rfl,trivial⟩,⟨_,_,rfl,⟨rfl,trivial⟩,⟨_,_,rfl,⟨rfl,trivial⟩,⟨_,_,rfl,⟨rfl,trivial⟩,⟨_,_,rfl,⟨rfl,trivial⟩,⟨_,_,rfl,⟨rfl,trivial⟩,⟨_,_,rfl,⟨_,_,rfl,⟨rfl,trivial⟩,⟨_,_,rfl,⟨rfl,trivial⟩,⟨_,_,rfl,⟨_,_,rfl,⟨rfl,trivial⟩,⟨_,_,rfl,(zA7 (hm33.get 1 rfl)).1,(zA7 (hm33.get 1 rfl)).2.1,(zA7 (hm33.get 1 rfl)).2.2⟩⟩,⟨_,_,rfl,⟨rfl,trivial⟩,⟨_,_,rfl,(zA7 (hm33.get 2 rfl)).1,(zA7 (hm33.get 2 rfl)).2.1,(zA7 (hm33.get 2 rfl)).2.2⟩⟩⟩⟩⟩,⟨rfl,trivial⟩⟩⟩⟩⟩⟩⟩⟩⟩⟩⟩⟩) :) hm33 fun w35 _ hm36=>?_
  refine gg 3 rfl ?_
  cases hM
  exact Rn.R1 func6 ⟨rfl,hm36.pk []⟩
 refine gg 6 rfl ?_;refine Rn.jG hm0 hM (G:=(Option zAc)×(Nat→Prop)) (fun g=>[(1,iv x1),(2,pt b14 0),(5,.pointer (zWm b31_0 (g.1)))]) (fun g=>[slR Ar1 cr1 zA.rep x0.Attrs,slR Ar3 cr3 zAq x0.Hist.Pos.Counts,slR Ar5 cr5 zAq x0.Hist.Neg.Counts,rdR 1 0 gl1,rdR 3 0 gl3,zAh b14 42 [Str (x0.Name),.slice Ar1 (x0.Attrs).length cr1,iv x0.Kind,iv x0.Temp,.bool (x0.Mono),iv x0.Start,iv x0.Time,iv x0.Int_,zAl x0.Re,zAl x0.Im,iv x0.Hist.Scale,zAl x0.Hist.Zero,iv x0.Hist.Pos.Offset,.slice Ar3 (x0.Hist.Pos.Counts).length cr3,iv x0.Hist.Neg.Offset,.slice Ar5 (x0.Hist.Neg.Counts).length cr5,iv x0.Flags],zU0 (g.1) (fun z=>zAc.obj (g.2) b31_0 z)]) (fun j g=>j g.1) ?_ ?_
 ·rintro ⟨y37,F37⟩ w38 hm38 hM
  try dsimp only at hM
  refine gg 5 rfl ?_;refine Rn.jG hm0 hM (G:=(Option zAc)×(Nat→Prop)) (fun g=>[(2,pt b14 0),(5,.pointer (zWm b31_0 (g.1)))]) (fun g=>[slR Ar1 cr1 zA.rep x0.Attrs,slR Ar3 cr3 zAq x0.Hist.Pos.Counts,slR Ar5 cr5 zAq x0.Hist.Neg.Counts,rdR 1 0 gl1,rdR 3 0 gl3,zAh b14 42 [Str (x0.Name),.slice Ar1 (x0.Attrs).length cr1,iv x0.Kind,iv x0.Temp,.bool (x0.Mono),iv x0.Start,iv x0.Time,iv x0.Int_,zAl x0.Re,zAl x0.Im,iv x0.Hist.Scale,zAl x0.Hist.Zero,iv x0.Hist.Pos.Offset,.slice Ar3 (x0.Hist.Pos.Counts).length cr3,iv x0.Hist.Neg.Offset,.slice Ar5 (x0.Hist.Neg.Counts).length cr5,iv x0.Flags],zU0 (g.1) (fun z=>zAc.obj (g.2) b31_0 z)]) (fun j g=>j g.1) ?_ ?_
  ·rintro ⟨y39,F39⟩ w40 hm40 hM
   try dsimp only at hM
   refine gg 3 rfl ?_;obtain ⟨z42,e42,hM⟩:=zAb hM;have hm43:=hm40.optSome 6 rfl e42;refine Rn.say (t:=72) (pt b31_0 0) rfl (by rw [e42];rfl) ?_;obtain ⟨p41,e41,hM⟩:=zAb hM
   refine Rn.c2 (cK func25) (zHe (Z0:=All) e41 (zCe (hm43.get 6 rfl)) :) fun A41_0_0 c41_0_0 w41 hq41=>?_
   have hm45:=hm43.callF (flC (zBf zFf _ _ _ _) fl0) hq41;have hm48:=hm45.freeze 7 rfl;obtain ⟨p46,e46,hM⟩:=zAb hM
   refine Rn.c2 (cK func9) (zKt (Z0:=hm48.Z) e46 (hm48.get 7 rfl) (hm48.get 3 rfl) (hm48.get 4 rfl) :) fun A46_0_0 c46_0_0 w46 hq46=>?_
   have hm50:=hm48.callZ hq46;replace hm50:=hm50.nq;refine gg 7 rfl ?_;refine Rn.drawH rfl hm50 ?_;intro w51 hm51;refine dq [0,1,2] ?_;refine zIu hM (RH.partD (t:=79) rfl) (fun h52 hM=>?_) (fun h52 hM=>?_)
   ·refine dq [3] ?_
    refine RH.here fun hS4=>RH.on 4 rfl (V.lenV underlying24 rfl) hS4 ?_
    refine dq [5,6,7] ?_;refine zIu hM (RH.partD (t:=84) rfl) (fun h53 hM=>?_) (fun h53 hM=>?_)
    ·refine dq [8] ?_;refine RH.say (t:=85) (pt b31_0 0) rfl (by rw [e42];rfl) ?_;obtain ⟨p54,e54,hM⟩:=zAb hM;refine RH.cq (cK func26) 9 (zLd (Z0:=All) e54 (zCe (hm51.get 6 rfl)) :) ?_;rintro _ w54 ⟨rfl,hq54⟩;refine ⟨_,rfl,((Ext.refl _).trans hq54.fr),?_⟩;have hm55:=hm51.call0 hq54;refine dq [10,11,12] ?_;refine zIu hM (RH.partD (t:=89) rfl) (fun h56 hM=>?_) (fun h56 hM=>?_)
     ·refine dq [13] ?_;refine RH.say (t:=90) (pt b31_0 0) rfl (by rw [e42];rfl) ?_;obtain ⟨p57,e57,hM⟩:=zAb hM;refine RH.cq (cK func27) 14 (zKz (Z0:=All) e57 (zCe (hm55.get 6 rfl)) :) ?_;rintro _ w57 ⟨rfl,hq57⟩;refine ⟨_,rfl,(((Ext.refl _).trans hq54.fr).trans hq57.fr),?_⟩;have hm58:=hm55.call0 hq57;refine dq [15,16,17] ?_;refine zIu hM (RH.partD (t:=94) rfl) (fun h59 hM=>?_) (fun h59 hM=>?_)
      ·refine dq [18] ?_;obtain ⟨z60,e60,hM⟩:=zAb hM;obtain ⟨kk60,ke60,kz60,kl60⟩:=zGz e60;obtain ⟨g60,vs60,hA60,hR60,hrel60⟩:=hm58.ownAt 8 rfl kz60;subst hA60;obtain ⟨Ar61,cr61,Ar63,cr63,Ar65,cr65,rfl,fs61,fs63,fs65⟩:=zAm.relE hrel60;have hm67:=Hp.knowL [slR Ar61 cr61 zA.rep z60.Point.Attrs,slR Ar63 cr63 zAq z60.Point.Hist.Pos.Counts,slR Ar65 cr65 zAq z60.Point.Hist.Neg.Counts] _ hm58 (knC (fun _ h=>h) fs61 (knC (fun _ h=>h) fs63 (knC (fun _ h=>h) fs65 kn0)));refine RH.tk 19 rfl (fun w' hDr=>V.ixE kk60 underlying24 sizeOf44 rfl rfl ke60 kl60) ?_;refine dq [20] ?_;refine RH.tk 22 rfl (fun w' hDr=>V.ldBA [_,_,_,_,_,_,_,_,_,_,_,_,_,_,_,_,_] isAgg42 sizeOf42 rfl ((hm51.ext hDr).get 5 rfl) rfl rfl) ?_
       refine RH.here fun hS21=>RH.on 21 rfl (V.ldA (vs:=[_,_,_,_,_,_,_,_,_,_,_,_,_,_,_,_,_]) isAgg42 sizeOf42 rfl (Rd.sub hR60 1 17) rfl) hS21 ?_
       obtain ⟨p68,e68,hM⟩:=zAb hM;refine RH.cq (cK func20) 23 (zJi (Z0:=All) e68 (show zA6.rep.rel All _ _ _ from ⟨_,_,rfl,⟨rfl,trivial⟩,⟨_,_,rfl,⟨_,_,rfl,(zA7 (hm67.get 9 rfl)).1,(zA7 (hm67.get 9 rfl)).2.1,(zA7 (hm67.get 9 rfl)).2.2⟩,⟨_,_,rfl,⟨rfl,trivial⟩,⟨_,_,rfl,⟨rfl,trivial⟩,⟨_,_,rfl,⟨rfl,trivial⟩,⟨_,_,rfl,⟨rfl,trivial⟩,⟨_,_,rfl,⟨rfl,trivial⟩,⟨_,_,rfl,⟨rfl,trivial⟩,⟨_,_,rfl,⟨rfl,trivial⟩,⟨_,_,rfl,⟨rfl,trivial⟩,⟨_,_,rfl,⟨_,_,rfl,⟨rfl,trivial⟩,⟨_,_,rfl,⟨rfl,trivial⟩,⟨_,_,rfl,⟨_,_,rfl,⟨rfl,trivial⟩,⟨_,_,rfl,(zA7 (hm67.get 10 rfl)).1,(zA7 (hm67.get 10 rfl)).2.1,(zA7 (hm67.get 10 rfl)).2.2⟩⟩,⟨_,_,rfl,⟨rfl,trivial⟩,⟨_,_,rfl,(zA7 (hm67.get 11 rfl)).1,(zA7 (hm67.get 11 rfl)).2.1,(zA7 (hm67.get 11 rfl)).2.2⟩⟩⟩⟩⟩,⟨rfl,trivial⟩⟩⟩⟩⟩⟩⟩⟩⟩⟩⟩⟩) (show zA6.rep.rel All _ _ _ from ⟨_,_,rfl,⟨rfl,trivial⟩,⟨_,_,rfl,⟨_,_,rfl,(zA7 (hm67.get 0 rfl)).1,(zA7 (hm67.get 0 rfl)).2.1,(zA7 (hm67.get 0 rfl)).2.2⟩,⟨_,_,rfl,⟨rfl,trivial⟩,⟨_,_,rfl,⟨rfl,trivial⟩,⟨_,_,rfl,⟨rfl,trivial⟩,⟨_,_,rfl,⟨rfl,trivial⟩,⟨_,_,rfl,⟨rfl,trivial⟩,⟨_,_,rfl,⟨rfl,trivial⟩,⟨_,_,rfl,⟨rfl,trivial⟩,⟨_,_,rfl,⟨rfl,trivial⟩,⟨_,_,rfl,⟨_,_,rfl,⟨rfl,trivial⟩,⟨_,_,rfl,⟨rfl,trivial⟩,⟨_,_,rfl,⟨_,_,rfl,⟨rfl,trivial⟩,⟨_,_,rfl,(zA7 (hm67.get 1 rfl)).1,(zA7 (hm67.get 1 rfl)).2.1,(zA7 (hm67.get 1 rfl)).2.2⟩⟩,⟨_,_,rfl,⟨rfl,trivial⟩,⟨_,_,rfl,(zA7 (hm67.get 2 rfl)).1,(zA7 (hm67.get 2 rfl)).2.1,(zA7 (hm67.get 2 rfl)).2.2⟩⟩⟩⟩⟩,⟨rfl,trivial⟩⟩⟩⟩⟩⟩⟩⟩⟩⟩⟩⟩) :) ?_;rintro _ w68 ⟨rfl,hq68⟩;refine ⟨_,rfl,((((Ext.refl _).trans hq54.fr).trans hq57.fr).trans hq68.fr),?_⟩;have hm69:=hm67.call0 hq68;refine dq [24,25] ?_;refine RH.doneP (by kernel_rfl) ?_
       cases hM
       exact Rn.R1 func6 ⟨rfl,hm69.pk []⟩
      refine dq [18,19,20,21,22,23,24,25] ?_;refine RH.doneP (by kernel_rfl) ?_
      cases hM
      exact Rn.R1 func6 ⟨rfl,hm58.pk []⟩
     refine dq [13,14,15,16,17,18,19,20,21,22,23,24,25] ?_;refine RH.doneP (by kernel_rfl) ?_
     cases hM
     exact Rn.R1 func6 ⟨rfl,hm55.pk []⟩
    refine dq [8,9,10,11,12,13,14,15,16,17,18,19,20,21,22,23,24,25] ?_;refine RH.doneP (by kernel_rfl) ?_
    cases hM
    exact Rn.R1 func6 ⟨rfl,hm51.pk []⟩
   refine dq [3,4,5,6,7,8,9,10,11,12,13,14,15,16,17,18,19,20,21,22,23,24,25] ?_;refine RH.doneP (by kernel_rfl) ?_
   cases hM
   exact Rn.R1 func6 ⟨rfl,hm51.pk []⟩
  intro j2 hM hk2;refine gg 1 rfl ?_;refine Rn.loopF (G:=Int×(Option zAc)×(Nat→Prop)) (fun g=>[(1,iv x1),(2,pt b14 0),(5,.pointer (zWm b31_0 (g.2.1))),(8,iv (g.1))]) (fun g w'=>Hp Z0 No w w' [slR Ar1 cr1 zA.rep x0.Attrs,slR Ar3 cr3 zAq x0.Hist.Pos.Counts,slR Ar5 cr5 zAq x0.Hist.Neg.Counts,rdR 1 0 gl1,rdR 3 0 gl3,zAh b14 42 [Str (x0.Name),.slice Ar1 (x0.Attrs).length cr1,iv x0.Kind,iv x0.Temp,.bool (x0.Mono),iv x0.Start,iv x0.Time,iv x0.Int_,zAl x0.Re,zAl x0.Im,iv x0.Hist.Scale,zAl x0.Hist.Zero,iv x0.Hist.Pos.Offset,.slice Ar3 (x0.Hist.Pos.Counts).length cr3,iv x0.Hist.Neg.Offset,.slice Ar5 (x0.Hist.Neg.Counts).length cr5,iv x0.Flags],zU0 (g.2.1) (fun z=>zAc.obj (g.2.2) b31_0 z)]) (fun n g=>zBe x0 x1 j2 n g.1 g.2.1) fuel (0,y37,F37) sA (hm38.pk [0,1,2,3,4,5,6]) hM (fun _=>rfl) ?_;clear hM;rintro m72 ⟨y70,y71,F71⟩ w72 hm72 hM hn72;replace hM:zBe x0 x1 j2 (m72+1) y70 y71=some r:=hM;rw [zBe] at hM;refine gg 7 rfl ?_;refine aD hM (fun h73 hM=>?_) (fun h73 hM=>?_)
  ·refine gg 8 rfl (Rn.q rfl (V.ldBA [_,_,_,_,_,_,_,_,_,_,_,_,_,_,_,_,_] isAgg42 sizeOf42 rfl (hm72.get 5 rfl) rfl rfl) ?_);obtain ⟨z75,e75,hM⟩:=zAb hM;have hm76:=hm72.optSome 6 rfl e75;refine Rn.say (t:=65) (pt b31_0 0) rfl (by rw [e75];rfl) ?_;obtain ⟨p74,e74,hM⟩:=zAb hM;have hm77:=hm76.dup 3 rfl (fun _ h=>h);have hm79:=hm77.dup 4 rfl (fun _ h=>h);have hm81:=hm79.know (zPy zA6.rep [Str (x0.Name),.slice Ar1 (x0.Attrs).length cr1,iv x0.Kind,iv x0.Temp,.bool (x0.Mono),iv x0.Start,iv x0.Time,iv x0.Int_,zAl x0.Re,zAl x0.Im,iv x0.Hist.Scale,zAl x0.Hist.Zero,iv x0.Hist.Pos.Offset,.slice Ar3 (x0.Hist.Pos.Counts).length cr3,iv x0.Hist.Neg.Offset,.slice Ar5 (x0.Hist.Neg.Counts).length cr5,iv x0.Flags] x0) (fun _ h=>h) (show zA6.rep.rel _ _ _ _ from ⟨_,_,rfl,⟨rfl,trivial⟩,⟨_,_,rfl,⟨_,_,rfl,(hm79.get 0 rfl).1,(hm79.get 0 rfl).2.1,(hm79.get 0 rfl).2.2⟩,⟨_,_,rfl,⟨rfl,trivial⟩,⟨_,_,rfl,⟨rfl,trivial⟩,⟨_,_,rfl,⟨rfl,trivial⟩,⟨_,_,rfl,⟨rfl,trivial⟩,⟨_,_,rfl,⟨rfl,trivial⟩,⟨_,_,rfl,⟨rfl,trivial⟩,⟨_,_,rfl,⟨rfl,trivial⟩,⟨_,_,rfl,⟨rfl,trivial⟩,⟨_,_,rfl,⟨_,_,rfl,⟨rfl,trivial⟩,⟨_,_,rfl,⟨rfl,trivial⟩,⟨_,_,rfl,⟨_,_,rfl,⟨rfl,trivial⟩,⟨_,_,rfl,(hm79.get 1 rfl).1,(hm79.get 1 rfl).2.1,(hm79.get 1 rfl).2.2⟩⟩,⟨_,_,rfl,⟨rfl,trivial⟩,⟨_,_,rfl,(hm79.get 2 rfl).1,(hm79.get 2 rfl).2.1,(hm79.get 2 rfl).2.2⟩⟩⟩⟩⟩,⟨rfl,trivial⟩⟩⟩⟩⟩⟩⟩⟩⟩⟩⟩⟩);have hm83:=hm81.cu [0,1,2,3,4,5] [6,7,8,9]
   refine Rn.a1 (cK func24) (m_chunk_Chunk_Add_sim e74 hm83.lend :) hm83 fun F74_p0 w74 hm85=>?_
   refine gg 2 rfl ?_;refine aD hM (fun h86 hM=>?_) (fun h86 hM=>?_)
   ·refine gg 4 rfl ?_
    cases hM
    exact Rn.R1 func6 ⟨rfl,hm85.pk []⟩
   refine gg 7 rfl ?_;refine Rn.say (t:=5) (pt b31_0 0) rfl (by rw [e75];rfl) ?_;have hm87:=hm85.toSome (R:=(fun z=>zAc.obj F74_p0 b31_0 z)) 6 rfl;exact hn72 ((W64 (y70+1)),(some p74.2),F74_p0) _ _ sA (hm87.pk [0,1,2,3,4,5,6]) hM
  refine gg 1 rfl ?_;exact hk2 (y71,F71) _ _ sA (hm72.pk [0,1,2,3,4,5,6]) hM
 intro j1 hM hk1;refine gg 1 rfl ?_;refine Rn.loopF (G:=Int×(Option zAc)×(Nat→Prop)) (fun g=>[(1,iv x1),(2,pt b14 0),(5,.pointer (zWm b31_0 (g.2.1))),(7,iv (g.1))]) (fun g w'=>Hp Z0 No w w' [slR Ar1 cr1 zA.rep x0.Attrs,slR Ar3 cr3 zAq x0.Hist.Pos.Counts,slR Ar5 cr5 zAq x0.Hist.Neg.Counts,rdR 1 0 gl1,rdR 3 0 gl3,zAh b14 42 [Str (x0.Name),.slice Ar1 (x0.Attrs).length cr1,iv x0.Kind,iv x0.Temp,.bool (x0.Mono),iv x0.Start,iv x0.Time,iv x0.Int_,zAl x0.Re,zAl x0.Im,iv x0.Hist.Scale,zAl x0.Hist.Zero,iv x0.Hist.Pos.Offset,.slice Ar3 (x0.Hist.Pos.Counts).length cr3,iv x0.Hist.Neg.Offset,.slice Ar5 (x0.Hist.Neg.Counts).length cr5,iv x0.Flags],zU0 (g.2.1) (fun z=>zAc.obj (g.2.2) b31_0 z)]) (fun n g=>zBd x0 j1 n g.1 g.2.1) fuel (0,p31.1,F31_0) sA (hm33.pk [0,1,2,3,4,5,6]) hM (fun _=>rfl) ?_;clear hM;rintro m90 ⟨y88,y89,F89⟩ w90 hm90 hM hn90;replace hM:zBd x0 j1 (m90+1) y88 y89=some r:=hM;rw [zBd] at hM;refine gg 6 rfl ?_;refine aD hM (fun h91 hM=>?_) (fun h91 hM=>?_)
 ·refine gg 8 rfl (Rn.q rfl (V.ldBA [_,_,_,_,_,_,_,_,_,_,_,_,_,_,_,_,_] isAgg42 sizeOf42 rfl (hm90.get 5 rfl) rfl rfl) ?_);obtain ⟨z93,e93,hM⟩:=zAb hM;have hm94:=hm90.optSome 6 rfl e93;refine Rn.say (t:=54) (pt b31_0 0) rfl (by rw [e93];rfl) ?_;obtain ⟨p92,e92,hM⟩:=zAb hM;have hm95:=hm94.dup 3 rfl (fun _ h=>h);have hm97:=hm95.dup 4 rfl (fun _ h=>h);have hm99:=hm97.know (zPy zA6.rep [Str (x0.Name),.slice Ar1 (x0.Attrs).length cr1,iv x0.Kind,iv x0.Temp,.bool (x0.Mono),iv x0.Start,iv x0.Time,iv x0.Int_,zAl x0.Re,zAl x0.Im,iv x0.Hist.Scale,zAl x0.Hist.Zero,iv x0.Hist.Pos.Offset,.slice Ar3 (x0.Hist.Pos.Counts).length cr3,iv x0.Hist.Neg.Offset,.slice Ar5 (x0.Hist.Neg.Counts).length cr5,iv x0.Flags] x0) (fun _ h=>h) (show zA6.rep.rel _ _ _ _ from ⟨_,_,rfl,⟨rfl,trivial⟩,⟨_,_,rfl,⟨_,_,rfl,(hm97.get 0 rfl).1,(hm97.get 0 rfl).2.1,(hm97.get 0 rfl).2.2⟩,⟨_,_,rfl,⟨rfl,trivial⟩,⟨_,_,rfl,⟨rfl,trivial⟩,⟨_,_,rfl,⟨rfl,trivial⟩,⟨_,_,rfl,⟨rfl,trivial⟩,⟨_,_,rfl,⟨rfl,trivial⟩,⟨_,_,rfl,⟨rfl,trivial⟩,⟨_,_,rfl,⟨rfl,trivial⟩,⟨_,_,rfl,⟨rfl,trivial⟩,⟨_,_,rfl,⟨_,_,rfl,⟨rfl,trivial⟩,⟨_,_,rfl,⟨rfl,trivial⟩,⟨_,_,rfl,⟨_,_,rfl,⟨rfl,trivial⟩,⟨_,_,rfl,(hm97.get 1 rfl).1,(hm97.get 1 rfl).2.1,(hm97.get 1 rfl).2.2⟩⟩,⟨_,_,rfl,⟨rfl,trivial⟩,⟨_,_,rfl,(hm97.get 2 rfl).1,(hm97.get 2 rfl).2.1,(hm97.get 2 rfl).2.2⟩⟩⟩⟩⟩,⟨rfl,trivial⟩⟩⟩⟩⟩⟩⟩⟩⟩⟩⟩⟩);have hm101:=hm99.cu [0,1,2,3,4,5] [6,7,8,9]
  refine Rn.a1 (cK func24) (m_chunk_Chunk_Add_sim e92 hm101.lend :) hm101 fun F92_p0 w92 hm103=>?_
  refine gg 2 rfl ?_;refine aD hM (fun h104 hM=>?_) (fun h104 hM=>?_)
  ·refine gg 4 rfl ?_
   cases hM
   exact Rn.R1 func6 ⟨rfl,hm103.pk []⟩
  refine gg 7 rfl ?_;refine Rn.say (t:=5) (pt b31_0 0) rfl (by rw [e93];rfl) ?_;have hm105:=hm103.toSome (R:=(fun z=>zAc.obj F92_p0 b31_0 z)) 6 rfl;exact hn90 ((W64 (y88+1)),(some p92.2),F92_p0) _ _ sA (hm105.pk [0,1,2,3,4,5,6]) hM
 refine gg 1 rfl ?_;exact hk1 (y89,F89) _ _ sA (hm90.pk [0,1,2,3,4,5,6]) hM
end Go.Proofs.YthjhejgjcdajdaaGreatDoor
