import Derived.Test.YthjhejgjcdajdaaGreatDoorRows
import Derived.Test.YthjhejgjcdajdaaGreatDoorVC2
import Derived.Test.YthjhejgjcdajdaaGreatDoorSC2
set_option maxRecDepth 20000
set_option maxHeartbeats 4000000
set_option linter.unusedVariables false
set_option linter.unusedSimpArgs false
namespace Go.Proofs.YthjhejgjcdajdaaGreatDoor
open Go Go.RowKit Go.Wk _root_.Go.Proofs.Tryz
variable {Z0 : Nat → Prop} {w : World} {F0 : Nat → Prop} {F1 : Nat → Prop} {F2 : Nat → Prop} {F3 : Nat → Prop} {F4 : Nat → Prop} {F5 : Nat → Prop} {b0 : Nat} {b1 : Nat} {b2 : Nat} {b3 : Nat} {b4 : Nat} {b5 : Nat} {A0 : Option Addr} {A1 : Option Addr} {A2 : Option Addr} {A3 : Option Addr} {A4 : Option Addr} {A5 : Option Addr} {c0 : Nat} {c1 : Nat} {c2 : Nat} {c3 : Nat} {c4 : Nat} {c5 : Nat} {cs0 : List Value} {cs1 : List Value} {cs2 : List Value} {cs3 : List Value}
theorem zKo  {r : Bool} (hM : zGq  = some r) (f0 : (rdR 1 0 gl1).H Z0 w) (f1 : (rdR 3 0 gl3).H Z0 w) :
    Calls prog 8 #[] w fun x w'=>x = .returned (.bool (r)) ∧ Hp Z0 No w w' []:=by
 have hm0:=Hp.nil Z0 No w;have hc0:=zD1.nil;have hm3:=hm0.know (rdR 1 0 gl1) (fun _ h=>h) (hm0.in0 hc0 f0);replace hc0:=hc0.snoc (r:=rdR 1 0 gl1) (fun _ h=>h);have hm4:=hm3.know (rdR 3 0 gl3) (fun _ h=>h) (hm3.in0 hc0 f1);replace hc0:=hc0.snoc (r:=rdR 3 0 gl3) (fun _ h=>h);refine Rn.en func8 ?_;refine gg 6 rfl (Rn.q rfl (V.bldS (cs:=[_,_,_,_,_,_,_,_,_,_,_,_,_,_,_,_,_]) st42 rfl rfl) (Rn.als rfl rfl rfl Tryz.zeroValue42 rfl sizeOf42 rfl rfl rfl rfl (by first|exact zN1 rfl|(simp [Value.oneCell'];done)) ?_));intro b5 w5 hb5 m5 e5;have hm7:=(hm4.addBox hb5 e5 m5).nf [_,_,zAr _ _ [_,_,_,_,_,_,_,_,_,_,_,_,_,_,_,_,_]] rfl;refine gg 3 rfl (Rn.q rfl (V.ldBA [_,_,_,_,_,_,_,_,_,_,_,_,_,_,_,_,_] isAgg42 sizeOf42 rfl (hm7.get 2 rfl) rfl rfl) (Rn.q rfl (V.bldS (cs:=[_,_,_,_,_,_,_,_,_,_,_,_,_,_,_,_,_,_]) st44 rfl rfl) (Rn.bslS rfl rfl rfl underlying24 zbi rfl rfl rfl rfl (by first|exact szs rfl|(simp [Value.cells];done)) (by decide) ?_)));intro b8 w8 hb8 m8 e8;have hm9:=hm7.addLitZ (rep:=zA8.rep) (xs:=([({ Ord:=0,Point:=({ Name:=([120] : List UInt8),Attrs:=[],Kind:=3,Temp:=0,Mono:=false,Start:=10,Time:=10,Int_:=0,Re:=(0 : UInt64),Im:=(0 : UInt64),Hist:=({ Scale:=0,Zero:=(0 : UInt64),Pos:=({ Offset:=0,Counts:=[] } : zAd),Neg:=({ Offset:=0,Counts:=[] } : zAd) } : zA2),Flags:=0 } : zA9) } : zA8)] : List zA8)) (vss:=[[iv 0,Str (([120] : List UInt8)),.slice none 0 0,iv 3,iv 0,.bool false,iv 10,iv 10,iv 0,zAo (0 : UInt64),zAo (0 : UInt64),iv 0,zAo (0 : UInt64),iv 0,.slice none 0 0,iv 0,.slice none 0 0,iv 0]]) hb8 e8 m8 rfl rfl rfl ((zQ (show zA8.rep.rel _ _ _ _ from ⟨_,_,rfl,⟨rfl,trivial⟩,⟨_,_,rfl,⟨rfl,trivial⟩,⟨_,_,rfl,⟨none,0,rfl,Nat.le_refl _,Nat.zero_le _,Sl.nil _ _ _ _⟩,⟨_,_,rfl,⟨rfl,trivial⟩,⟨_,_,rfl,⟨rfl,trivial⟩,⟨_,_,rfl,⟨rfl,trivial⟩,⟨_,_,rfl,⟨rfl,trivial⟩,⟨_,_,rfl,⟨rfl,trivial⟩,⟨_,_,rfl,⟨rfl,trivial⟩,⟨_,_,rfl,⟨rfl,trivial⟩,⟨_,_,rfl,⟨rfl,trivial⟩,⟨_,_,rfl,⟨_,_,rfl,⟨rfl,trivial⟩,⟨_,_,rfl,⟨rfl,trivial⟩,⟨_,_,rfl,⟨_,_,rfl,⟨rfl,trivial⟩,⟨none,0,rfl,Nat.le_refl _,Nat.zero_le _,Sl.nil _ _ _ _⟩⟩,⟨_,_,rfl,⟨rfl,trivial⟩,⟨none,0,rfl,Nat.le_refl _,Nat.zero_le _,Sl.nil _ _ _ _⟩⟩⟩⟩⟩,⟨rfl,trivial⟩⟩⟩⟩⟩⟩⟩⟩⟩⟩⟩⟩⟩) zb0));obtain ⟨p11,e11,hM⟩:=zA4 hM
 refine Rn.c2 (cK func12) (zPo (Z0:=All) e11 (zD9 (hm9.get 3 rfl)) (zGf (hm9.get 0 rfl)) (zGf (hm9.get 1 rfl)) :) fun A11_0_0 c11_0_0 w11 hq11=>?_
 have hm13:=hm9.callF (flC (zAl zE9 _ _ _ _) fl0) hq11;refine gg 9 rfl ?_;have hm16:=hm13.freeze 4 rfl;obtain ⟨p14,e14,hM⟩:=zA4 hM
 refine Rn.c2 (cK func9) (zPn (Z0:=hm16.Z) e14 (hm16.get 4 rfl) (hm16.get 0 rfl) (hm16.get 1 rfl) :) fun A14_0_0 c14_0_0 w14 hq14=>?_
 have hm18:=hm16.callZ hq14;refine gg 11 rfl ?_;refine Rn.cutR [7,8,9,10,11,12,13,14,15,16,17,18,19,20,21,22,23,24,25,26,27,28,29,30] [(2,.slice A11_0_0 (p11.1).length c11_0_0),(4,.slice A14_0_0 (p14.1).length c14_0_0),(5,iv p14.2),(25,.bool (decide ((p11.2 = 0) ∧ ((p11.1.length : Int) = 18))))] (fun hk19=>?_) ?_
 ·refine Rn.partD (t:=21) rfl (fun h20=>?_) (fun h20=>?_)
  ·refine gg 1 rfl (Rn.q rfl (V.lenV underlying22 rfl) (gg 2 rfl ?_));exact hk19 _ sA
  ·refine gg 4 rfl ?_;exact hk19 _ sA
 refine gg 1 rfl ?_;refine Rn.jR hm0 hM (G:=Bool) [13,14,15,16,17,18,19,20,21,22,23,24,25,26,27,28,29,30] (fun g=>[(4,.slice A14_0_0 (p14.1).length c14_0_0),(5,iv p14.2),(31,.bool (g))]) (fun g=>[rdR 1 0 gl1,rdR 3 0 gl3,zAr b5 42 [Str (([120] : List UInt8)),.slice none 0 0,iv 3,iv 0,.bool false,iv 10,iv 10,iv 0,zAo (0 : UInt64),zAo (0 : UInt64),iv 0,zAo (0 : UInt64),iv 0,.slice none 0 0,iv 0,.slice none 0 0,iv 0],zBd 44 (some ⟨b8,0,none⟩) 1 zA8.rep ([({ Ord:=0,Point:=({ Name:=([120] : List UInt8),Attrs:=[],Kind:=3,Temp:=0,Mono:=false,Start:=10,Time:=10,Int_:=0,Re:=(0 : UInt64),Im:=(0 : UInt64),Hist:=({ Scale:=0,Zero:=(0 : UInt64),Pos:=({ Offset:=0,Counts:=[] } : zAd),Neg:=({ Offset:=0,Counts:=[] } : zAd) } : zA2),Flags:=0 } : zA9) } : zA8)] : List zA8),zBd 44 A14_0_0 c14_0_0 zA8.rep p14.1]) (fun j g=>j g) ?_ ?_
 ·rintro y21 w22 hm22 hM
  try dsimp only at hM
  refine gg 1 rfl ?_;refine Rn.cutR [17,18,19,20,21,22,23,24,25,26,27,28,29,30] [(4,.slice A14_0_0 (p14.1).length c14_0_0),(35,.bool (decide ((y21 = true) ∧ (p14.2 = 0))))] (fun hk23=>?_) ?_
  ·refine Rn.part (t:=32) rfl (fun h24=>?_) (fun h24=>?_)
   ·refine gg 3 rfl ?_;exact hk23 _ sA
   ·refine gg 3 rfl ?_;exact hk23 _ sA
  refine gg 1 rfl ?_;refine Rn.cutR [22,23,24,25,26,27,28,29,30] [(4,.slice A14_0_0 (p14.1).length c14_0_0),(40,.bool (decide (((y21 = true) ∧ (p14.2 = 0)) ∧ ((p14.1.length : Int) = 1))))] (fun hk25=>?_) ?_
  ·refine Rn.partD (t:=36) rfl (fun h26=>?_) (fun h26=>?_)
   ·refine gg 1 rfl (Rn.q rfl (V.lenV underlying24 rfl) (gg 2 rfl ?_));exact hk25 _ sA
   ·refine gg 4 rfl ?_;exact hk25 _ sA
  refine gg 1 rfl ?_;refine Rn.jR hm0 hM (G:=Bool) [30] (fun g=>[(48,.bool (g))]) (fun g=>[rdR 1 0 gl1,rdR 3 0 gl3,zAr b5 42 [Str (([120] : List UInt8)),.slice none 0 0,iv 3,iv 0,.bool false,iv 10,iv 10,iv 0,zAo (0 : UInt64),zAo (0 : UInt64),iv 0,zAo (0 : UInt64),iv 0,.slice none 0 0,iv 0,.slice none 0 0,iv 0],zBd 44 (some ⟨b8,0,none⟩) 1 zA8.rep ([({ Ord:=0,Point:=({ Name:=([120] : List UInt8),Attrs:=[],Kind:=3,Temp:=0,Mono:=false,Start:=10,Time:=10,Int_:=0,Re:=(0 : UInt64),Im:=(0 : UInt64),Hist:=({ Scale:=0,Zero:=(0 : UInt64),Pos:=({ Offset:=0,Counts:=[] } : zAd),Neg:=({ Offset:=0,Counts:=[] } : zAd) } : zA2),Flags:=0 } : zA9) } : zA8)] : List zA8),zBd 44 A14_0_0 c14_0_0 zA8.rep p14.1]) (fun j g=>j g) ?_ ?_
  ·rintro y27 w28 hm28 hM
   try dsimp only at hM
   refine gg 2 rfl ?_
   cases hM
   exact Rn.R1 func8 ⟨rfl,hm28.pk []⟩
  intro j2 hM hk2;refine zB hM (Rn.partD (t:=41) rfl) (fun h29 hM=>?_) (fun h29 hM=>?_)
  ·refine gg 1 rfl ?_;obtain ⟨z30,e30,hM⟩:=zA4 hM;obtain ⟨kk30,ke30,kz30,kl30⟩:=zHf e30;obtain ⟨g30,vs30,hA30,hR30,hrel30⟩:=hm22.ownAt 4 rfl kz30;subst hA30;obtain ⟨Ar31,cr31,Ar33,cr33,Ar35,cr35,rfl,fs31,fs33,fs35⟩:=zA8.relE hrel30;have hm37:=Hp.knowL [slR Ar31 cr31 zA.rep z30.Point.Attrs,slR Ar33 cr33 zAp z30.Point.Hist.Pos.Counts,slR Ar35 cr35 zAp z30.Point.Hist.Neg.Counts] _ hm22 (knC (fun _ h=>h) fs31 (knC (fun _ h=>h) fs33 (knC (fun _ h=>h) fs35 kn0)));refine Rn.q rfl (V.ixE kk30 underlying24 sizeOf44 rfl rfl ke30 kl30) (gg 2 rfl (Rn.q rfl (V.ldR (o:=kk30 * 18) (j:=7) isAgg3 rfl hR30 rfl) (gg 2 rfl ?_)));exact hk2 (decide (z30.Point.Time = 10)) _ _ sA (hm37.pk [0,1,2,3,4]) hM
  ·cases hM
 intro j1 hM hk1;refine zB hM (Rn.partD (t:=26) rfl) (fun h38 hM=>?_) (fun h38 hM=>?_)
 ·refine gg 1 rfl ?_;obtain ⟨z39,e39,hM⟩:=zA4 hM;refine Rn.cutH hm18 4 rfl e39 rfl rfl rfl underlying22 sizeOf5 rfl rfl rfl rfl rfl ?_;intro A39 c39 hm39;refine Rn.q rfl (V.b2s underlying22 underlying9 underlying5 rfl rfl (hm39.get 6 rfl).2.2) (Rn.q rfl (V.eqlS rfl rfl) (gg 1 rfl ?_));exact hk1 (decide (z39 = ([5,120,32,51,48,48,1,77] : List UInt8))) _ _ sA (hm39.pk [0,1,2,3,5]) hM
 ·cases hM
theorem zKh {x0 : (List zA)} {r : Bool} (hM : zEw x0 = some r) (f0 : (slR A0 c0 zA.rep x0).H Z0 w) :
    Calls prog 53 #[.slice A0 (x0).length c0] w fun x w'=>x = .returned (.bool (r)) ∧ Hp Z0 No w w' []:=by
 have hm0:=Hp.nil Z0 No w;have hc0:=zD1.nil;have hm2:=hm0.know (slR A0 c0 zA.rep x0) (fun _ h=>h) (hm0.in0 hc0 f0);replace hc0:=hc0.snoc (r:=slR A0 c0 zA.rep x0) (fun _ h=>h);refine Rn.en func53 ?_;refine gg 8 rfl (Rn.q rfl (V.lenV underlying34 rfl) (gg 2 rfl ?_));refine zB hM (Rn.condD rfl) (fun h3 hM=>?_) (fun h3 hM=>?_)
 ·refine gg 4 rfl ?_
  cases hM
  exact Rn.R1 func53 ⟨rfl,hm2.pk []⟩
 ·refine gg 6 rfl ?_;refine Rn.jG hm0 hM (G:=Unit) (fun g=>[]) (fun g=>[]) (fun j g=>j ()) ?_ ?_
  ·rintro _ w4 hm4 hM
   try dsimp only at hM
   refine gg 4 rfl ?_
   cases hM
   exact Rn.R1 func53 ⟨rfl,hm4.pk []⟩
  intro j1 hM hk1;refine gg 1 rfl ?_;refine Rn.loopF (G:=Int) (fun g=>[(0,.slice A0 (x0).length c0),(3,iv g)]) (fun g w'=>Hp Z0 No w w' [slR A0 c0 zA.rep x0]) (fun n g=>zB2 x0 j1 n g) fuel 0 sA (hm2.pk [0]) hM (fun _=>rfl) ?_;clear hM;rintro m6 y5 w6 hm6 hM hn6;replace hM : zB2 x0 j1 (m6 + 1) y5 = some r:=hM;rw [zB2] at hM;refine gg 5 rfl (Rn.q rfl (V.lenV underlying34 rfl) (gg 2 rfl ?_));refine zB hM (Rn.condD rfl) (fun h7 hM=>?_) (fun h7 hM=>?_)
  ·refine gg 7 rfl ?_;obtain ⟨z8,e8,hM⟩:=zA4 hM;refine Rn.ixH hm6 0 rfl e8 rfl rfl rfl underlying34 sizeOf118 rfl rfl rfl rfl ?_;rintro b8 o8 vs8 hr8 hm8;obtain rfl:=zA.relE hr8;refine gg 1 rfl (Rn.q rfl (V.ldR0 isAgg9 rfl (hm8.get 1 rfl).2 rfl) (Rn.q rfl (V.lenS underlying9 rfl) (gg 2 rfl ?_)));refine Rn.jR hm0 hM (G:=Bool) [] (fun g=>[(0,.slice A0 (x0).length c0),(3,iv y5),(28,.bool (g))]) (fun g=>[slR A0 c0 zA.rep x0]) (fun j g=>j g) ?_ ?_
   ·rintro y10 w11 hm11 hM
    try dsimp only at hM
    refine gg 1 rfl ?_;refine zGt hM (Rn.condS rfl) (fun h12 hM=>?_) (fun h12 hM=>?_)
    ·refine gg 4 rfl ?_
     cases hM
     exact Rn.R1 func53 ⟨rfl,hm11.pk []⟩
    ·refine gg 7 rfl ?_;exact hn6 (W64 (y5 + 1)) _ _ sA (hm11.pk [0]) hM
   intro j2 hM hk2;refine zB hM (Rn.partD (t:=20) rfl) (fun h13 hM=>?_) (fun h13 hM=>?_)
   ·refine gg 8 rfl ?_;exact hk2 true _ _ sA (hm8.pk [0]) hM
   ·refine gg 2 rfl ?_;obtain ⟨z14,e14,hM⟩:=zA4 hM;refine Rn.ixH hm8 0 rfl e14 rfl rfl rfl underlying34 sizeOf118 rfl rfl rfl rfl ?_;rintro b14 o14 vs14 hr14 hm14;obtain rfl:=zA.relE hr14;refine gg 1 rfl (Rn.q rfl (V.ldR isAgg9 rfl (hm14.get 2 rfl).2 rfl) (Rn.q rfl (V.lenS underlying9 rfl) (gg 2 rfl ?_)));exact hk2 (decide ((z14.Val.length : Int) > 100)) _ _ sA (hm14.pk [0]) hM
  ·refine gg 1 rfl ?_;exact hk1 () _ _ (sb trivial) (hm6.pk []) hM
theorem zKk {x0 : zA2} {r : Bool} (hM : zGp x0 = some r) (h0 : zA2.rep.rel Z0 w cs0 x0) :
    Calls prog 54 #[.agg cs0.toArray] w fun x w'=>x = .returned (.bool (r)) ∧ Hp Z0 No w w' []:=by
 have hm0:=Hp.nil Z0 No w;have hc0:=zD1.nil;obtain ⟨Ar1,cr1,Ar3,cr3,rfl,fs1,fs3⟩:=zA2.relE h0;have hm5:=hm0.know (slR Ar1 cr1 zAp x0.Pos.Counts) (fun _ h=>h) (hm0.in0 hc0 fs1);replace hc0:=hc0.snoc (r:=slR Ar1 cr1 zAp x0.Pos.Counts) (fun _ h=>h);have hm6:=hm5.know (slR Ar3 cr3 zAp x0.Neg.Counts) (fun _ h=>h) (hm5.in0 hc0 fs3);replace hc0:=hc0.snoc (r:=slR Ar3 cr3 zAp x0.Neg.Counts) (fun _ h=>h);refine Rn.en func54 ?_;refine gg 2 rfl (Rn.box rfl rfl rfl rfl rfl ?_);intro b7 w7 hb7 m7 e7;have hm9:=(hm6.addBox hb7 e7 m7).nf [_,_,zAr _ _ [_,_,_,_,_,_]] rfl;refine gg 6 rfl (Rn.q rfl (V.ldB isAgg36 rfl (hm9.get 2 rfl) rfl) (Rn.q rfl (V.lenV underlying36 rfl) (gg 2 rfl ?_)));refine Rn.cutR [12] [(14,.bool (decide (((x0.Pos.Counts.length : Int) ≤ 300) ∧ ((x0.Neg.Counts.length : Int) ≤ 300))))] (fun hk10=>?_) ?_
 ·refine Rn.partD (t:=8) rfl (fun h11=>?_) (fun h11=>?_)
  ·refine gg 2 rfl (Rn.q rfl (V.ldB isAgg36 rfl (hm9.get 2 rfl) rfl) (Rn.q rfl (V.lenV underlying36 rfl) (gg 2 rfl ?_)));exact hk10 _ sA
  ·refine gg 6 rfl ?_;exact hk10 _ sA
 refine gg 2 rfl ?_
 cases hM
 exact Rn.R1 func54 ⟨rfl,hm9.pk []⟩
theorem zH6 {x0 : zA9} {r : Bool} (hM : zCs x0 = some r) (h0 : zA9.rep.rel Z0 w cs0 x0) :
    Calls prog 17 #[.agg cs0.toArray] w fun x w'=>x = .returned (.bool (r)) ∧ Hp Z0 No w w' []:=by
 have hm0:=Hp.nil Z0 No w;have hc0:=zD1.nil;obtain ⟨Ar1,cr1,Ar3,cr3,Ar5,cr5,rfl,fs1,fs3,fs5⟩:=zA9.relE h0;have hm7:=hm0.know (slR Ar1 cr1 zA.rep x0.Attrs) (fun _ h=>h) (hm0.in0 hc0 fs1);replace hc0:=hc0.snoc (r:=slR Ar1 cr1 zA.rep x0.Attrs) (fun _ h=>h);have hm8:=hm7.know (slR Ar3 cr3 zAp x0.Hist.Pos.Counts) (fun _ h=>h) (hm7.in0 hc0 fs3);replace hc0:=hc0.snoc (r:=slR Ar3 cr3 zAp x0.Hist.Pos.Counts) (fun _ h=>h);have hm9:=hm8.know (slR Ar5 cr5 zAp x0.Hist.Neg.Counts) (fun _ h=>h) (hm8.in0 hc0 fs5);replace hc0:=hc0.snoc (r:=slR Ar5 cr5 zAp x0.Hist.Neg.Counts) (fun _ h=>h);refine Rn.en func17 ?_;refine gg 2 rfl (Rn.box rfl rfl rfl rfl rfl ?_);intro b10 w10 hb10 m10 e10;have hm12:=(hm9.addBox hb10 e10 m10).nf [_,_,_,zAr _ _ [_,_,_,_,_,_,_,_,_,_,_,_,_,_,_,_,_]] rfl;refine gg 5 rfl (Rn.q rfl (V.ldB isAgg9 rfl (hm12.get 3 rfl) rfl) (Rn.q rfl (V.lenS underlying9 rfl) (gg 2 rfl ?_)));refine Rn.jR hm0 hM (G:=Bool) [9,10,11,12,13,14] (fun g=>[(1,pt b10 0),(11,.bool (g))]) (fun g=>[slR Ar1 cr1 zA.rep x0.Attrs,slR Ar3 cr3 zAp x0.Hist.Pos.Counts,slR Ar5 cr5 zAp x0.Hist.Neg.Counts,zAr b10 42 [Str (x0.Name),.slice Ar1 (x0.Attrs).length cr1,iv x0.Kind,iv x0.Temp,.bool (x0.Mono),iv x0.Start,iv x0.Time,iv x0.Int_,zAo x0.Re,zAo x0.Im,iv x0.Hist.Scale,zAo x0.Hist.Zero,iv x0.Hist.Pos.Offset,.slice Ar3 (x0.Hist.Pos.Counts).length cr3,iv x0.Hist.Neg.Offset,.slice Ar5 (x0.Hist.Neg.Counts).length cr5,iv x0.Flags]]) (fun j g=>j g) ?_ ?_
 ·rintro y13 w14 hm14 hM
  try dsimp only at hM
  refine gg 1 rfl ?_;refine Rn.jR hm0 hM (G:=Bool) [14] (fun g=>[(16,.bool (g))]) (fun g=>[slR Ar1 cr1 zA.rep x0.Attrs,slR Ar3 cr3 zAp x0.Hist.Pos.Counts,slR Ar5 cr5 zAp x0.Hist.Neg.Counts,zAr b10 42 [Str (x0.Name),.slice Ar1 (x0.Attrs).length cr1,iv x0.Kind,iv x0.Temp,.bool (x0.Mono),iv x0.Start,iv x0.Time,iv x0.Int_,zAo x0.Re,zAo x0.Im,iv x0.Hist.Scale,zAo x0.Hist.Zero,iv x0.Hist.Pos.Offset,.slice Ar3 (x0.Hist.Pos.Counts).length cr3,iv x0.Hist.Neg.Offset,.slice Ar5 (x0.Hist.Neg.Counts).length cr5,iv x0.Flags]]) (fun j g=>j g) ?_ ?_
  ·rintro y15 w16 hm16 hM
   try dsimp only at hM
   refine gg 2 rfl ?_
   cases hM
   exact Rn.R1 func17 ⟨rfl,hm16.pk []⟩
  intro j2 hM hk2;refine zGt hM (Rn.part (t:=12) rfl) (fun h17 hM=>?_) (fun h17 hM=>?_)
  ·refine gg 1 rfl (Rn.q rfl (V.ldBA [_,_,_,_,_,_] isAgg40 sizeOf40 rfl (hm14.get 3 rfl) rfl rfl) ?_);obtain ⟨p18,e18,hM⟩:=zA4 hM
   refine Rn.c0 (cK func54) (zKk (Z0:=All) e18 (show zA2.rep.rel All _ _ _ from ⟨_,_,rfl,⟨rfl,trivial⟩,⟨_,_,rfl,⟨rfl,trivial⟩,⟨_,_,rfl,⟨_,_,rfl,⟨rfl,trivial⟩,⟨_,_,rfl,(zA1 (hm14.get 1 rfl)).1,(zA1 (hm14.get 1 rfl)).2.1,(zA1 (hm14.get 1 rfl)).2.2⟩⟩,⟨_,_,rfl,⟨rfl,trivial⟩,⟨_,_,rfl,(zA1 (hm14.get 2 rfl)).1,(zA1 (hm14.get 2 rfl)).2.1,(zA1 (hm14.get 2 rfl)).2.2⟩⟩⟩⟩⟩) :) hm14 fun w18 _ hm19=>?_
   refine gg 1 rfl ?_;exact hk2 p18 _ _ sA (hm19.pk [0,1,2,3]) hM
  ·refine gg 4 rfl ?_;exact hk2 false _ _ sA (hm14.pk [0,1,2,3]) hM
 intro j1 hM hk1;refine zB hM (Rn.partD (t:=7) rfl) (fun h20 hM=>?_) (fun h20 hM=>?_)
 ·refine gg 1 rfl (Rn.q rfl (V.ldB isAgg34 rfl (hm12.get 3 rfl) rfl) ?_);obtain ⟨p21,e21,hM⟩:=zA4 hM
  refine Rn.c0 (cK func53) (zKh (Z0:=All) e21 (zA1 (hm12.get 0 rfl)) :) hm12 fun w21 _ hm22=>?_
  refine gg 1 rfl ?_;exact hk1 p21 _ _ sA (hm22.pk [0,1,2,3]) hM
 ·refine gg 4 rfl ?_;exact hk1 false _ _ sA (hm12.pk [0,1,2,3]) hM
theorem zKe {x0 : (List zA8)} {x1 : Int} {r : Bool} (hM : zEu x0 x1 = some r) (f0 : (slR A0 c0 zA8.rep x0).H Z0 w) :
    Calls prog 13 #[.slice A0 (x0).length c0,iv x1] w fun x w'=>x = .returned (.bool (r)) ∧ Hp Z0 No w w' []:=by
 have hm0:=Hp.nil Z0 No w;have hc0:=zD1.nil;have hm2:=hm0.know (slR A0 c0 zA8.rep x0) (fun _ h=>h) (hm0.in0 hc0 f0);replace hc0:=hc0.snoc (r:=slR A0 c0 zA8.rep x0) (fun _ h=>h);refine Rn.en func13 ?_;refine gg 8 rfl (Rn.q rfl (V.lenV underlying24 rfl) (gg 3 rfl ?_));refine zB hM (Rn.condD rfl) (fun h3 hM=>?_) (fun h3 hM=>?_)
 ·refine gg 4 rfl ?_
  cases hM
  exact Rn.R1 func13 ⟨rfl,hm2.pk []⟩
 ·refine gg 6 rfl ?_;refine Rn.jG hm0 hM (G:=Unit) (fun g=>[]) (fun g=>[]) (fun j g=>j ()) ?_ ?_
  ·rintro _ w4 hm4 hM
   try dsimp only at hM
   refine gg 4 rfl ?_
   cases hM
   exact Rn.R1 func13 ⟨rfl,hm4.pk []⟩
  intro j1 hM hk1;refine gg 1 rfl ?_;refine Rn.loopF (G:=Int) (fun g=>[(0,.slice A0 (x0).length c0),(5,iv g)]) (fun g w'=>Hp Z0 No w w' [slR A0 c0 zA8.rep x0]) (fun n g=>zB0 x0 j1 n g) fuel 0 sA (hm2.pk [0]) hM (fun _=>rfl) ?_;clear hM;rintro m6 y5 w6 hm6 hM hn6;replace hM : zB0 x0 j1 (m6 + 1) y5 = some r:=hM;rw [zB0] at hM;refine gg 5 rfl (Rn.q rfl (V.lenV underlying24 rfl) (gg 2 rfl ?_));refine zB hM (Rn.condD rfl) (fun h7 hM=>?_) (fun h7 hM=>?_)
  ·refine gg 7 rfl ?_;obtain ⟨z8,e8,hM⟩:=zA4 hM;refine Rn.ixH hm6 0 rfl e8 rfl rfl rfl underlying24 sizeOf44 rfl rfl rfl rfl ?_;rintro b8 o8 vs8 hr8 hm8;obtain ⟨Ar9,cr9,Ar11,cr11,Ar13,cr13,rfl,fs9,fs11,fs13⟩:=zA8.relE hr8;have hm16:=Hp.know1 (M:=[slR Ar9 cr9 zA.rep z8.Point.Attrs,slR Ar11 cr11 zAp z8.Point.Hist.Pos.Counts,slR Ar13 cr13 zAp z8.Point.Hist.Neg.Counts]) hm8 (fun _ h=>h) (knC (fun _ h=>h) fs9 (knC (fun _ h=>h) fs11 (knC (fun _ h=>h) fs13 kn0)));refine gg 1 rfl (Rn.q rfl (V.ldA (vs:=[_,_,_,_,_,_,_,_,_,_,_,_,_,_,_,_,_]) isAgg42 sizeOf42 rfl (Rd.sub (hm16.get 1 rfl).2 1 17) rfl) ?_);obtain ⟨p17,e17,hM⟩:=zA4 hM
   refine Rn.c0 (cK func17) (zH6 (Z0:=All) e17 (show zA9.rep.rel All _ _ _ from ⟨_,_,rfl,⟨rfl,trivial⟩,⟨_,_,rfl,⟨_,_,rfl,(zA1 (hm16.get 2 rfl)).1,(zA1 (hm16.get 2 rfl)).2.1,(zA1 (hm16.get 2 rfl)).2.2⟩,⟨_,_,rfl,⟨rfl,trivial⟩,⟨_,_,rfl,⟨rfl,trivial⟩,⟨_,_,rfl,⟨rfl,trivial⟩,⟨_,_,rfl,⟨rfl,trivial⟩,⟨_,_,rfl,⟨rfl,trivial⟩,⟨_,_,rfl,⟨rfl,trivial⟩,⟨_,_,rfl,⟨rfl,trivial⟩,⟨_,_,rfl,⟨rfl,trivial⟩,⟨_,_,rfl,⟨_,_,rfl,⟨rfl,trivial⟩,⟨_,_,rfl,⟨rfl,trivial⟩,⟨_,_,rfl,⟨_,_,rfl,⟨rfl,trivial⟩,⟨_,_,rfl,(zA1 (hm16.get 3 rfl)).1,(zA1 (hm16.get 3 rfl)).2.1,(zA1 (hm16.get 3 rfl)).2.2⟩⟩,⟨_,_,rfl,⟨rfl,trivial⟩,⟨_,_,rfl,(zA1 (hm16.get 4 rfl)).1,(zA1 (hm16.get 4 rfl)).2.1,(zA1 (hm16.get 4 rfl)).2.2⟩⟩⟩⟩⟩,⟨rfl,trivial⟩⟩⟩⟩⟩⟩⟩⟩⟩⟩⟩⟩) :) hm16 fun w17 _ hm18=>?_
   refine Rn.q rfl (V.notB rfl) (gg 1 rfl ?_);refine zGt hM (Rn.condS rfl) (fun h19 hM=>?_) (fun h19 hM=>?_)
   ·refine gg 4 rfl ?_
    cases hM
    exact Rn.R1 func13 ⟨rfl,hm18.pk []⟩
   ·refine gg 7 rfl ?_;exact hn6 (W64 (y5 + 1)) _ _ sA (hm18.pk [0]) hM
  ·refine gg 1 rfl ?_;exact hk1 () _ _ (sb trivial) (hm6.pk []) hM
theorem zHo {x0 : (List UInt8)} {r : Bool} (hM : zDg x0 = some r)  :
    Calls prog 97 #[Str (x0)] w fun x w'=>x = .returned (.bool (r)) ∧ Hp Z0 No w w' []:=by
 have hm0:=Hp.nil Z0 No w;have hc0:=zD1.nil;refine Rn.en func97 ?_;refine gg 8 rfl (Rn.q rfl (V.lenS underlying9 rfl) (gg 2 rfl ?_));refine Rn.cutR [] [(0,Str (x0)),(14,.bool (decide (((x0.length : Int) < 1) ∨ ((x0.length : Int) > 32))))] (fun hk1=>?_) ?_
 ·refine Rn.partD (t:=10) rfl (fun h2=>?_) (fun h2=>?_)
  ·refine gg 4 rfl ?_;exact hk1 _ sA
  ·refine gg 1 rfl (Rn.q rfl (V.lenS underlying9 rfl) (gg 2 rfl ?_));exact hk1 _ sA
 refine gg 1 rfl ?_;refine zB hM (Rn.condD rfl) (fun h3 hM=>?_) (fun h3 hM=>?_)
 ·refine gg 4 rfl ?_
  cases hM
  exact Rn.R1 func97 ⟨rfl,hm0.pk []⟩
 ·refine gg 6 rfl ?_;refine Rn.jG hm0 hM (G:=Unit) (fun g=>[]) (fun g=>[]) (fun j g=>j ()) ?_ ?_
  ·rintro _ w4 hm4 hM
   try dsimp only at hM
   refine gg 4 rfl ?_
   cases hM
   exact Rn.R1 func97 ⟨rfl,hm4.pk []⟩
  intro j1 hM hk1;refine gg 1 rfl ?_;refine Rn.loopF (G:=Int) (fun g=>[(0,Str (x0)),(3,iv g)]) (fun g w'=>Hp Z0 No w w' []) (fun n g=>zBa x0 j1 n g) fuel 0 sA (hm0.pk []) hM (fun _=>rfl) ?_;clear hM;rintro m6 y5 w6 hm6 hM hn6;replace hM : zBa x0 j1 (m6 + 1) y5 = some r:=hM;rw [zBa] at hM;refine gg 5 rfl (Rn.q rfl (V.lenS underlying9 rfl) (gg 2 rfl ?_));refine zB hM (Rn.condD rfl) (fun h7 hM=>?_) (fun h7 hM=>?_)
  ·refine gg 7 rfl ?_;obtain ⟨z8,e8,hM⟩:=zA4 hM;refine Rn.q rfl (V.idxSZ underlying9 rfl rfl e8) (gg 5 rfl (Rn.q rfl (V.geq rfl rfl) (gg 1 rfl ?_)));refine Rn.cutR [6] [(0,Str (x0)),(3,iv y5),(4,u8v z8),(29,.bool (decide ((((z8).toNat : Int) ≥ 97) ∧ (((z8).toNat : Int) ≤ 122))))] (fun hk9=>?_) ?_
   ·refine Rn.partD (t:=26) rfl (fun h10=>?_) (fun h10=>?_)
    ·refine gg 1 rfl (Rn.q rfl (V.leq rfl rfl) (gg 1 rfl ?_));exact hk9 _ sA
    ·refine gg 3 rfl ?_;exact hk9 _ sA
   refine gg 5 rfl (Rn.q rfl (V.geq rfl rfl) (gg 1 rfl ?_));refine Rn.cutR [6,7,8,9,10,11,12,13,14] [(0,Str (x0)),(3,iv y5),(4,u8v z8),(5,.bool (decide ((((z8).toNat : Int) ≥ 97) ∧ (((z8).toNat : Int) ≤ 122)))),(35,.bool (decide ((((z8).toNat : Int) ≥ 48) ∧ (((z8).toNat : Int) ≤ 57))))] (fun hk11=>?_) ?_
   ·refine Rn.partD (t:=32) rfl (fun h12=>?_) (fun h12=>?_)
    ·refine gg 1 rfl (Rn.q rfl (V.leq rfl rfl) (gg 1 rfl ?_));exact hk11 _ sA
    ·refine gg 3 rfl ?_;exact hk11 _ sA
   refine gg 1 rfl ?_;refine Rn.cutR [10,11,12,13,14] [(0,Str (x0)),(3,iv y5),(4,u8v z8),(5,.bool (decide ((((z8).toNat : Int) ≥ 97) ∧ (((z8).toNat : Int) ≤ 122)))),(39,.bool (decide (((((z8).toNat : Int) ≥ 48) ∧ (((z8).toNat : Int) ≤ 57)) ∨ (((z8).toNat : Int) = 95))))] (fun hk13=>?_) ?_
   ·refine Rn.partD (t:=36) rfl (fun h14=>?_) (fun h14=>?_)
    ·refine gg 3 rfl ?_;exact hk13 _ sA
    ·refine gg 1 rfl (Rn.q rfl (V.eql rfl rfl) (gg 1 rfl ?_));exact hk13 _ sA
   refine gg 1 rfl ?_;refine Rn.cutR [14] [(0,Str (x0)),(3,iv y5),(5,.bool (decide ((((z8).toNat : Int) ≥ 97) ∧ (((z8).toNat : Int) ≤ 122)))),(43,.bool (decide ((((((z8).toNat : Int) ≥ 48) ∧ (((z8).toNat : Int) ≤ 57)) ∨ (((z8).toNat : Int) = 95)) ∨ (((z8).toNat : Int) = 46))))] (fun hk15=>?_) ?_
   ·refine Rn.partD (t:=40) rfl (fun h16=>?_) (fun h16=>?_)
    ·refine gg 3 rfl ?_;exact hk15 _ sA
    ·refine gg 1 rfl (Rn.q rfl (V.eql rfl rfl) (gg 1 rfl ?_));exact hk15 _ sA
   refine gg 5 rfl (Rn.q rfl (V.notD rfl) (gg 1 rfl ?_));refine Rn.cutR [] [(0,Str (x0)),(3,iv y5),(53,.bool (decide ((¬ ((((z8).toNat : Int) ≥ 97) ∧ (((z8).toNat : Int) ≤ 122))) ∧ ((y5 = 0) ∨ (¬ ((((((z8).toNat : Int) ≥ 48) ∧ (((z8).toNat : Int) ≤ 57)) ∨ (((z8).toNat : Int) = 95)) ∨ (((z8).toNat : Int) = 46)))))))] (fun hk17=>?_) ?_
   ·refine Rn.partD (t:=46) rfl (fun h18=>?_) (fun h18=>?_)
    ·refine gg 3 rfl ?_;refine Rn.cutR [9] [(0,Str (x0)),(3,iv y5),(46,.bool true),(52,.bool (decide ((y5 = 0) ∨ (¬ ((((((z8).toNat : Int) ≥ 48) ∧ (((z8).toNat : Int) ≤ 57)) ∨ (((z8).toNat : Int) = 95)) ∨ (((z8).toNat : Int) = 46))))))] (fun hk19=>?_) ?_
     ·refine Rn.partD (t:=49) rfl (fun h20=>?_) (fun h20=>?_)
      ·refine gg 3 rfl ?_;exact hk19 _ sA
      ·refine gg 1 rfl (Rn.q rfl (V.notD rfl) (gg 1 rfl ?_));exact hk19 _ sA
     refine gg 1 rfl ?_;exact hk17 _ sA
    ·refine gg 7 rfl ?_;exact hk17 _ sA
   refine gg 1 rfl ?_;refine zB hM (Rn.condD rfl) (fun h21 hM=>?_) (fun h21 hM=>?_)
   ·refine gg 4 rfl ?_
    cases hM
    exact Rn.R1 func97 ⟨rfl,hm6.pk []⟩
   ·refine gg 7 rfl ?_;exact hn6 (W64 (y5 + 1)) _ _ sA (hm6.pk []) hM
  ·refine gg 1 rfl ?_;exact hk1 () _ _ (sb trivial) (hm6.pk []) hM
theorem zKg {x0 : (List UInt8)} {r : Bool} (hM : zDw x0 = some r)  :
    Calls prog 98 #[Str (x0)] w fun x w'=>x = .returned (.bool (r)) ∧ Hp Z0 No w w' []:=by
 have hm0:=Hp.nil Z0 No w;have hc0:=zD1.nil;refine Rn.en func98 ?_;refine gg 8 rfl (Rn.q rfl (V.lenS underlying9 rfl) (gg 2 rfl ?_));refine Rn.cutR [] [(0,Str (x0)),(12,.bool (decide (((x0.length : Int) < 1) ∨ ((x0.length : Int) > 32))))] (fun hk1=>?_) ?_
 ·refine Rn.partD (t:=8) rfl (fun h2=>?_) (fun h2=>?_)
  ·refine gg 4 rfl ?_;exact hk1 _ sA
  ·refine gg 1 rfl (Rn.q rfl (V.lenS underlying9 rfl) (gg 2 rfl ?_));exact hk1 _ sA
 refine gg 1 rfl ?_;refine zB hM (Rn.condD rfl) (fun h3 hM=>?_) (fun h3 hM=>?_)
 ·refine gg 4 rfl ?_
  cases hM
  exact Rn.R1 func98 ⟨rfl,hm0.pk []⟩
 ·refine gg 6 rfl ?_;refine Rn.jG hm0 hM (G:=Unit) (fun g=>[]) (fun g=>[]) (fun j g=>j ()) ?_ ?_
  ·rintro _ w4 hm4 hM
   try dsimp only at hM
   refine gg 4 rfl ?_
   cases hM
   exact Rn.R1 func98 ⟨rfl,hm4.pk []⟩
  intro j1 hM hk1;refine gg 1 rfl ?_;refine Rn.loopF (G:=Int) (fun g=>[(0,Str (x0)),(3,iv g)]) (fun g w'=>Hp Z0 No w w' []) (fun n g=>zB1 x0 j1 n g) fuel 0 sA (hm0.pk []) hM (fun _=>rfl) ?_;clear hM;rintro m6 y5 w6 hm6 hM hn6;replace hM : zB1 x0 j1 (m6 + 1) y5 = some r:=hM;rw [zB1] at hM;refine gg 5 rfl (Rn.q rfl (V.lenS underlying9 rfl) (gg 2 rfl ?_));refine zB hM (Rn.condD rfl) (fun h7 hM=>?_) (fun h7 hM=>?_)
  ·refine gg 7 rfl ?_;obtain ⟨z8,e8,hM⟩:=zA4 hM;refine Rn.q rfl (V.idxSZ underlying9 rfl rfl e8) (gg 5 rfl (Rn.q rfl (V.leq rfl rfl) (gg 1 rfl ?_)));refine Rn.cutR [6,7,8,9,10,11,12,13,14,15,16,17] [(0,Str (x0)),(3,iv y5),(4,u8v z8),(27,.bool (decide ((((z8).toNat : Int) ≤ 32) ∨ (((z8).toNat : Int) ≥ 127))))] (fun hk9=>?_) ?_
   ·refine Rn.partD (t:=24) rfl (fun h10=>?_) (fun h10=>?_)
    ·refine gg 3 rfl ?_;exact hk9 _ sA
    ·refine gg 1 rfl (Rn.q rfl (V.geq rfl rfl) (gg 1 rfl ?_));exact hk9 _ sA
   refine gg 1 rfl ?_;refine Rn.cutR [10,11,12,13,14,15,16,17] [(0,Str (x0)),(3,iv y5),(4,u8v z8),(31,.bool (decide (((((z8).toNat : Int) ≤ 32) ∨ (((z8).toNat : Int) ≥ 127)) ∨ (((z8).toNat : Int) = 61))))] (fun hk11=>?_) ?_
   ·refine Rn.partD (t:=28) rfl (fun h12=>?_) (fun h12=>?_)
    ·refine gg 3 rfl ?_;exact hk11 _ sA
    ·refine gg 1 rfl (Rn.q rfl (V.eql rfl rfl) (gg 1 rfl ?_));exact hk11 _ sA
   refine gg 1 rfl ?_;refine Rn.cutR [14,15,16,17] [(0,Str (x0)),(3,iv y5),(4,u8v z8),(35,.bool (decide ((((((z8).toNat : Int) ≤ 32) ∨ (((z8).toNat : Int) ≥ 127)) ∨ (((z8).toNat : Int) = 61)) ∨ (((z8).toNat : Int) = 59))))] (fun hk13=>?_) ?_
   ·refine Rn.partD (t:=32) rfl (fun h14=>?_) (fun h14=>?_)
    ·refine gg 3 rfl ?_;exact hk13 _ sA
    ·refine gg 1 rfl (Rn.q rfl (V.eql rfl rfl) (gg 1 rfl ?_));exact hk13 _ sA
   refine gg 1 rfl ?_;refine Rn.cutR [] [(0,Str (x0)),(3,iv y5),(39,.bool (decide (((((((z8).toNat : Int) ≤ 32) ∨ (((z8).toNat : Int) ≥ 127)) ∨ (((z8).toNat : Int) = 61)) ∨ (((z8).toNat : Int) = 59)) ∨ (((z8).toNat : Int) = 44))))] (fun hk15=>?_) ?_
   ·refine Rn.partD (t:=36) rfl (fun h16=>?_) (fun h16=>?_)
    ·refine gg 3 rfl ?_;exact hk15 _ sA
    ·refine gg 1 rfl (Rn.q rfl (V.eql rfl rfl) (gg 1 rfl ?_));exact hk15 _ sA
   refine gg 1 rfl ?_;refine zB hM (Rn.condD rfl) (fun h17 hM=>?_) (fun h17 hM=>?_)
   ·refine gg 4 rfl ?_
    cases hM
    exact Rn.R1 func98 ⟨rfl,hm6.pk []⟩
   ·refine gg 7 rfl ?_;exact hn6 (W64 (y5 + 1)) _ _ sA (hm6.pk []) hM
  ·refine gg 1 rfl ?_;exact hk1 () _ _ (sb trivial) (hm6.pk []) hM
theorem zH7 {x0 : (List UInt8)} {x1 : (List zA)} {r : Int} (hM : zDx x0 x1 = some r) (f0 : (slR A1 c1 zA.rep x1).H Z0 w) :
    Calls prog 45 #[Str (x0),.slice A1 (x1).length c1] w fun x w'=>x = .returned (iv r) ∧ Hp Z0 No w w' []:=by
 have hm0:=Hp.nil Z0 No w;have hc0:=zD1.nil;have hm2:=hm0.know (slR A1 c1 zA.rep x1) (fun _ h=>h) (hm0.in0 hc0 f0);replace hc0:=hc0.snoc (r:=slR A1 c1 zA.rep x1) (fun _ h=>h);refine Rn.en func45 ?_;refine gg 8 rfl ?_;obtain ⟨p3,e3,hM⟩:=zA4 hM
 refine Rn.c0 (cK func97) (zHo (Z0:=All) e3  :) hm2 fun w3 _ hm4=>?_
 refine Rn.q rfl (V.notB rfl) (gg 1 rfl ?_);refine zGt hM (Rn.condS rfl) (fun h5 hM=>?_) (fun h5 hM=>?_)
 ·refine gg 4 rfl ?_
  cases hM
  exact Rn.R1 func45 ⟨rfl,hm4.pk []⟩
 ·refine gg 5 rfl (Rn.q rfl (V.lenV underlying34 rfl) (gg 2 rfl ?_));refine zB hM (Rn.condD rfl) (fun h6 hM=>?_) (fun h6 hM=>?_)
  ·refine gg 4 rfl ?_
   cases hM
   exact Rn.R1 func45 ⟨rfl,hm4.pk []⟩
  ·refine gg 6 rfl ?_;refine Rn.jG hm0 hM (G:=Unit) (fun g=>[]) (fun g=>[]) (fun j g=>j ()) ?_ ?_
   ·rintro _ w7 hm7 hM
    try dsimp only at hM
    refine gg 4 rfl ?_
    cases hM
    exact Rn.R1 func45 ⟨rfl,hm7.pk []⟩
   intro j1 hM hk1;refine gg 1 rfl ?_;refine Rn.loopF (G:=Int) (fun g=>[(1,.slice A1 (x1).length c1),(5,iv g)]) (fun g w'=>Hp Z0 No w w' [slR A1 c1 zA.rep x1]) (fun n g=>zB3 x1 j1 n g) fuel 0 sA (hm4.pk [0]) hM (fun _=>rfl) ?_;clear hM;rintro m9 y8 w9 hm9 hM hn9;replace hM : zB3 x1 j1 (m9 + 1) y8 = some r:=hM;rw [zB3] at hM;refine gg 5 rfl (Rn.q rfl (V.lenV underlying34 rfl) (gg 2 rfl ?_));refine zB hM (Rn.condD rfl) (fun h10 hM=>?_) (fun h10 hM=>?_)
   ·refine gg 8 rfl ?_;obtain ⟨z11,e11,hM⟩:=zA4 hM;refine Rn.ixH hm9 0 rfl e11 rfl rfl rfl underlying34 sizeOf118 rfl rfl rfl rfl ?_;rintro b11 o11 vs11 hr11 hm11;obtain rfl:=zA.relE hr11;refine gg 1 rfl (Rn.q rfl (V.ldR0 isAgg9 rfl (hm11.get 1 rfl).2 rfl) ?_);obtain ⟨p13,e13,hM⟩:=zA4 hM
    refine Rn.c0 (cK func97) (zHo (Z0:=All) e13  :) hm11 fun w13 _ hm14=>?_
    refine Rn.q rfl (V.notB rfl) (gg 1 rfl ?_);refine Rn.jR hm0 hM (G:=Bool) [] (fun g=>[(1,.slice A1 (x1).length c1),(5,iv y8),(34,.bool (g))]) (fun g=>[slR A1 c1 zA.rep x1]) (fun j g=>j g) ?_ ?_
    ·rintro y15 w16 hm16 hM
     try dsimp only at hM
     refine gg 1 rfl ?_;refine zGt hM (Rn.condS rfl) (fun h17 hM=>?_) (fun h17 hM=>?_)
     ·refine gg 4 rfl ?_
      cases hM
      exact Rn.R1 func45 ⟨rfl,hm16.pk []⟩
     ·refine gg 5 rfl ?_;refine Rn.jG hm0 hM (G:=Unit) (fun g=>[(1,.slice A1 (x1).length c1),(5,iv y8)]) (fun g=>[slR A1 c1 zA.rep x1]) (fun j g=>j ()) ?_ ?_
      ·rintro _ w18 hm18 hM
       try dsimp only at hM
       refine gg 6 rfl ?_;exact hn9 (W64 (y8 + 1)) _ _ sA (hm18.pk [0]) hM
      intro j3 hM hk3;refine gg 1 rfl ?_;refine Rn.loopF (G:=Int) (fun g=>[(1,.slice A1 (x1).length c1),(5,iv y8),(6,iv g)]) (fun g w'=>Hp Z0 No w w' [slR A1 c1 zA.rep x1]) (fun n g=>zBv x1 y8 j3 n g) fuel 0 sA (hm16.pk [0]) hM (fun _=>rfl) ?_;clear hM;rintro m20 y19 w20 hm20 hM hn20;replace hM : zBv x1 y8 j3 (m20 + 1) y19 = some r:=hM;rw [zBv] at hM;refine gg 7 rfl ?_;refine zB hM (Rn.condD rfl) (fun h21 hM=>?_) (fun h21 hM=>?_)
      ·refine gg 4 rfl ?_;refine Rn.drawP rfl hm20 ?_;intro w22 hm22;refine dq [0,1] ?_;obtain ⟨z23,e23,hM⟩:=zA4 hM;obtain ⟨kk23,ke23,kz23,kl23⟩:=zHf e23;obtain ⟨b23,o23,vs23,hA23,hD23,hR23,hrel23⟩:=Hp.at hm22 0 rfl kz23;obtain rfl:=zA.relE hrel23;have hm25:=Hp.knowL [rdR b23 (o23 + kk23 * 2) [Str (z23.Key),Str (z23.Val)]] _ hm22 (knC (fun _ h=>h) ⟨fun _=>hD23,hR23⟩ kn0);refine RH.takeP 2 (by kernel_rfl) rfl rfl rfl rfl (V.ixA' hA23 kk23 underlying34 sizeOf118 rfl rfl ke23 kl23) ?_;refine dq [3] ?_;refine RH.takeP 4 (by kernel_rfl) rfl rfl rfl rfl (V.ldR0 isAgg9 rfl (hm25.get 1 rfl).2 rfl) ?_;refine dq [5,6] ?_;obtain ⟨z26,e26,hM⟩:=zA4 hM;obtain ⟨kk26,ke26,kz26,kl26⟩:=zHf e26;obtain ⟨b26,o26,vs26,hA26,hD26,hR26,hrel26⟩:=Hp.at hm25 0 rfl kz26;obtain rfl:=zA.relE hrel26;have hm28:=Hp.knowL [rdR b26 (o26 + kk26 * 2) [Str (z26.Key),Str (z26.Val)]] _ hm25 (knC (fun _ h=>h) ⟨fun _=>hD26,hR26⟩ kn0);refine RH.takeP 7 (by kernel_rfl) rfl rfl rfl rfl (V.ixA' hA26 kk26 underlying34 sizeOf118 rfl rfl ke26 kl26) ?_;refine dq [8] ?_;refine RH.takeP 9 (by kernel_rfl) rfl rfl rfl rfl (V.ldR0 isAgg9 rfl (hm28.get 2 rfl).2 rfl) ?_;refine RH.takeP 10 (by kernel_rfl) rfl rfl rfl rfl (V.eqlS rfl rfl) ?_;refine RH.doneP (by kernel_rfl) ?_;refine zB hM (Rn.condD rfl) (fun h29 hM=>?_) (fun h29 hM=>?_)
       ·refine gg 4 rfl ?_
        cases hM
        exact Rn.R1 func45 ⟨rfl,hm28.pk []⟩
       ·refine gg 7 rfl ?_;exact hn20 (W64 (y19 + 1)) _ _ sA (hm28.pk [0]) hM
      ·refine gg 1 rfl ?_;exact hk3 () _ _ sA (hm20.pk [0]) hM
    intro j2 hM hk2;refine zGt hM (Rn.part (t:=26) rfl) (fun h30 hM=>?_) (fun h30 hM=>?_)
    ·refine gg 8 rfl ?_;exact hk2 true _ _ sA (hm14.pk [0]) hM
    ·refine gg 2 rfl ?_;obtain ⟨z31,e31,hM⟩:=zA4 hM;refine Rn.ixH hm14 0 rfl e31 rfl rfl rfl underlying34 sizeOf118 rfl rfl rfl rfl ?_;rintro b31 o31 vs31 hr31 hm31;obtain rfl:=zA.relE hr31;refine gg 1 rfl (Rn.q rfl (V.ldR isAgg9 rfl (hm31.get 2 rfl).2 rfl) ?_);obtain ⟨p33,e33,hM⟩:=zA4 hM
     refine Rn.c0 (cK func98) (zKg (Z0:=All) e33  :) hm31 fun w33 _ hm34=>?_
     refine Rn.q rfl (V.notB rfl) (gg 1 rfl ?_);exact hk2 (!p33) _ _ sA (hm34.pk [0]) hM
   ·refine gg 1 rfl ?_;exact hk1 () _ _ (sb trivial) (hm9.pk []) hM
theorem zGl {x0 : zAd} {x1 : zAd} {r : Bool} (hM : zDf x0 x1 = some r) (h0 : zAd.rep.rel Z0 w cs0 x0) (h1 : zAd.rep.rel Z0 w cs1 x1) :
    Calls prog 115 #[.agg cs0.toArray,.agg cs1.toArray] w fun x w'=>x = .returned (.bool (r)) ∧ Hp Z0 No w w' []:=by
 have hm0:=Hp.nil Z0 No w;have hc0:=zD1.nil;obtain ⟨Ar1,cr1,rfl,fs1⟩:=zAd.relE h0;have hm5:=hm0.know (slR Ar1 cr1 zAp x0.Counts) (fun _ h=>h) (hm0.in0 hc0 fs1);replace hc0:=hc0.snoc (r:=slR Ar1 cr1 zAp x0.Counts) (fun _ h=>h);obtain ⟨Ar3,cr3,rfl,fs3⟩:=zAd.relE h1;have hm6:=hm5.know (slR Ar3 cr3 zAp x1.Counts) (fun _ h=>h) (hm5.in0 hc0 fs3);replace hc0:=hc0.snoc (r:=slR Ar3 cr3 zAp x1.Counts) (fun _ h=>h);refine Rn.en func115 ?_;refine gg 2 rfl (Rn.box rfl rfl rfl rfl rfl ?_);intro b7 w7 hb7 m7 e7;have hm9:=(hm6.addBox hb7 e7 m7).nf [_,_,zAr _ _ [_,_]] rfl;refine Rn.box rfl rfl rfl rfl rfl ?_;intro b10 w10 hb10 m10 e10;have hm12:=(hm9.addBox hb10 e10 m10).nf [_,_,_,zAr _ _ [_,_]] rfl;refine gg 6 rfl (Rn.q rfl (V.ldB isAgg3 rfl (hm12.get 2 rfl) rfl) (gg 1 rfl (Rn.q rfl (V.ldB isAgg3 rfl (hm12.get 3 rfl) rfl) (gg 2 rfl ?_))));refine Rn.cutR [] [(2,pt b7 0),(3,pt b10 0),(19,.bool (decide ((x0.Offset ≠ x1.Offset) ∨ ((x0.Counts.length : Int) ≠ (x1.Counts.length : Int)))))] (fun hk13=>?_) ?_
 ·refine Rn.partD (t:=11) rfl (fun h14=>?_) (fun h14=>?_)
  ·refine gg 8 rfl ?_;exact hk13 _ sA
  ·refine gg 1 rfl (Rn.q rfl (V.ldB isAgg36 rfl (hm12.get 2 rfl) rfl) (Rn.q rfl (V.lenV underlying36 rfl) (gg 1 rfl (Rn.q rfl (V.ldB isAgg36 rfl (hm12.get 3 rfl) rfl) (Rn.q rfl (V.lenV underlying36 rfl) (gg 2 rfl ?_))))));exact hk13 _ sA
 refine gg 1 rfl ?_;refine zB hM (Rn.condD rfl) (fun h15 hM=>?_) (fun h15 hM=>?_)
 ·refine gg 4 rfl ?_
  cases hM
  exact Rn.R1 func115 ⟨rfl,hm12.pk []⟩
 ·refine gg 6 rfl ?_;refine Rn.jG hm0 hM (G:=Unit) (fun g=>[]) (fun g=>[slR Ar1 cr1 zAp x0.Counts,slR Ar3 cr3 zAp x1.Counts,zAr b7 38 [iv x0.Offset,.slice Ar1 (x0.Counts).length cr1],zAr b10 38 [iv x1.Offset,.slice Ar3 (x1.Counts).length cr3]]) (fun j g=>j ()) ?_ ?_
  ·rintro _ w16 hm16 hM
   try dsimp only at hM
   refine gg 4 rfl ?_
   cases hM
   exact Rn.R1 func115 ⟨rfl,hm16.pk []⟩
  intro j1 hM hk1;refine gg 1 rfl ?_;refine Rn.loopF (G:=Int) (fun g=>[(2,pt b7 0),(3,pt b10 0),(5,iv g)]) (fun g w'=>Hp Z0 No w w' [slR Ar1 cr1 zAp x0.Counts,slR Ar3 cr3 zAp x1.Counts,zAr b7 38 [iv x0.Offset,.slice Ar1 (x0.Counts).length cr1],zAr b10 38 [iv x1.Offset,.slice Ar3 (x1.Counts).length cr3]]) (fun n g=>zAv x0 x1 j1 n g) fuel 0 sA (hm12.pk [0,1,2,3]) hM (fun _=>rfl) ?_;clear hM;rintro m18 y17 w18 hm18 hM hn18;replace hM : zAv x0 x1 j1 (m18 + 1) y17 = some r:=hM;rw [zAv] at hM;refine gg 5 rfl (Rn.q rfl (V.ldB isAgg36 rfl (hm18.get 2 rfl) rfl) (Rn.q rfl (V.lenV underlying36 rfl) (gg 2 rfl ?_)));refine zB hM (Rn.condD rfl) (fun h19 hM=>?_) (fun h19 hM=>?_)
  ·refine gg 4 rfl ?_;refine Rn.drawP rfl hm18 ?_;intro w20 hm20;refine dq [0] ?_;refine RH.takeP 1 (by kernel_rfl) rfl rfl rfl rfl (V.ldB isAgg36 rfl (hm20.get 2 rfl) rfl) ?_;refine dq [2] ?_;obtain ⟨z21,e21,hM⟩:=zA4 hM;obtain ⟨kk21,ke21,kz21,kl21⟩:=zHf e21;obtain ⟨b21,o21,vs21,hA21,hD21,hR21,hrel21⟩:=Hp.at hm20 0 rfl kz21;obtain ⟨rfl,_⟩:=hrel21;have hm23:=Hp.knowL [rdR b21 (o21 + kk21 * 1) [zAo z21]] _ hm20 (knC (fun _ h=>h) ⟨fun _=>hD21,hR21⟩ kn0);refine RH.takeP 3 (by kernel_rfl) rfl rfl rfl rfl (V.ixA' hA21 kk21 underlying36 sizeOf35 rfl rfl ke21 kl21) ?_;refine RH.takeP 4 (by kernel_rfl) rfl rfl rfl rfl (V.ldR0 isAgg35 rfl (hm23.get 4 rfl).2 rfl) ?_;refine dq [5] ?_;refine RH.takeP 6 (by kernel_rfl) rfl rfl rfl rfl (V.ldB isAgg36 rfl (hm23.get 3 rfl) rfl) ?_;refine dq [7] ?_;obtain ⟨z24,e24,hM⟩:=zA4 hM;obtain ⟨kk24,ke24,kz24,kl24⟩:=zHf e24;obtain ⟨b24,o24,vs24,hA24,hD24,hR24,hrel24⟩:=Hp.at hm23 1 rfl kz24;obtain ⟨rfl,_⟩:=hrel24;have hm26:=Hp.knowL [rdR b24 (o24 + kk24 * 1) [zAo z24]] _ hm23 (knC (fun _ h=>h) ⟨fun _=>hD24,hR24⟩ kn0);refine RH.takeP 8 (by kernel_rfl) rfl rfl rfl rfl (V.ixA' hA24 kk24 underlying36 sizeOf35 rfl rfl ke24 kl24) ?_;refine RH.takeP 9 (by kernel_rfl) rfl rfl rfl rfl (V.ldR0 isAgg35 rfl (hm26.get 5 rfl).2 rfl) ?_;refine RH.takeP 10 (by kernel_rfl) rfl rfl rfl rfl (V.neq rfl rfl) ?_;refine RH.doneP (by kernel_rfl) ?_;refine zB hM (Rn.condD rfl) (fun h27 hM=>?_) (fun h27 hM=>?_)
   ·refine gg 4 rfl ?_
    cases hM
    exact Rn.R1 func115 ⟨rfl,hm26.pk []⟩
   ·refine gg 7 rfl ?_;exact hn18 (W64 (y17 + 1)) _ _ sA (hm26.pk [0,1,2,3]) hM
  ·refine gg 1 rfl ?_;exact hk1 () _ _ (sb trivial) (hm18.pk [0,1,2,3]) hM
theorem zKy {x0 : zA2} {x1 : zA2} {r : Bool} (hM : zFl x0 x1 = some r) (h0 : zA2.rep.rel Z0 w cs0 x0) (h1 : zA2.rep.rel Z0 w cs1 x1) :
    Calls prog 59 #[.agg cs0.toArray,.agg cs1.toArray] w fun x w'=>x = .returned (.bool (r)) ∧ Hp Z0 No w w' []:=by
 have hm0:=Hp.nil Z0 No w;have hc0:=zD1.nil;obtain ⟨Ar1,cr1,Ar3,cr3,rfl,fs1,fs3⟩:=zA2.relE h0;have hm9:=hm0.know (slR Ar1 cr1 zAp x0.Pos.Counts) (fun _ h=>h) (hm0.in0 hc0 fs1);replace hc0:=hc0.snoc (r:=slR Ar1 cr1 zAp x0.Pos.Counts) (fun _ h=>h);have hm10:=hm9.know (slR Ar3 cr3 zAp x0.Neg.Counts) (fun _ h=>h) (hm9.in0 hc0 fs3);replace hc0:=hc0.snoc (r:=slR Ar3 cr3 zAp x0.Neg.Counts) (fun _ h=>h);obtain ⟨Ar5,cr5,Ar7,cr7,rfl,fs5,fs7⟩:=zA2.relE h1;have hm11:=hm10.know (slR Ar5 cr5 zAp x1.Pos.Counts) (fun _ h=>h) (hm10.in0 hc0 fs5);replace hc0:=hc0.snoc (r:=slR Ar5 cr5 zAp x1.Pos.Counts) (fun _ h=>h);have hm12:=hm11.know (slR Ar7 cr7 zAp x1.Neg.Counts) (fun _ h=>h) (hm11.in0 hc0 fs7);replace hc0:=hc0.snoc (r:=slR Ar7 cr7 zAp x1.Neg.Counts) (fun _ h=>h);refine Rn.en func59 ?_;refine gg 2 rfl (Rn.box rfl rfl rfl rfl rfl ?_);intro b13 w13 hb13 m13 e13;have hm15:=(hm12.addBox hb13 e13 m13).nf [_,_,_,_,zAr _ _ [_,_,_,_,_,_]] rfl;refine Rn.box rfl rfl rfl rfl rfl ?_;intro b16 w16 hb16 m16 e16;have hm18:=(hm15.addBox hb16 e16 m16).nf [_,_,_,_,_,zAr _ _ [_,_,_,_,_,_]] rfl;refine gg 5 rfl (Rn.q rfl (V.ldB isAgg3 rfl (hm18.get 4 rfl) rfl) (gg 1 rfl (Rn.q rfl (V.ldB isAgg3 rfl (hm18.get 5 rfl) rfl) (gg 2 rfl ?_))));refine Rn.cutR [12,13,14,15,16,17,18,19,20,21,22,23,24,25,26] [(2,pt b13 0),(3,pt b16 0),(16,.bool (decide ((x0.Scale = x1.Scale) ∧ (((x0.Zero).toNat : Int) = ((x1.Zero).toNat : Int)))))] (fun hk19=>?_) ?_
 ·refine Rn.partD (t:=10) rfl (fun h20=>?_) (fun h20=>?_)
  ·refine gg 1 rfl (Rn.q rfl (V.ldB isAgg35 rfl (hm18.get 4 rfl) rfl) (gg 1 rfl (Rn.q rfl (V.ldB isAgg35 rfl (hm18.get 5 rfl) rfl) (Rn.q rfl (V.eql rfl rfl) (gg 1 rfl ?_)))));exact hk19 _ sA
  ·refine gg 6 rfl ?_;exact hk19 _ sA
 refine gg 1 rfl ?_;refine Rn.jR hm0 hM (G:=Bool) [19,20,21,22,23,24,25,26] (fun g=>[(2,pt b13 0),(3,pt b16 0),(23,.bool (g))]) (fun g=>[slR Ar1 cr1 zAp x0.Pos.Counts,slR Ar3 cr3 zAp x0.Neg.Counts,slR Ar5 cr5 zAp x1.Pos.Counts,slR Ar7 cr7 zAp x1.Neg.Counts,zAr b13 40 [iv x0.Scale,zAo x0.Zero,iv x0.Pos.Offset,.slice Ar1 (x0.Pos.Counts).length cr1,iv x0.Neg.Offset,.slice Ar3 (x0.Neg.Counts).length cr3],zAr b16 40 [iv x1.Scale,zAo x1.Zero,iv x1.Pos.Offset,.slice Ar5 (x1.Pos.Counts).length cr5,iv x1.Neg.Offset,.slice Ar7 (x1.Neg.Counts).length cr7]]) (fun j g=>j g) ?_ ?_
 ·rintro y21 w22 hm22 hM
  try dsimp only at hM
  refine gg 1 rfl ?_;refine Rn.jR hm0 hM (G:=Bool) [26] (fun g=>[(30,.bool (g))]) (fun g=>[slR Ar1 cr1 zAp x0.Pos.Counts,slR Ar3 cr3 zAp x0.Neg.Counts,slR Ar5 cr5 zAp x1.Pos.Counts,slR Ar7 cr7 zAp x1.Neg.Counts,zAr b13 40 [iv x0.Scale,zAo x0.Zero,iv x0.Pos.Offset,.slice Ar1 (x0.Pos.Counts).length cr1,iv x0.Neg.Offset,.slice Ar3 (x0.Neg.Counts).length cr3],zAr b16 40 [iv x1.Scale,zAo x1.Zero,iv x1.Pos.Offset,.slice Ar5 (x1.Pos.Counts).length cr5,iv x1.Neg.Offset,.slice Ar7 (x1.Neg.Counts).length cr7]]) (fun j g=>j g) ?_ ?_
  ·rintro y23 w24 hm24 hM
   try dsimp only at hM
   refine gg 2 rfl ?_
   cases hM
   exact Rn.R1 func59 ⟨rfl,hm24.pk []⟩
  intro j2 hM hk2;refine zGt hM (Rn.part (t:=24) rfl) (fun h25 hM=>?_) (fun h25 hM=>?_)
  ·refine gg 1 rfl (Rn.q rfl (V.ldBA [_,_] isAgg38 sizeOf38 rfl (hm22.get 4 rfl) rfl rfl) (gg 1 rfl (Rn.q rfl (V.ldBA [_,_] isAgg38 sizeOf38 rfl (hm22.get 5 rfl) rfl rfl) ?_)));obtain ⟨p26,e26,hM⟩:=zA4 hM
   refine Rn.c0 (cK func115) (zGl (Z0:=All) e26 (show zAd.rep.rel All _ _ _ from ⟨_,_,rfl,⟨rfl,trivial⟩,⟨_,_,rfl,(zA1 (hm22.get 1 rfl)).1,(zA1 (hm22.get 1 rfl)).2.1,(zA1 (hm22.get 1 rfl)).2.2⟩⟩) (show zAd.rep.rel All _ _ _ from ⟨_,_,rfl,⟨rfl,trivial⟩,⟨_,_,rfl,(zA1 (hm22.get 3 rfl)).1,(zA1 (hm22.get 3 rfl)).2.1,(zA1 (hm22.get 3 rfl)).2.2⟩⟩) :) hm22 fun w26 _ hm27=>?_
   refine gg 1 rfl ?_;exact hk2 p26 _ _ sA (hm27.pk [0,1,2,3,4,5]) hM
  ·refine gg 6 rfl ?_;exact hk2 false _ _ sA (hm22.pk [0,1,2,3,4,5]) hM
 intro j1 hM hk1;refine zB hM (Rn.partD (t:=17) rfl) (fun h28 hM=>?_) (fun h28 hM=>?_)
 ·refine gg 1 rfl (Rn.q rfl (V.ldBA [_,_] isAgg38 sizeOf38 rfl (hm18.get 4 rfl) rfl rfl) (gg 1 rfl (Rn.q rfl (V.ldBA [_,_] isAgg38 sizeOf38 rfl (hm18.get 5 rfl) rfl rfl) ?_)));obtain ⟨p29,e29,hM⟩:=zA4 hM
  refine Rn.c0 (cK func115) (zGl (Z0:=All) e29 (show zAd.rep.rel All _ _ _ from ⟨_,_,rfl,⟨rfl,trivial⟩,⟨_,_,rfl,(zA1 (hm18.get 0 rfl)).1,(zA1 (hm18.get 0 rfl)).2.1,(zA1 (hm18.get 0 rfl)).2.2⟩⟩) (show zAd.rep.rel All _ _ _ from ⟨_,_,rfl,⟨rfl,trivial⟩,⟨_,_,rfl,(zA1 (hm18.get 2 rfl)).1,(zA1 (hm18.get 2 rfl)).2.1,(zA1 (hm18.get 2 rfl)).2.2⟩⟩) :) hm18 fun w29 _ hm30=>?_
  refine gg 1 rfl ?_;exact hk1 p29 _ _ sA (hm30.pk [0,1,2,3,4,5]) hM
 ·refine gg 6 rfl ?_;exact hk1 false _ _ sA (hm18.pk [0,1,2,3,4,5]) hM
theorem zKw {x0 : zA2} {r : Bool} (hM : zFk x0 = some r) (h0 : zA2.rep.rel Z0 w cs0 x0) :
    Calls prog 46 #[.agg cs0.toArray] w fun x w'=>x = .returned (.bool (r)) ∧ Hp Z0 No w w' []:=by
 have hm0:=Hp.nil Z0 No w;have hc0:=zD1.nil;obtain ⟨Ar1,cr1,Ar3,cr3,rfl,fs1,fs3⟩:=zA2.relE h0;have hm5:=hm0.know (slR Ar1 cr1 zAp x0.Pos.Counts) (fun _ h=>h) (hm0.in0 hc0 fs1);replace hc0:=hc0.snoc (r:=slR Ar1 cr1 zAp x0.Pos.Counts) (fun _ h=>h);have hm6:=hm5.know (slR Ar3 cr3 zAp x0.Neg.Counts) (fun _ h=>h) (hm5.in0 hc0 fs3);replace hc0:=hc0.snoc (r:=slR Ar3 cr3 zAp x0.Neg.Counts) (fun _ h=>h);refine Rn.en func46 ?_;refine gg 2 rfl (Rn.box rfl rfl rfl rfl rfl ?_);intro b7 w7 hb7 m7 e7;have hm9:=(hm6.addBox hb7 e7 m7).nf [_,_,zAr _ _ [_,_,_,_,_,_]] rfl;refine gg 4 rfl (Rn.q rfl (V.ldBA [_,_,_,_,_,_] isAgg40 sizeOf40 rfl (hm9.get 2 rfl) rfl rfl) (Rn.q rfl (V.bldS (cs:=[_,_,_,_,_,_]) st40 rfl rfl) ?_));obtain ⟨p10,e10,hM⟩:=zA4 hM
 refine Rn.c0 (cK func59) (zKy (Z0:=All) e10 (show zA2.rep.rel All _ _ _ from ⟨_,_,rfl,⟨rfl,trivial⟩,⟨_,_,rfl,⟨rfl,trivial⟩,⟨_,_,rfl,⟨_,_,rfl,⟨rfl,trivial⟩,⟨_,_,rfl,(zA1 (hm9.get 0 rfl)).1,(zA1 (hm9.get 0 rfl)).2.1,(zA1 (hm9.get 0 rfl)).2.2⟩⟩,⟨_,_,rfl,⟨rfl,trivial⟩,⟨_,_,rfl,(zA1 (hm9.get 1 rfl)).1,(zA1 (hm9.get 1 rfl)).2.1,(zA1 (hm9.get 1 rfl)).2.2⟩⟩⟩⟩⟩) (show zA2.rep.rel All _ _ _ from ⟨_,_,rfl,⟨rfl,trivial⟩,⟨_,_,rfl,⟨rfl,trivial⟩,⟨_,_,rfl,⟨_,_,rfl,⟨rfl,trivial⟩,⟨none,0,rfl,Nat.le_refl _,Nat.zero_le _,Sl.nil _ _ _ _⟩⟩,⟨_,_,rfl,⟨rfl,trivial⟩,⟨none,0,rfl,Nat.le_refl _,Nat.zero_le _,Sl.nil _ _ _ _⟩⟩⟩⟩⟩) :) hm9 fun w10 _ hm11=>?_
 refine gg 2 rfl ?_
 cases hM
 exact Rn.R1 func46 ⟨rfl,hm11.pk []⟩
theorem zK4 {x0 : UInt64} {r : Bool} (hM : zEp x0 = some r)  :
    Calls prog 47 #[zAo x0] w fun x w'=>x = .returned (.bool (r)) ∧ Hp Z0 No w w' []:=by
 have hm0:=Hp.nil Z0 No w;have hc0:=zD1.nil;refine Rn.en func47 ?_;refine gg 7 rfl ?_;obtain ⟨z1,e1,hM⟩:=zA4 hM;refine Rn.q rfl (V.quo64 rfl rfl e1) ?_;obtain ⟨z2,e2,hM⟩:=zA4 hM;refine Rn.q rfl (V.rem64 rfl rfl e2) (Rn.q rfl (V.neq rfl rfl) (gg 2 rfl ?_))
 cases hM
 exact Rn.R1 func47 ⟨rfl,hm0.pk []⟩
theorem zI0 {x0 : UInt64} {r : Bool} (hM : zDr x0 = some r)  :
    Calls prog 99 #[zAo x0] w fun x w'=>x = .returned (.bool (r)) ∧ Hp Z0 No w w' []:=by
 have hm0:=Hp.nil Z0 No w;have hc0:=zD1.nil;refine Rn.en func99 ?_;refine gg 7 rfl ?_;obtain ⟨z1,e1,hM⟩:=zA4 hM;refine Rn.q rfl (V.quo64 rfl rfl e1) ?_;obtain ⟨z2,e2,hM⟩:=zA4 hM;refine Rn.q rfl (V.rem64 rfl rfl e2) (Rn.q rfl (V.eql rfl rfl) (gg 1 rfl ?_));refine Rn.jR hm0 hM (G:=Bool) [9] (fun g=>[(11,.bool (g))]) (fun g=>[]) (fun j g=>j g) ?_ ?_
 ·rintro y3 w4 hm4 hM
  try dsimp only at hM
  refine gg 2 rfl ?_
  cases hM
  exact Rn.R1 func99 ⟨rfl,hm4.pk []⟩
 intro j1 hM hk1;refine zB hM (Rn.partD (t:=7) rfl) (fun h5 hM=>?_) (fun h5 hM=>?_)
 ·refine gg 1 rfl ?_;obtain ⟨z6,e6,hM⟩:=zA4 hM;refine Rn.q rfl (V.rem64 rfl rfl e6) (Rn.q rfl (V.neq rfl rfl) (gg 1 rfl ?_));exact hk1 (decide (((z6).toNat : Int) ≠ 0)) _ _ sA (hm0.pk []) hM
 ·refine gg 4 rfl ?_;exact hk1 false _ _ sA (hm0.pk []) hM
theorem zL {x0 : UInt64} {x1 : UInt64} {r : Bool} (hM : zFm x0 x1 = some r)  :
    Calls prog 48 #[zAo x0,zAo x1] w fun x w'=>x = .returned (.bool (r)) ∧ Hp Z0 No w w' []:=by
 have hm0:=Hp.nil Z0 No w;have hc0:=zD1.nil;refine Rn.en func48 ?_;refine gg 8 rfl ?_;obtain ⟨p1,e1,hM⟩:=zA4 hM
 refine Rn.c0 (cK func99) (zI0 (Z0:=All) e1  :) hm0 fun w1 _ hm2=>?_
 refine gg 1 rfl ?_;refine Rn.jR hm0 hM (G:=Bool) [] (fun g=>[(0,zAo x0),(1,zAo x1),(12,.bool (g))]) (fun g=>[]) (fun j g=>j g) ?_ ?_
 ·rintro y3 w4 hm4 hM
  try dsimp only at hM
  refine gg 1 rfl ?_;refine zGt hM (Rn.condS rfl) (fun h5 hM=>?_) (fun h5 hM=>?_)
  ·refine gg 4 rfl ?_
   cases hM
   exact Rn.R1 func48 ⟨rfl,hm4.pk []⟩
  ·refine gg 4 rfl ?_;obtain ⟨z6,e6,hM⟩:=zA4 hM;refine Rn.q rfl (V.rem64 rfl rfl e6) (gg 1 rfl ?_);obtain ⟨z7,e7,hM⟩:=zA4 hM;refine Rn.q rfl (V.rem64 rfl rfl e7) (gg 7 rfl (Rn.q rfl (V.eql rfl rfl) (gg 1 rfl ?_)));refine Rn.cutR [] [(0,zAo x0),(1,zAo x1),(5,zAo z6),(6,zAo z7),(22,.bool (decide ((((z6).toNat : Int) = 0) ∧ (((z7).toNat : Int) = 0))))] (fun hk8=>?_) ?_
   ·refine Rn.partD (t:=19) rfl (fun h9=>?_) (fun h9=>?_)
    ·refine gg 1 rfl (Rn.q rfl (V.eql rfl rfl) (gg 1 rfl ?_));refine hk8 _ ?_;exact Sub.cons rfl (Sub.cons rfl (Sub.cons rfl (Sub.cons rfl (Sub.cons (lkB rfl) (Sub.nil _)))))
    ·refine gg 3 rfl ?_;refine hk8 _ ?_;exact Sub.cons rfl (Sub.cons rfl (Sub.cons rfl (Sub.cons rfl (Sub.cons (lkB rfl) (Sub.nil _)))))
   refine gg 1 rfl ?_;refine zB hM (Rn.condD rfl) (fun h10 hM=>?_) (fun h10 hM=>?_)
   ·refine gg 4 rfl ?_
    cases hM
    exact Rn.R1 func48 ⟨rfl,hm4.pk []⟩
   ·refine gg 5 rfl (Rn.q rfl (V.geq rfl rfl) (gg 1 rfl ?_));refine Rn.cutR [] [(0,zAo x0),(1,zAo x1),(5,zAo z6),(6,zAo z7),(28,.bool (decide ((((x0).toNat : Int) ≥ 9223372036854775808) ∧ (((x1).toNat : Int) ≥ 9223372036854775808))))] (fun hk11=>?_) ?_
    ·refine Rn.partD (t:=25) rfl (fun h12=>?_) (fun h12=>?_)
     ·refine gg 1 rfl (Rn.q rfl (V.geq rfl rfl) (gg 1 rfl ?_));refine hk11 _ ?_;exact Sub.cons rfl (Sub.cons rfl (Sub.cons rfl (Sub.cons rfl (Sub.cons (lkB rfl) (Sub.nil _)))))
     ·refine gg 3 rfl ?_;refine hk11 _ ?_;exact Sub.cons rfl (Sub.cons rfl (Sub.cons rfl (Sub.cons rfl (Sub.cons (lkB rfl) (Sub.nil _)))))
    refine gg 1 rfl ?_;refine zB hM (Rn.condD rfl) (fun h13 hM=>?_) (fun h13 hM=>?_)
    ·refine gg 4 rfl (Rn.q rfl (V.gtr rfl rfl) (gg 2 rfl ?_))
     cases hM
     exact Rn.R1 func48 ⟨rfl,hm4.pk []⟩
    ·refine gg 5 rfl (Rn.q rfl (V.lss rfl rfl) (gg 1 rfl ?_));refine Rn.cutR [] [(0,zAo x0),(5,zAo z6),(6,zAo z7),(37,.bool (decide ((((x0).toNat : Int) < 9223372036854775808) ∧ (((x1).toNat : Int) < 9223372036854775808))))] (fun hk14=>?_) ?_
     ·refine Rn.partD (t:=34) rfl (fun h15=>?_) (fun h15=>?_)
      ·refine gg 1 rfl (Rn.q rfl (V.lss rfl rfl) (gg 1 rfl ?_));refine hk14 _ ?_;exact Sub.cons rfl (Sub.cons rfl (Sub.cons rfl (Sub.cons (lkB rfl) (Sub.nil _))))
      ·refine gg 3 rfl ?_;refine hk14 _ ?_;exact Sub.cons rfl (Sub.cons rfl (Sub.cons rfl (Sub.cons (lkB rfl) (Sub.nil _))))
     refine gg 1 rfl ?_;refine zB hM (Rn.condD rfl) (fun h16 hM=>?_) (fun h16 hM=>?_)
     ·refine gg 4 rfl (Rn.q rfl (V.lss rfl rfl) (gg 2 rfl ?_))
      cases hM
      exact Rn.R1 func48 ⟨rfl,hm4.pk []⟩
     ·refine gg 4 rfl (Rn.q rfl (V.geq rfl rfl) (gg 2 rfl ?_))
      cases hM
      exact Rn.R1 func48 ⟨rfl,hm4.pk []⟩
 intro j1 hM hk1;refine zGt hM (Rn.part (t:=9) rfl) (fun h17 hM=>?_) (fun h17 hM=>?_)
 ·refine gg 3 rfl ?_;exact hk1 true _ _ sA (hm2.pk []) hM
 ·refine gg 1 rfl ?_;obtain ⟨p18,e18,hM⟩:=zA4 hM
  refine Rn.c0 (cK func99) (zI0 (Z0:=All) e18  :) hm2 fun w18 _ hm19=>?_
  refine gg 1 rfl ?_;exact hk1 p18 _ _ sA (hm19.pk []) hM
theorem zHp {x0 : zAd} {r : Int} (hM : zE3 x0 = some r) (h0 : zAd.rep.rel Z0 w cs0 x0) :
    Calls prog 100 #[.agg cs0.toArray] w fun x w'=>x = .returned (iv r) ∧ Hp Z0 No w w' []:=by
 have hm0:=Hp.nil Z0 No w;have hc0:=zD1.nil;obtain ⟨Ar1,cr1,rfl,fs1⟩:=zAd.relE h0;have hm3:=hm0.know (slR Ar1 cr1 zAp x0.Counts) (fun _ h=>h) (hm0.in0 hc0 fs1);replace hc0:=hc0.snoc (r:=slR Ar1 cr1 zAp x0.Counts) (fun _ h=>h);refine Rn.en func100 ?_;refine gg 2 rfl (Rn.box rfl rfl rfl rfl rfl ?_);intro b4 w4 hb4 m4 e4;have hm6:=(hm3.addBox hb4 e4 m4).nf [_,zAr _ _ [_,_]] rfl;refine gg 5 rfl (Rn.q rfl (V.ldB isAgg36 rfl (hm6.get 1 rfl) rfl) (Rn.q rfl (V.lenV underlying36 rfl) (gg 8 rfl ?_)));refine zB hM (Rn.condD rfl) (fun h7 hM=>?_) (fun h7 hM=>?_)
 ·refine gg 4 rfl ?_
  cases hM
  exact Rn.R1 func100 ⟨rfl,hm6.pk []⟩
 ·refine gg 7 rfl ?_;refine zB hM (Rn.condD rfl) (fun h8 hM=>?_) (fun h8 hM=>?_)
  ·refine gg 4 rfl (Rn.q rfl (V.ldB isAgg3 rfl (hm6.get 1 rfl) rfl) (gg 2 rfl ?_));refine zB hM (Rn.condD rfl) (fun h9 hM=>?_) (fun h9 hM=>?_)
   ·refine gg 4 rfl ?_
    cases hM
    exact Rn.R1 func100 ⟨rfl,hm6.pk []⟩
   ·refine gg 5 rfl ?_
    cases hM
    exact Rn.R1 func100 ⟨rfl,hm6.pk []⟩
  ·refine gg 5 rfl (Rn.q rfl (V.ldB isAgg36 rfl (hm6.get 1 rfl) rfl) ?_);obtain ⟨z10,e10,hM⟩:=zA4 hM;refine Rn.ixH hm6 0 rfl e10 rfl rfl rfl underlying36 sizeOf35 rfl rfl rfl rfl ?_;rintro b10 o10 vs10 ⟨rfl,_⟩ hm10;refine Rn.q rfl (V.ldR0 isAgg35 rfl (hm10.get 2 rfl).2 rfl) (Rn.q rfl (V.eql rfl rfl) (gg 1 rfl ?_));refine Rn.jR hm0 hM (G:=Bool) [] (fun g=>[(1,pt b4 0),(3,iv (x0.Counts.length : Int)),(27,.bool (g))]) (fun g=>[slR Ar1 cr1 zAp x0.Counts,zAr b4 38 [iv x0.Offset,.slice Ar1 (x0.Counts).length cr1]]) (fun j g=>j g) ?_ ?_
   ·rintro y12 w13 hm13 hM
    try dsimp only at hM
    refine gg 1 rfl ?_;refine zGt hM (Rn.condS rfl) (fun h14 hM=>?_) (fun h14 hM=>?_)
    ·refine gg 4 rfl ?_
     cases hM
     exact Rn.R1 func100 ⟨rfl,hm13.pk []⟩
    ·refine gg 5 rfl (Rn.q rfl (V.ldB isAgg3 rfl (hm13.get 1 rfl) rfl) (gg 2 rfl ?_));refine Rn.cutR [8,9,10,11,12,13,14,15] [(1,pt b4 0),(3,iv (x0.Counts.length : Int)),(35,.bool (decide ((x0.Offset < (-1073741824)) ∨ (x0.Offset > 1073741824))))] (fun hk15=>?_) ?_
     ·refine Rn.partD (t:=31) rfl (fun h16=>?_) (fun h16=>?_)
      ·refine gg 4 rfl ?_;exact hk15 _ sA
      ·refine gg 1 rfl (Rn.q rfl (V.ldB isAgg3 rfl (hm13.get 1 rfl) rfl) (gg 2 rfl ?_));exact hk15 _ sA
     refine gg 1 rfl ?_;refine Rn.jR hm0 hM (G:=Bool) [] (fun g=>[(43,.bool (g))]) (fun g=>[slR Ar1 cr1 zAp x0.Counts,zAr b4 38 [iv x0.Offset,.slice Ar1 (x0.Counts).length cr1]]) (fun j g=>j g) ?_ ?_
     ·rintro y17 w18 hm18 hM
      try dsimp only at hM
      refine gg 1 rfl ?_;refine zGt hM (Rn.condS rfl) (fun h19 hM=>?_) (fun h19 hM=>?_)
      ·refine gg 4 rfl ?_
       cases hM
       exact Rn.R1 func100 ⟨rfl,hm18.pk []⟩
      ·refine gg 5 rfl ?_
       cases hM
       exact Rn.R1 func100 ⟨rfl,hm18.pk []⟩
     intro j2 hM hk2;refine zB hM (Rn.partD (t:=36) rfl) (fun h20 hM=>?_) (fun h20 hM=>?_)
     ·refine gg 7 rfl ?_;exact hk2 true _ _ sA (hm13.pk [0,1]) hM
     ·refine gg 1 rfl (Rn.q rfl (V.ldB isAgg3 rfl (hm13.get 1 rfl) rfl) (gg 5 rfl ?_));exact hk2 (decide (W64 ((W64 (x0.Offset + (x0.Counts.length : Int))) - 1) > 1073741824)) _ _ sA (hm13.pk [0,1]) hM
   intro j1 hM hk1;refine zB hM (Rn.partD (t:=19) rfl) (fun h21 hM=>?_) (fun h21 hM=>?_)
   ·refine gg 8 rfl ?_;exact hk1 true _ _ sA (hm10.pk [0,1]) hM
   ·refine gg 1 rfl (Rn.q rfl (V.ldB isAgg36 rfl (hm10.get 1 rfl) rfl) (gg 2 rfl ?_));obtain ⟨z22,e22,hM⟩:=zA4 hM;refine Rn.ixH hm10 0 rfl e22 rfl rfl rfl underlying36 sizeOf35 rfl rfl rfl rfl ?_;rintro b22 o22 vs22 ⟨rfl,_⟩ hm22;refine Rn.q rfl (V.ldR0 isAgg35 rfl (hm22.get 3 rfl).2 rfl) (Rn.q rfl (V.eql rfl rfl) (gg 1 rfl ?_));exact hk1 (decide (((z22).toNat : Int) = 0)) _ _ sA (hm22.pk [0,1]) hM
theorem zHx {x0 : UInt64} {x1 : (List UInt64)} {r : (UInt64 × Bool)} (hM : zEh x0 x1 = some r) (f0 : (slR A1 c1 zAp x1).H Z0 w) :
    Calls prog 160 #[zAo x0,.slice A1 (x1).length c1] w fun x w'=>x = .returned (.tuple #[zAo r.1,.bool (r.2)]) ∧ Hp Z0 No w w' []:=by
 have hm0:=Hp.nil Z0 No w;have hc0:=zD1.nil;have hm2:=hm0.know (slR A1 c1 zAp x1) (fun _ h=>h) (hm0.in0 hc0 f0);replace hc0:=hc0.snoc (r:=slR A1 c1 zAp x1) (fun _ h=>h);refine Rn.en func160 ?_;refine gg 10 rfl ?_;refine Rn.jG hm0 hM (G:=UInt64) (fun g=>[(0,zAo g)]) (fun g=>[]) (fun j g=>j g) ?_ ?_
 ·rintro y3 w4 hm4 hM
  try dsimp only at hM
  refine gg 6 rfl ?_
  cases hM
  exact Rn.R2 func160 ⟨rfl,hm4.pk []⟩
 intro j1 hM hk1;refine gg 1 rfl ?_;refine Rn.loopF (G:=UInt64 × Int) (fun g=>[(0,zAo (g.1)),(1,.slice A1 (x1).length c1),(6,iv (g.2))]) (fun g w'=>Hp Z0 No w w' [slR A1 c1 zAp x1]) (fun n g=>zBj x1 j1 n g.1 g.2) fuel (x0,0) sA (hm2.pk [0]) hM (fun _=>rfl) ?_;clear hM;rintro m7 ⟨y5,y6⟩ w7 hm7 hM hn7;replace hM : zBj x1 j1 (m7 + 1) y5 y6 = some r:=hM;rw [zBj] at hM;refine gg 5 rfl (Rn.q rfl (V.lenV underlying36 rfl) (gg 2 rfl ?_));refine zB hM (Rn.condD rfl) (fun h8 hM=>?_) (fun h8 hM=>?_)
 ·refine gg 8 rfl ?_;obtain ⟨z9,e9,hM⟩:=zA4 hM;refine Rn.ixH hm7 0 rfl e9 rfl rfl rfl underlying36 sizeOf35 rfl rfl rfl rfl ?_;rintro b9 o9 vs9 ⟨rfl,_⟩ hm9;refine Rn.q rfl (V.ldR0 isAgg35 rfl (hm9.get 1 rfl).2 rfl) (gg 1 rfl (Rn.q rfl (V.ari64 (a:=(18446744073709551615 : UInt64)) (b:=y5) rfl rfl _ rfl (zH4 _ _)) (Rn.q rfl (V.gtr rfl rfl) (gg 1 rfl ?_))));refine zB hM (Rn.condD rfl) (fun h11 hM=>?_) (fun h11 hM=>?_)
  ·refine gg 5 rfl ?_
   cases hM
   exact Rn.R2 func160 ⟨rfl,hm9.pk []⟩
  ·refine gg 5 rfl ?_;obtain ⟨z12,e12,hM⟩:=zA4 hM;refine Rn.ixH hm9 0 rfl e12 rfl rfl rfl underlying36 sizeOf35 rfl rfl rfl rfl ?_;rintro b12 o12 vs12 ⟨rfl,_⟩ hm12;refine Rn.q rfl (V.ldR0 isAgg35 rfl (hm12.get 2 rfl).2 rfl) (Rn.q rfl (V.ari64 (a:=y5) (b:=z12) rfl rfl _ rfl (zOc _ _)) (gg 8 rfl ?_));exact hn7 ((y5 + z12),(W64 (y6 + 1))) _ _ sA (hm12.pk [0]) hM
 ·refine gg 1 rfl ?_;exact hk1 y5 _ _ sA (hm7.pk []) hM
theorem zKj {x0 : zA2} {r : (UInt64 × Bool)} (hM : zEy x0 = some r) (h0 : zA2.rep.rel Z0 w cs0 x0) :
    Calls prog 101 #[.agg cs0.toArray] w fun x w'=>x = .returned (.tuple #[zAo r.1,.bool (r.2)]) ∧ Hp Z0 No w w' []:=by
 have hm0:=Hp.nil Z0 No w;have hc0:=zD1.nil;obtain ⟨Ar1,cr1,Ar3,cr3,rfl,fs1,fs3⟩:=zA2.relE h0;have hm5:=hm0.know (slR Ar1 cr1 zAp x0.Pos.Counts) (fun _ h=>h) (hm0.in0 hc0 fs1);replace hc0:=hc0.snoc (r:=slR Ar1 cr1 zAp x0.Pos.Counts) (fun _ h=>h);have hm6:=hm5.know (slR Ar3 cr3 zAp x0.Neg.Counts) (fun _ h=>h) (hm5.in0 hc0 fs3);replace hc0:=hc0.snoc (r:=slR Ar3 cr3 zAp x0.Neg.Counts) (fun _ h=>h);refine Rn.en func101 ?_;refine gg 2 rfl (Rn.box rfl rfl rfl rfl rfl ?_);intro b7 w7 hb7 m7 e7;have hm9:=(hm6.addBox hb7 e7 m7).nf [_,_,zAr _ _ [_,_,_,_,_,_]] rfl;refine gg 6 rfl (Rn.q rfl (V.ldB isAgg35 rfl (hm9.get 2 rfl) rfl) (gg 2 rfl (Rn.q rfl (V.ldB isAgg36 rfl (hm9.get 2 rfl) rfl) ?_)));obtain ⟨p10,e10,hM⟩:=zA4 hM
 refine Rn.c0 (cK func160) (zHx (Z0:=All) e10 (zA1 (hm9.get 0 rfl)) :) hm9 fun w10 _ hm11=>?_
 refine gg 10 rfl (Rn.q rfl (V.notB rfl) (gg 1 rfl ?_));refine zGt hM (Rn.condS rfl) (fun h12 hM=>?_) (fun h12 hM=>?_)
 ·refine gg 5 rfl ?_
  cases hM
  exact Rn.R2 func101 ⟨rfl,hm11.pk []⟩
 ·refine gg 6 rfl (Rn.q rfl (V.ldB isAgg36 rfl (hm11.get 2 rfl) rfl) ?_);obtain ⟨p13,e13,hM⟩:=zA4 hM
  refine Rn.c0 (cK func160) (zHx (Z0:=All) e13 (zA1 (hm11.get 1 rfl)) :) hm11 fun w13 _ hm14=>?_
  refine gg 5 rfl ?_
  cases hM
  exact Rn.R2 func101 ⟨rfl,hm14.pk []⟩
theorem zKl {x0 : zA2} {r : Int} (hM : zEz x0 = some r) (h0 : zA2.rep.rel Z0 w cs0 x0) :
    Calls prog 49 #[.agg cs0.toArray] w fun x w'=>x = .returned (iv r) ∧ Hp Z0 No w w' []:=by
 have hm0:=Hp.nil Z0 No w;have hc0:=zD1.nil;obtain ⟨Ar1,cr1,Ar3,cr3,rfl,fs1,fs3⟩:=zA2.relE h0;have hm5:=hm0.know (slR Ar1 cr1 zAp x0.Pos.Counts) (fun _ h=>h) (hm0.in0 hc0 fs1);replace hc0:=hc0.snoc (r:=slR Ar1 cr1 zAp x0.Pos.Counts) (fun _ h=>h);have hm6:=hm5.know (slR Ar3 cr3 zAp x0.Neg.Counts) (fun _ h=>h) (hm5.in0 hc0 fs3);replace hc0:=hc0.snoc (r:=slR Ar3 cr3 zAp x0.Neg.Counts) (fun _ h=>h);refine Rn.en func49 ?_;refine gg 2 rfl (Rn.box rfl rfl rfl rfl rfl ?_);intro b7 w7 hb7 m7 e7;have hm9:=(hm6.addBox hb7 e7 m7).nf [_,_,zAr _ _ [_,_,_,_,_,_]] rfl;refine gg 6 rfl (Rn.q rfl (V.ldB isAgg3 rfl (hm9.get 2 rfl) rfl) (gg 2 rfl ?_));refine Rn.cutR [] [(1,pt b7 0),(14,.bool (decide ((x0.Scale < (-10)) ∨ (x0.Scale > 20))))] (fun hk10=>?_) ?_
 ·refine Rn.partD (t:=10) rfl (fun h11=>?_) (fun h11=>?_)
  ·refine gg 4 rfl ?_;exact hk10 _ sA
  ·refine gg 1 rfl (Rn.q rfl (V.ldB isAgg3 rfl (hm9.get 2 rfl) rfl) (gg 2 rfl ?_));exact hk10 _ sA
 refine gg 1 rfl ?_;refine zB hM (Rn.condD rfl) (fun h12 hM=>?_) (fun h12 hM=>?_)
 ·refine gg 4 rfl ?_
  cases hM
  exact Rn.R1 func49 ⟨rfl,hm9.pk []⟩
 ·refine gg 5 rfl (Rn.q rfl (V.ldBA [_,_] isAgg38 sizeOf38 rfl (hm9.get 2 rfl) rfl rfl) ?_);obtain ⟨p13,e13,hM⟩:=zA4 hM
  refine Rn.c0 (cK func100) (zHp (Z0:=All) e13 (show zAd.rep.rel All _ _ _ from ⟨_,_,rfl,⟨rfl,trivial⟩,⟨_,_,rfl,(zA1 (hm9.get 0 rfl)).1,(zA1 (hm9.get 0 rfl)).2.1,(zA1 (hm9.get 0 rfl)).2.2⟩⟩) :) hm9 fun w13 _ hm14=>?_
  refine gg 7 rfl ?_;refine zB hM (Rn.condD rfl) (fun h15 hM=>?_) (fun h15 hM=>?_)
  ·refine gg 5 rfl ?_
   cases hM
   exact Rn.R1 func49 ⟨rfl,hm14.pk []⟩
  ·refine gg 5 rfl (Rn.q rfl (V.ldBA [_,_] isAgg38 sizeOf38 rfl (hm14.get 2 rfl) rfl rfl) ?_);obtain ⟨p16,e16,hM⟩:=zA4 hM
   refine Rn.c0 (cK func100) (zHp (Z0:=All) e16 (show zAd.rep.rel All _ _ _ from ⟨_,_,rfl,⟨rfl,trivial⟩,⟨_,_,rfl,(zA1 (hm14.get 1 rfl)).1,(zA1 (hm14.get 1 rfl)).2.1,(zA1 (hm14.get 1 rfl)).2.2⟩⟩) :) hm14 fun w16 _ hm17=>?_
   refine gg 7 rfl ?_;refine zB hM (Rn.condD rfl) (fun h18 hM=>?_) (fun h18 hM=>?_)
   ·refine gg 5 rfl ?_
    cases hM
    exact Rn.R1 func49 ⟨rfl,hm17.pk []⟩
   ·refine gg 4 rfl (Rn.q rfl (V.ldBA [_,_,_,_,_,_] isAgg40 sizeOf40 rfl (hm17.get 2 rfl) rfl rfl) ?_);obtain ⟨p19,e19,hM⟩:=zA4 hM
    refine Rn.c0 (cK func101) (zKj (Z0:=All) e19 (show zA2.rep.rel All _ _ _ from ⟨_,_,rfl,⟨rfl,trivial⟩,⟨_,_,rfl,⟨rfl,trivial⟩,⟨_,_,rfl,⟨_,_,rfl,⟨rfl,trivial⟩,⟨_,_,rfl,(zA1 (hm17.get 0 rfl)).1,(zA1 (hm17.get 0 rfl)).2.1,(zA1 (hm17.get 0 rfl)).2.2⟩⟩,⟨_,_,rfl,⟨rfl,trivial⟩,⟨_,_,rfl,(zA1 (hm17.get 1 rfl)).1,(zA1 (hm17.get 1 rfl)).2.1,(zA1 (hm17.get 1 rfl)).2.2⟩⟩⟩⟩⟩) :) hm17 fun w19 _ hm20=>?_
    refine gg 9 rfl (Rn.q rfl (V.notB rfl) (gg 1 rfl ?_));refine zGt hM (Rn.condS rfl) (fun h21 hM=>?_) (fun h21 hM=>?_)
    ·refine gg 4 rfl ?_
     cases hM
     exact Rn.R1 func49 ⟨rfl,hm20.pk []⟩
    ·refine gg 5 rfl ?_
     cases hM
     exact Rn.R1 func49 ⟨rfl,hm20.pk []⟩
theorem zKf {x0 : zA9} {r : Int} (hM : zEv x0 = some r) (h0 : zA9.rep.rel Z0 w cs0 x0) :
    Calls prog 14 #[.agg cs0.toArray] w fun x w'=>x = .returned (iv r) ∧ Hp Z0 No w w' []:=by
 have hm0:=Hp.nil Z0 No w;have hc0:=zD1.nil;obtain ⟨Ar1,cr1,Ar3,cr3,Ar5,cr5,rfl,fs1,fs3,fs5⟩:=zA9.relE h0;have hm7:=hm0.know (slR Ar1 cr1 zA.rep x0.Attrs) (fun _ h=>h) (hm0.in0 hc0 fs1);replace hc0:=hc0.snoc (r:=slR Ar1 cr1 zA.rep x0.Attrs) (fun _ h=>h);have hm8:=hm7.know (slR Ar3 cr3 zAp x0.Hist.Pos.Counts) (fun _ h=>h) (hm7.in0 hc0 fs3);replace hc0:=hc0.snoc (r:=slR Ar3 cr3 zAp x0.Hist.Pos.Counts) (fun _ h=>h);have hm9:=hm8.know (slR Ar5 cr5 zAp x0.Hist.Neg.Counts) (fun _ h=>h) (hm8.in0 hc0 fs5);replace hc0:=hc0.snoc (r:=slR Ar5 cr5 zAp x0.Hist.Neg.Counts) (fun _ h=>h);refine Rn.en func14 ?_;refine gg 2 rfl (Rn.box rfl rfl rfl rfl rfl ?_);intro b10 w10 hb10 m10 e10;have hm12:=(hm9.addBox hb10 e10 m10).nf [_,_,_,zAr _ _ [_,_,_,_,_,_,_,_,_,_,_,_,_,_,_,_,_]] rfl;refine gg 6 rfl (Rn.q rfl (V.ldB isAgg9 rfl (hm12.get 3 rfl) rfl) (gg 1 rfl (Rn.q rfl (V.ldB isAgg34 rfl (hm12.get 3 rfl) rfl) ?_)));obtain ⟨p13,e13,hM⟩:=zA4 hM
 refine Rn.c0 (cK func45) (zH7 (Z0:=All) e13 (zA1 (hm12.get 0 rfl)) :) hm12 fun w13 _ hm14=>?_
 refine gg 7 rfl ?_;refine zB hM (Rn.condD rfl) (fun h15 hM=>?_) (fun h15 hM=>?_)
 ·refine gg 5 rfl ?_
  cases hM
  exact Rn.R1 func14 ⟨rfl,hm14.pk []⟩
 ·refine gg 5 rfl (Rn.q rfl (V.ldB isAgg3 rfl (hm14.get 3 rfl) rfl) (gg 2 rfl ?_));refine Rn.cutR [] [(1,pt b10 0),(19,.bool (decide ((x0.Kind < 1) ∨ (x0.Kind > 5))))] (fun hk16=>?_) ?_
  ·refine Rn.partD (t:=15) rfl (fun h17=>?_) (fun h17=>?_)
   ·refine gg 4 rfl ?_;exact hk16 _ sA
   ·refine gg 1 rfl (Rn.q rfl (V.ldB isAgg3 rfl (hm14.get 3 rfl) rfl) (gg 2 rfl ?_));exact hk16 _ sA
  refine gg 1 rfl ?_;refine zB hM (Rn.condD rfl) (fun h18 hM=>?_) (fun h18 hM=>?_)
  ·refine gg 4 rfl ?_
   cases hM
   exact Rn.R1 func14 ⟨rfl,hm14.pk []⟩
  ·refine gg 5 rfl (Rn.q rfl (V.ldB isAgg3 rfl (hm14.get 3 rfl) rfl) (gg 2 rfl ?_));refine Rn.cutR [8,9,10,11,12,13,14,15,16,17,18,19,20,21,22] [(1,pt b10 0),(27,.bool (decide ((x0.Kind = 3) ∧ (x0.Temp ≠ 0))))] (fun hk19=>?_) ?_
   ·refine Rn.partD (t:=23) rfl (fun h20=>?_) (fun h20=>?_)
    ·refine gg 1 rfl (Rn.q rfl (V.ldB isAgg3 rfl (hm14.get 3 rfl) rfl) (gg 2 rfl ?_));exact hk19 _ sA
    ·refine gg 4 rfl ?_;exact hk19 _ sA
   refine gg 1 rfl ?_;refine Rn.cutR [] [(1,pt b10 0),(42,.bool (decide (((x0.Kind = 3) ∧ (x0.Temp ≠ 0)) ∨ (((x0.Kind ≠ 3) ∧ (x0.Temp ≠ 1)) ∧ (x0.Temp ≠ 2)))))] (fun hk21=>?_) ?_
   ·refine Rn.partD (t:=28) rfl (fun h22=>?_) (fun h22=>?_)
    ·refine gg 14 rfl ?_;exact hk21 _ sA
    ·refine gg 1 rfl (Rn.q rfl (V.ldB isAgg3 rfl (hm14.get 3 rfl) rfl) (gg 2 rfl ?_));refine Rn.cutR [17,18,19,20,21,22] [(1,pt b10 0),(28,.bool false),(36,.bool (decide ((x0.Kind ≠ 3) ∧ (x0.Temp ≠ 1))))] (fun hk23=>?_) ?_
     ·refine Rn.partD (t:=32) rfl (fun h24=>?_) (fun h24=>?_)
      ·refine gg 1 rfl (Rn.q rfl (V.ldB isAgg3 rfl (hm14.get 3 rfl) rfl) (gg 2 rfl ?_));exact hk23 _ sA
      ·refine gg 4 rfl ?_;exact hk23 _ sA
     refine gg 1 rfl ?_;refine Rn.cutR [22] [(1,pt b10 0),(28,.bool false),(41,.bool (decide (((x0.Kind ≠ 3) ∧ (x0.Temp ≠ 1)) ∧ (x0.Temp ≠ 2))))] (fun hk25=>?_) ?_
     ·refine Rn.partD (t:=37) rfl (fun h26=>?_) (fun h26=>?_)
      ·refine gg 1 rfl (Rn.q rfl (V.ldB isAgg3 rfl (hm14.get 3 rfl) rfl) (gg 2 rfl ?_));exact hk25 _ sA
      ·refine gg 4 rfl ?_;exact hk25 _ sA
     refine gg 1 rfl ?_;exact hk21 _ sA
   refine gg 1 rfl ?_;refine zB hM (Rn.condD rfl) (fun h27 hM=>?_) (fun h27 hM=>?_)
   ·refine gg 4 rfl ?_
    cases hM
    exact Rn.R1 func14 ⟨rfl,hm14.pk []⟩
   ·refine gg 5 rfl (Rn.q rfl (V.ldB isAgg4 rfl (hm14.get 3 rfl) rfl) (gg 1 rfl ?_));refine Rn.cutR [7,8,9,10,11] [(1,pt b10 0),(49,.bool (decide ((x0.Mono = true) ∧ (x0.Kind ≠ 1))))] (fun hk28=>?_) ?_
    ·refine Rn.part (t:=45) rfl (fun h29=>?_) (fun h29=>?_)
     ·refine gg 1 rfl (Rn.q rfl (V.ldB isAgg3 rfl (hm14.get 3 rfl) rfl) (gg 2 rfl ?_));exact hk28 _ sA
     ·refine gg 4 rfl ?_;exact hk28 _ sA
    refine gg 1 rfl ?_;refine Rn.cutR [] [(1,pt b10 0),(54,.bool (decide (((x0.Mono = true) ∧ (x0.Kind ≠ 1)) ∧ (x0.Kind ≠ 2))))] (fun hk30=>?_) ?_
    ·refine Rn.partD (t:=50) rfl (fun h31=>?_) (fun h31=>?_)
     ·refine gg 1 rfl (Rn.q rfl (V.ldB isAgg3 rfl (hm14.get 3 rfl) rfl) (gg 2 rfl ?_));exact hk30 _ sA
     ·refine gg 4 rfl ?_;exact hk30 _ sA
    refine gg 1 rfl ?_;refine zB hM (Rn.condD rfl) (fun h32 hM=>?_) (fun h32 hM=>?_)
    ·refine gg 4 rfl ?_
     cases hM
     exact Rn.R1 func14 ⟨rfl,hm14.pk []⟩
    ·refine gg 5 rfl (Rn.q rfl (V.ldB isAgg3 rfl (hm14.get 3 rfl) rfl) (gg 2 rfl ?_));refine Rn.cutR [8,9,10,11,12,13,14,15,16,17,18,19,20,21,22,23,24,25,26,27,28,29,30,31] [(1,pt b10 0),(62,.bool (decide ((x0.Start < 0) ∨ (x0.Time > 4503599627370496))))] (fun hk33=>?_) ?_
     ·refine Rn.partD (t:=58) rfl (fun h34=>?_) (fun h34=>?_)
      ·refine gg 4 rfl ?_;exact hk33 _ sA
      ·refine gg 1 rfl (Rn.q rfl (V.ldB isAgg3 rfl (hm14.get 3 rfl) rfl) (gg 2 rfl ?_));exact hk33 _ sA
     refine gg 1 rfl ?_;refine Rn.cutR [20,21,22,23,24,25,26,27,28,29,30,31] [(1,pt b10 0),(74,.bool (decide (((x0.Start < 0) ∨ (x0.Time > 4503599627370496)) ∨ ((x0.Kind = 3) ∧ (x0.Start ≠ x0.Time)))))] (fun hk35=>?_) ?_
     ·refine Rn.partD (t:=63) rfl (fun h36=>?_) (fun h36=>?_)
      ·refine gg 11 rfl ?_;exact hk35 _ sA
      ·refine gg 1 rfl (Rn.q rfl (V.ldB isAgg3 rfl (hm14.get 3 rfl) rfl) (gg 2 rfl ?_));refine Rn.cutR [19,20,21,22,23,24,25,26,27,28,29,30,31] [(1,pt b10 0),(63,.bool false),(73,.bool (decide ((x0.Kind = 3) ∧ (x0.Start ≠ x0.Time))))] (fun hk37=>?_) ?_
       ·refine Rn.partD (t:=67) rfl (fun h38=>?_) (fun h38=>?_)
        ·refine gg 1 rfl (Rn.q rfl (V.ldB isAgg3 rfl (hm14.get 3 rfl) rfl) (gg 1 rfl (Rn.q rfl (V.ldB isAgg3 rfl (hm14.get 3 rfl) rfl) (gg 2 rfl ?_))));exact hk37 _ sA
        ·refine gg 6 rfl ?_;exact hk37 _ sA
       refine gg 1 rfl ?_;exact hk35 _ sA
     refine gg 1 rfl ?_;refine Rn.cutR [] [(1,pt b10 0),(86,.bool (decide ((((x0.Start < 0) ∨ (x0.Time > 4503599627370496)) ∨ ((x0.Kind = 3) ∧ (x0.Start ≠ x0.Time))) ∨ ((x0.Kind ≠ 3) ∧ (x0.Start ≥ x0.Time)))))] (fun hk39=>?_) ?_
     ·refine Rn.partD (t:=75) rfl (fun h40=>?_) (fun h40=>?_)
      ·refine gg 11 rfl ?_;exact hk39 _ sA
      ·refine gg 1 rfl (Rn.q rfl (V.ldB isAgg3 rfl (hm14.get 3 rfl) rfl) (gg 2 rfl ?_));refine Rn.cutR [31] [(1,pt b10 0),(75,.bool false),(85,.bool (decide ((x0.Kind ≠ 3) ∧ (x0.Start ≥ x0.Time))))] (fun hk41=>?_) ?_
       ·refine Rn.partD (t:=79) rfl (fun h42=>?_) (fun h42=>?_)
        ·refine gg 1 rfl (Rn.q rfl (V.ldB isAgg3 rfl (hm14.get 3 rfl) rfl) (gg 1 rfl (Rn.q rfl (V.ldB isAgg3 rfl (hm14.get 3 rfl) rfl) (gg 2 rfl ?_))));exact hk41 _ sA
        ·refine gg 6 rfl ?_;exact hk41 _ sA
       refine gg 1 rfl ?_;exact hk39 _ sA
     refine gg 1 rfl ?_;refine zB hM (Rn.condD rfl) (fun h43 hM=>?_) (fun h43 hM=>?_)
     ·refine gg 4 rfl ?_
      cases hM
      exact Rn.R1 func14 ⟨rfl,hm14.pk []⟩
     ·refine gg 5 rfl (Rn.q rfl (V.ldB isAgg3 rfl (hm14.get 3 rfl) rfl) (gg 2 rfl ?_));refine Rn.cutR [8,9,10,11,12,13,14,15,16,17,18,19,20,21,22,23,24,25,26,27,28] [(1,pt b10 0),(94,.bool (decide ((x0.Kind ≠ 1) ∧ (x0.Int_ ≠ 0))))] (fun hk44=>?_) ?_
      ·refine Rn.partD (t:=90) rfl (fun h45=>?_) (fun h45=>?_)
       ·refine gg 1 rfl (Rn.q rfl (V.ldB isAgg3 rfl (hm14.get 3 rfl) rfl) (gg 2 rfl ?_));exact hk44 _ sA
       ·refine gg 4 rfl ?_;exact hk44 _ sA
      refine gg 1 rfl ?_;refine Rn.cutR [18,19,20,21,22,23,24,25,26,27,28] [(1,pt b10 0),(104,.bool (decide (((x0.Kind ≠ 1) ∧ (x0.Int_ ≠ 0)) ∨ ((x0.Kind ≠ 5) ∧ (((x0.Im).toNat : Int) ≠ 0)))))] (fun hk46=>?_) ?_
      ·refine Rn.partD (t:=95) rfl (fun h47=>?_) (fun h47=>?_)
       ·refine gg 9 rfl ?_;exact hk46 _ sA
       ·refine gg 1 rfl (Rn.q rfl (V.ldB isAgg3 rfl (hm14.get 3 rfl) rfl) (gg 2 rfl ?_));refine Rn.cutR [17,18,19,20,21,22,23,24,25,26,27,28] [(1,pt b10 0),(95,.bool false),(103,.bool (decide ((x0.Kind ≠ 5) ∧ (((x0.Im).toNat : Int) ≠ 0))))] (fun hk48=>?_) ?_
        ·refine Rn.partD (t:=99) rfl (fun h49=>?_) (fun h49=>?_)
         ·refine gg 1 rfl (Rn.q rfl (V.ldB isAgg35 rfl (hm14.get 3 rfl) rfl) (Rn.q rfl (V.neq rfl rfl) (gg 1 rfl ?_)));exact hk48 _ sA
         ·refine gg 4 rfl ?_;exact hk48 _ sA
        refine gg 1 rfl ?_;exact hk46 _ sA
      refine gg 1 rfl ?_;refine Rn.jR hm0 hM (G:=Bool) [] (fun g=>[(1,pt b10 0),(115,.bool (g))]) (fun g=>[slR Ar1 cr1 zA.rep x0.Attrs,slR Ar3 cr3 zAp x0.Hist.Pos.Counts,slR Ar5 cr5 zAp x0.Hist.Neg.Counts,zAr b10 42 [Str (x0.Name),.slice Ar1 (x0.Attrs).length cr1,iv x0.Kind,iv x0.Temp,.bool (x0.Mono),iv x0.Start,iv x0.Time,iv x0.Int_,zAo x0.Re,zAo x0.Im,iv x0.Hist.Scale,zAo x0.Hist.Zero,iv x0.Hist.Pos.Offset,.slice Ar3 (x0.Hist.Pos.Counts).length cr3,iv x0.Hist.Neg.Offset,.slice Ar5 (x0.Hist.Neg.Counts).length cr5,iv x0.Flags]]) (fun j g=>j g) ?_ ?_
      ·rintro y50 w51 hm51 hM
       try dsimp only at hM
       refine gg 1 rfl ?_;refine zGt hM (Rn.condS rfl) (fun h52 hM=>?_) (fun h52 hM=>?_)
       ·refine gg 4 rfl ?_
        cases hM
        exact Rn.R1 func14 ⟨rfl,hm51.pk []⟩
       ·refine gg 5 rfl (Rn.q rfl (V.ldB isAgg3 rfl (hm51.get 3 rfl) rfl) (gg 2 rfl ?_));refine Rn.cutR [8,9,10,11,12,13,14,15,16,17,18,19,20,21,22] [(1,pt b10 0),(123,.bool (decide ((x0.Kind = 1) ∨ (x0.Kind = 4))))] (fun hk53=>?_) ?_
        ·refine Rn.partD (t:=119) rfl (fun h54=>?_) (fun h54=>?_)
         ·refine gg 4 rfl ?_;exact hk53 _ sA
         ·refine gg 1 rfl (Rn.q rfl (V.ldB isAgg3 rfl (hm51.get 3 rfl) rfl) (gg 2 rfl ?_));exact hk53 _ sA
        refine gg 1 rfl ?_;refine Rn.cutR [13,14,15,16,17,18,19,20,21,22] [(1,pt b10 0),(128,.bool (decide (((x0.Kind = 1) ∨ (x0.Kind = 4)) ∧ (((x0.Re).toNat : Int) ≠ 0))))] (fun hk55=>?_) ?_
        ·refine Rn.partD (t:=124) rfl (fun h56=>?_) (fun h56=>?_)
         ·refine gg 1 rfl (Rn.q rfl (V.ldB isAgg35 rfl (hm51.get 3 rfl) rfl) (Rn.q rfl (V.neq rfl rfl) (gg 1 rfl ?_)));exact hk55 _ sA
         ·refine gg 4 rfl ?_;exact hk55 _ sA
        refine gg 1 rfl ?_;refine Rn.cutR [18,19,20,21,22] [(1,pt b10 0),(133,.bool (decide ((((x0.Kind = 1) ∨ (x0.Kind = 4)) ∧ (((x0.Re).toNat : Int) ≠ 0)) ∨ (x0.Flags < 0))))] (fun hk57=>?_) ?_
        ·refine Rn.partD (t:=129) rfl (fun h58=>?_) (fun h58=>?_)
         ·refine gg 4 rfl ?_;exact hk57 _ sA
         ·refine gg 1 rfl (Rn.q rfl (V.ldB isAgg3 rfl (hm51.get 3 rfl) rfl) (gg 2 rfl ?_));exact hk57 _ sA
        refine gg 1 rfl ?_;refine Rn.cutR [] [(1,pt b10 0),(138,.bool (decide (((((x0.Kind = 1) ∨ (x0.Kind = 4)) ∧ (((x0.Re).toNat : Int) ≠ 0)) ∨ (x0.Flags < 0)) ∨ (x0.Flags > 31))))] (fun hk59=>?_) ?_
        ·refine Rn.partD (t:=134) rfl (fun h60=>?_) (fun h60=>?_)
         ·refine gg 4 rfl ?_;exact hk59 _ sA
         ·refine gg 1 rfl (Rn.q rfl (V.ldB isAgg3 rfl (hm51.get 3 rfl) rfl) (gg 2 rfl ?_));exact hk59 _ sA
        refine gg 1 rfl ?_;refine zB hM (Rn.condD rfl) (fun h61 hM=>?_) (fun h61 hM=>?_)
        ·refine gg 4 rfl ?_
         cases hM
         exact Rn.R1 func14 ⟨rfl,hm51.pk []⟩
        ·refine gg 5 rfl (Rn.q rfl (V.ldB isAgg4 rfl (hm51.get 3 rfl) rfl) (gg 1 rfl ?_));refine Rn.cutR [7,8,9,10,11,12] [(1,pt b10 0),(145,.bool (decide ((x0.Mono = true) ∧ (x0.Kind = 2))))] (fun hk62=>?_) ?_
         ·refine Rn.part (t:=141) rfl (fun h63=>?_) (fun h63=>?_)
          ·refine gg 1 rfl (Rn.q rfl (V.ldB isAgg3 rfl (hm51.get 3 rfl) rfl) (gg 2 rfl ?_));exact hk62 _ sA
          ·refine gg 4 rfl ?_;exact hk62 _ sA
         refine gg 1 rfl ?_;refine Rn.jR hm0 hM (G:=Bool) [] (fun g=>[(1,pt b10 0),(151,.bool (g))]) (fun g=>[slR Ar1 cr1 zA.rep x0.Attrs,slR Ar3 cr3 zAp x0.Hist.Pos.Counts,slR Ar5 cr5 zAp x0.Hist.Neg.Counts,zAr b10 42 [Str (x0.Name),.slice Ar1 (x0.Attrs).length cr1,iv x0.Kind,iv x0.Temp,.bool (x0.Mono),iv x0.Start,iv x0.Time,iv x0.Int_,zAo x0.Re,zAo x0.Im,iv x0.Hist.Scale,zAo x0.Hist.Zero,iv x0.Hist.Pos.Offset,.slice Ar3 (x0.Hist.Pos.Counts).length cr3,iv x0.Hist.Neg.Offset,.slice Ar5 (x0.Hist.Neg.Counts).length cr5,iv x0.Flags]]) (fun j g=>j g) ?_ ?_
         ·rintro y64 w65 hm65 hM
          try dsimp only at hM
          refine gg 1 rfl ?_;refine zGt hM (Rn.condS rfl) (fun h66 hM=>?_) (fun h66 hM=>?_)
          ·refine gg 4 rfl ?_
           cases hM
           exact Rn.R1 func14 ⟨rfl,hm65.pk []⟩
          ·refine gg 5 rfl (Rn.q rfl (V.ldB isAgg4 rfl (hm65.get 3 rfl) rfl) (gg 1 rfl ?_));refine Rn.cutR [7,8,9,10,11,12,13,14,15,16,17,18,19,20,21,22,23,24,25] [(1,pt b10 0),(158,.bool (decide ((x0.Mono = true) ∧ (x0.Kind = 2))))] (fun hk67=>?_) ?_
           ·refine Rn.part (t:=154) rfl (fun h68=>?_) (fun h68=>?_)
            ·refine gg 1 rfl (Rn.q rfl (V.ldB isAgg3 rfl (hm65.get 3 rfl) rfl) (gg 2 rfl ?_));exact hk67 _ sA
            ·refine gg 4 rfl ?_;exact hk67 _ sA
           refine gg 1 rfl ?_;refine Rn.jR hm0 hM (G:=Bool) [12,13,14,15,16,17,18,19,20,21,22,23,24,25] (fun g=>[(1,pt b10 0),(163,.bool (g))]) (fun g=>[slR Ar1 cr1 zA.rep x0.Attrs,slR Ar3 cr3 zAp x0.Hist.Pos.Counts,slR Ar5 cr5 zAp x0.Hist.Neg.Counts,zAr b10 42 [Str (x0.Name),.slice Ar1 (x0.Attrs).length cr1,iv x0.Kind,iv x0.Temp,.bool (x0.Mono),iv x0.Start,iv x0.Time,iv x0.Int_,zAo x0.Re,zAo x0.Im,iv x0.Hist.Scale,zAo x0.Hist.Zero,iv x0.Hist.Pos.Offset,.slice Ar3 (x0.Hist.Pos.Counts).length cr3,iv x0.Hist.Neg.Offset,.slice Ar5 (x0.Hist.Neg.Counts).length cr5,iv x0.Flags]]) (fun j g=>j g) ?_ ?_
           ·rintro y69 w70 hm70 hM
            try dsimp only at hM
            refine gg 1 rfl ?_;refine Rn.cutR [] [(1,pt b10 0),(177,.bool (decide ((y69 = true) ∨ (((x0.Mono = true) ∧ (x0.Kind = 1)) ∧ (x0.Int_ < 0)))))] (fun hk71=>?_) ?_
            ·refine Rn.part (t:=164) rfl (fun h72=>?_) (fun h72=>?_)
             ·refine gg 13 rfl ?_;exact hk71 _ sA
             ·refine gg 1 rfl (Rn.q rfl (V.ldB isAgg4 rfl (hm70.get 3 rfl) rfl) (gg 1 rfl ?_));refine Rn.cutR [20,21,22,23,24,25] [(1,pt b10 0),(164,.bool false),(171,.bool (decide ((x0.Mono = true) ∧ (x0.Kind = 1))))] (fun hk73=>?_) ?_
              ·refine Rn.part (t:=167) rfl (fun h74=>?_) (fun h74=>?_)
               ·refine gg 1 rfl (Rn.q rfl (V.ldB isAgg3 rfl (hm70.get 3 rfl) rfl) (gg 2 rfl ?_));exact hk73 _ sA
               ·refine gg 4 rfl ?_;exact hk73 _ sA
              refine gg 1 rfl ?_;refine Rn.cutR [25] [(1,pt b10 0),(164,.bool false),(176,.bool (decide (((x0.Mono = true) ∧ (x0.Kind = 1)) ∧ (x0.Int_ < 0))))] (fun hk75=>?_) ?_
              ·refine Rn.partD (t:=172) rfl (fun h76=>?_) (fun h76=>?_)
               ·refine gg 1 rfl (Rn.q rfl (V.ldB isAgg3 rfl (hm70.get 3 rfl) rfl) (gg 2 rfl ?_));exact hk75 _ sA
               ·refine gg 4 rfl ?_;exact hk75 _ sA
              refine gg 1 rfl ?_;exact hk71 _ sA
            refine gg 1 rfl ?_;refine zB hM (Rn.condD rfl) (fun h77 hM=>?_) (fun h77 hM=>?_)
            ·refine gg 4 rfl ?_
             cases hM
             exact Rn.R1 func14 ⟨rfl,hm70.pk []⟩
            ·refine gg 5 rfl (Rn.q rfl (V.ldB isAgg3 rfl (hm70.get 3 rfl) rfl) (gg 2 rfl ?_));refine zB hM (Rn.condD rfl) (fun h78 hM=>?_) (fun h78 hM=>?_)
             ·refine gg 3 rfl (Rn.q rfl (V.ldBA [_,_,_,_,_,_] isAgg40 sizeOf40 rfl (hm70.get 3 rfl) rfl rfl) ?_);obtain ⟨p79,e79,hM⟩:=zA4 hM
              refine Rn.c0 (cK func49) (zKl (Z0:=All) e79 (show zA2.rep.rel All _ _ _ from ⟨_,_,rfl,⟨rfl,trivial⟩,⟨_,_,rfl,⟨rfl,trivial⟩,⟨_,_,rfl,⟨_,_,rfl,⟨rfl,trivial⟩,⟨_,_,rfl,(zA1 (hm70.get 1 rfl)).1,(zA1 (hm70.get 1 rfl)).2.1,(zA1 (hm70.get 1 rfl)).2.2⟩⟩,⟨_,_,rfl,⟨rfl,trivial⟩,⟨_,_,rfl,(zA1 (hm70.get 2 rfl)).1,(zA1 (hm70.get 2 rfl)).2.1,(zA1 (hm70.get 2 rfl)).2.2⟩⟩⟩⟩⟩) :) hm70 fun w79 _ hm80=>?_
              refine gg 2 rfl ?_
              cases hM
              exact Rn.R1 func14 ⟨rfl,hm80.pk []⟩
             ·refine gg 5 rfl ?_
              cases hM
              exact Rn.R1 func14 ⟨rfl,hm70.pk []⟩
           intro j3 hM hk3;refine zB hM (Rn.partD (t:=159) rfl) (fun h81 hM=>?_) (fun h81 hM=>?_)
           ·refine gg 1 rfl (Rn.q rfl (V.ldB isAgg35 rfl (hm65.get 3 rfl) rfl) ?_);obtain ⟨p82,e82,hM⟩:=zA4 hM
            refine Rn.c0 (cK func48) (zL (Z0:=All) e82  :) hm65 fun w82 _ hm83=>?_
            refine gg 1 rfl ?_;exact hk3 p82 _ _ sA (hm83.pk [0,1,2,3]) hM
           ·refine gg 4 rfl ?_;exact hk3 false _ _ sA (hm65.pk [0,1,2,3]) hM
         intro j2 hM hk2;refine zB hM (Rn.partD (t:=146) rfl) (fun h84 hM=>?_) (fun h84 hM=>?_)
         ·refine gg 1 rfl (Rn.q rfl (V.ldB isAgg35 rfl (hm51.get 3 rfl) rfl) ?_);obtain ⟨p85,e85,hM⟩:=zA4 hM
          refine Rn.c0 (cK func47) (zK4 (Z0:=All) e85  :) hm51 fun w85 _ hm86=>?_
          refine Rn.q rfl (V.notB rfl) (gg 1 rfl ?_);exact hk2 (!p85) _ _ sA (hm86.pk [0,1,2,3]) hM
         ·refine gg 5 rfl ?_;exact hk2 false _ _ sA (hm51.pk [0,1,2,3]) hM
      intro j1 hM hk1;refine zB hM (Rn.partD (t:=105) rfl) (fun h87 hM=>?_) (fun h87 hM=>?_)
      ·refine gg 10 rfl ?_;exact hk1 true _ _ sA (hm14.pk [0,1,2,3]) hM
      ·refine gg 1 rfl (Rn.q rfl (V.ldB isAgg3 rfl (hm14.get 3 rfl) rfl) (gg 2 rfl ?_));refine Rn.jR hm0 hM (G:=Bool) [28] (fun g=>[(1,pt b10 0),(105,.bool false),(114,.bool (g))]) (fun g=>[slR Ar1 cr1 zA.rep x0.Attrs,slR Ar3 cr3 zAp x0.Hist.Pos.Counts,slR Ar5 cr5 zAp x0.Hist.Neg.Counts,zAr b10 42 [Str (x0.Name),.slice Ar1 (x0.Attrs).length cr1,iv x0.Kind,iv x0.Temp,.bool (x0.Mono),iv x0.Start,iv x0.Time,iv x0.Int_,zAo x0.Re,zAo x0.Im,iv x0.Hist.Scale,zAo x0.Hist.Zero,iv x0.Hist.Pos.Offset,.slice Ar3 (x0.Hist.Pos.Counts).length cr3,iv x0.Hist.Neg.Offset,.slice Ar5 (x0.Hist.Neg.Counts).length cr5,iv x0.Flags]]) (fun j g=>j g) ?_ ?_
       ·rintro y88 w89 hm89 hM
        try dsimp only at hM
        refine gg 1 rfl ?_;exact hk1 y88 _ _ sA (hm89.pk [0,1,2,3]) hM
       intro j4 hM hk4;refine zB hM (Rn.partD (t:=109) rfl) (fun h90 hM=>?_) (fun h90 hM=>?_)
       ·refine gg 1 rfl (Rn.q rfl (V.ldBA [_,_,_,_,_,_] isAgg40 sizeOf40 rfl (hm14.get 3 rfl) rfl rfl) ?_);obtain ⟨p91,e91,hM⟩:=zA4 hM
        refine Rn.c0 (cK func46) (zKw (Z0:=All) e91 (show zA2.rep.rel All _ _ _ from ⟨_,_,rfl,⟨rfl,trivial⟩,⟨_,_,rfl,⟨rfl,trivial⟩,⟨_,_,rfl,⟨_,_,rfl,⟨rfl,trivial⟩,⟨_,_,rfl,(zA1 (hm14.get 1 rfl)).1,(zA1 (hm14.get 1 rfl)).2.1,(zA1 (hm14.get 1 rfl)).2.2⟩⟩,⟨_,_,rfl,⟨rfl,trivial⟩,⟨_,_,rfl,(zA1 (hm14.get 2 rfl)).1,(zA1 (hm14.get 2 rfl)).2.1,(zA1 (hm14.get 2 rfl)).2.2⟩⟩⟩⟩⟩) :) hm14 fun w91 _ hm92=>?_
        refine Rn.q rfl (V.notB rfl) (gg 1 rfl ?_);exact hk4 (!p91) _ _ sA (hm92.pk [0,1,2,3]) hM
       ·refine gg 5 rfl ?_;exact hk4 false _ _ sA (hm14.pk [0,1,2,3]) hM
theorem zK2 {x0 : (List zA)} {r : (List zA)} (hM : zEn x0 = some r) (f0 : (slR A0 c0 zA.rep x0).H Z0 w) :
    Calls prog 22 #[.slice A0 (x0).length c0] w fun x w'=>∃ A_0_0 c_0_0,x = .returned (.slice A_0_0 (r).length c_0_0) ∧ Hp Z0 No w w' [zBd 118 A_0_0 c_0_0 zA.rep r]:=by
 have hm0:=Hp.nil Z0 No w;have hc0:=zD1.nil;have hm2:=hm0.know (slR A0 c0 zA.rep x0) (fun _ h=>h) (hm0.in0 hc0 f0);replace hc0:=hc0.snoc (r:=slR A0 c0 zA.rep x0) (fun _ h=>h);refine Rn.en func22 ?_;refine gg 13 rfl ?_;refine Rn.jG hm0 hM (G:=(List zA) × Option Addr × Nat) (fun g=>[(3,.slice (g.2.1) ((g.1)).length (g.2.2))]) (fun g=>[zBd 118 (g.2.1) (g.2.2) zA.rep (g.1)]) (fun j g=>j g.1) ?_ ?_
 ·rintro ⟨y3,A4,c4⟩ w6 hm6 hM
  try dsimp only at hM
  refine gg 5 rfl ?_
  cases hM
  exact Rn.R1 func22 ⟨A4,c4,rfl,hm6.pk [0]⟩
 intro j1 hM hk1;refine gg 1 rfl ?_;have hm11:=hm2.addNil 118 zA.rep;refine Rn.loopF (G:=(List zA) × Int × Option Addr × Nat) (fun g=>[(0,.slice A0 (x0).length c0),(3,.slice (g.2.2.1) ((g.1)).length (g.2.2.2)),(4,iv (g.2.1))]) (fun g w'=>Hp Z0 No w w' [slR A0 c0 zA.rep x0,zBd 118 (g.2.2.1) (g.2.2.2) zA.rep (g.1)]) (fun n g=>zAx x0 j1 n g.1 g.2.1) fuel (([] : List zA),0,none,0) sA (hm11.pk [0,1]) hM (fun _=>rfl) ?_;clear hM;rintro m13 ⟨y7,y10,A8,c8⟩ w13 hm13 hM hn13;replace hM : zAx x0 j1 (m13 + 1) y7 y10 = some r:=hM;rw [zAx] at hM;refine gg 5 rfl (Rn.q rfl (V.lenV underlying34 rfl) (gg 2 rfl ?_));refine zB hM (Rn.condD rfl) (fun h14 hM=>?_) (fun h14 hM=>?_)
 ·refine gg 6 rfl (Rn.q rfl (V.lenV underlying34 rfl) (gg 3 rfl ?_));refine Rn.jG hm0 hM (G:=Int) (fun g=>[(0,.slice A0 (x0).length c0),(3,.slice A8 (y7).length c8),(4,iv y10),(5,iv g)]) (fun g=>[slR A0 c0 zA.rep x0,zBd 118 A8 c8 zA.rep y7]) (fun j g=>j g) ?_ ?_
  ·rintro y15 w16 hm16 hM
   try dsimp only at hM
   refine gg 9 rfl ?_;have hm19:=hm16.freeze 1 rfl;obtain ⟨z17,e17,hM⟩:=zA4 hM;refine Rn.cutH hm19 1 rfl e17 rfl rfl rfl underlying34 sizeOf118 rfl rfl rfl rfl rfl ?_;intro A17 c17 hm17;have hm22:=hm17.addNil 118 zA.rep;obtain ⟨z21,e21,hM⟩:=zA4 hM;refine Rn.appH hm22 3 rfl e21 rfl rfl rfl underlying34 zW3 rfl rfl rfl rfl (hm22.src 2 rfl) ?_;intro A21 c21 w21 hm21;refine gg 7 rfl ?_;obtain ⟨z25,e25,hM⟩:=zA4 hM;refine Rn.ixH hm21 0 rfl e25 rfl rfl rfl underlying34 sizeOf118 rfl rfl rfl rfl ?_;rintro b25 o25 vs25 hr25 hm25;obtain rfl:=zA.relE hr25;refine Rn.q rfl (V.ldA (vs:=[_,_]) isAgg118 sizeOf118 rfl (Rd.pre (hm25.get 4 rfl).2 2) rfl) ?_;obtain ⟨z27,e27,hM⟩:=zA4 hM;refine Rn.pushH (z:=z25) (vs:=[Str (z25.Key),Str (z25.Val)]) hm25 3 rfl e27 rfl rfl rfl rfl underlying34 zW3 rfl rfl rfl rfl (fun _=>rfl) (⟨_,_,rfl,⟨rfl,trivial⟩,⟨rfl,trivial⟩⟩) ?_;intro A27 c27 w27 u27 hm27;refine gg 6 rfl ?_;obtain ⟨z29,e29,hM⟩:=zA4 hM;refine Rn.cutH hm27 1 rfl e29 rfl rfl rfl underlying34 sizeOf118 rfl rfl rfl rfl rfl ?_;intro A29 c29 hm29;obtain ⟨z31,e31,hM⟩:=zA4 hM;refine Rn.appH hm29 3 rfl e31 rfl rfl rfl underlying34 zW3 rfl rfl rfl rfl (hm29.src 5 rfl) ?_;intro A31 c31 w31 hm31;refine gg 8 rfl ?_;exact hn13 (z31,(W64 (y10 + 1)),A31,c31) _ _ sA (hm31.pk [0,3]) hM
  intro j2 hM hk2;refine gg 1 rfl ?_;refine Rn.loopF (G:=Int) (fun g=>[(0,.slice A0 (x0).length c0),(3,.slice A8 (y7).length c8),(4,iv y10),(5,iv g)]) (fun g w'=>Hp Z0 No w w' [slR A0 c0 zA.rep x0,zBd 118 A8 c8 zA.rep y7]) (fun n g=>zBq x0 y7 y10 j2 n g) fuel (y7.length : Int) sA (hm13.pk [0,1]) hM (fun _=>rfl) ?_;clear hM;rintro m34 y33 w34 hm34 hM hn34;replace hM : zBq x0 y7 y10 j2 (m34 + 1) y33 = some r:=hM;rw [zBq] at hM;refine gg 2 rfl ?_;refine Rn.jG hm0 hM (G:=Bool) (fun g=>[(0,.slice A0 (x0).length c0),(3,.slice A8 (y7).length c8),(4,iv y10),(5,iv y33),(30,.bool (g))]) (fun g=>[slR A0 c0 zA.rep x0,zBd 118 A8 c8 zA.rep y7]) (fun j g=>j g) ?_ ?_
  ·rintro y35 w36 hm36 hM
   try dsimp only at hM
   refine zGt hM (Rn.condS rfl) (fun h37 hM=>?_) (fun h37 hM=>?_)
   ·refine gg 8 rfl ?_;exact hn34 (W64 (y33 - 1)) _ _ sA (hm36.pk [0,1]) hM
   ·refine gg 1 rfl ?_;exact hk2 y33 _ _ sA (hm36.pk [0,1]) hM
  intro j3 hM hk3;refine Rn.drawP rfl hm34 ?_;intro w38 hm38;refine dq [0,1,2] ?_;refine zB hM (RH.partD (t:=17) rfl) (fun h39 hM=>?_) (fun h39 hM=>?_)
  ·refine dq [3,4,5] ?_;obtain ⟨z40,e40,hM⟩:=zA4 hM;obtain ⟨kk40,ke40,kz40,kl40⟩:=zHf e40;obtain ⟨g40,vs40,hA40,hR40,hrel40⟩:=hm38.ownAt 1 rfl kz40;subst hA40;obtain rfl:=zA.relE hrel40;refine RH.takeP 6 (by kernel_rfl) rfl rfl rfl rfl (V.ixE kk40 underlying34 sizeOf118 rfl rfl ke40 kl40) ?_;refine dq [7] ?_;refine RH.takeP 8 (by kernel_rfl) rfl rfl rfl rfl (V.ldR0 isAgg9 rfl hR40 rfl) ?_;refine dq [9,10] ?_;obtain ⟨z41,e41,hM⟩:=zA4 hM;obtain ⟨kk41,ke41,kz41,kl41⟩:=zHf e41;obtain ⟨b41,o41,vs41,hA41,hD41,hR41,hrel41⟩:=Hp.at hm38 0 rfl kz41;obtain rfl:=zA.relE hrel41;have hm43:=Hp.knowL [rdR b41 (o41 + kk41 * 2) [Str (z41.Key),Str (z41.Val)]] _ hm38 (knC (fun _ h=>h) ⟨fun _=>hD41,hR41⟩ kn0);refine RH.takeP 11 (by kernel_rfl) rfl rfl rfl rfl (V.ixA' hA41 kk41 underlying34 sizeOf118 rfl rfl ke41 kl41) ?_;refine dq [12] ?_;refine RH.takeP 13 (by kernel_rfl) rfl rfl rfl rfl (V.ldR0 isAgg9 rfl (hm43.get 2 rfl).2 rfl) ?_;refine RH.takeP 14 (by kernel_rfl) rfl rfl rfl rfl (V.gtrS rfl rfl) ?_;refine dq [15] ?_;refine RH.doneP (by kernel_rfl) ?_;exact hk3 (Op.bytesLess z41.Key z40.Key) _ _ sA (hm43.pk [0,1]) hM
  ·refine dq [3,4,5,6,7,8,9,10,11,12,13,14,15] ?_;refine RH.doneP (by kernel_rfl) ?_;exact hk3 false _ _ sA (hm38.pk [0,1]) hM
 ·refine gg 1 rfl ?_;exact hk1 (y7,A8,c8) _ _ sA (hm13.pk [1]) hM
theorem zKx {x0 : (List UInt8)} {x1 : (List zA)} {r : ((List UInt8) × Int)} (hM : zE2 x0 x1 = some r) (f0 : (slR A1 c1 zA.rep x1).H Z0 w) :
    Calls prog 50 #[Str (x0),.slice A1 (x1).length c1] w fun x w'=>x = .returned (.tuple #[Str (r.1),iv r.2]) ∧ Hp Z0 No w w' []:=by
 have hm0:=Hp.nil Z0 No w;have hc0:=zD1.nil;have hm2:=hm0.know (slR A1 c1 zA.rep x1) (fun _ h=>h) (hm0.in0 hc0 f0);replace hc0:=hc0.snoc (r:=slR A1 c1 zA.rep x1) (fun _ h=>h);refine Rn.en func50 ?_;refine gg 10 rfl ?_;obtain ⟨p3,e3,hM⟩:=zA4 hM
 refine Rn.c0 (cK func45) (zH7 (Z0:=All) e3 (zA1 (hm2.get 0 rfl)) :) hm2 fun w3 _ hm4=>?_
 refine gg 7 rfl ?_;refine zB hM (Rn.condD rfl) (fun h5 hM=>?_) (fun h5 hM=>?_)
 ·refine gg 6 rfl ?_
  cases hM
  exact Rn.R2 func50 ⟨rfl,hm4.pk []⟩
 ·refine gg 4 rfl ?_;obtain ⟨p6,e6,hM⟩:=zA4 hM
  refine Rn.c2 (cK func22) (zK2 (Z0:=All) e6 (zA1 (hm4.get 0 rfl)) :) fun A6_0_0 c6_0_0 w6 hq6=>?_
  have hm8:=hm4.callF (flC (zAl zA.flat _ _ _ _) fl0) hq6;refine gg 12 rfl ?_;refine Rn.jG hm0 hM (G:=(List UInt8)) (fun g=>[(8,Str (g))]) (fun g=>[zBd 118 A6_0_0 c6_0_0 zA.rep p6]) (fun j g=>j g) ?_ ?_
  ·rintro y9 w10 hm10 hM
   try dsimp only at hM
   refine gg 6 rfl ?_
   cases hM
   exact Rn.R2 func50 ⟨rfl,hm10.pk []⟩
  intro j1 hM hk1;refine gg 1 rfl ?_;refine Rn.loopF (G:=(List UInt8) × Int) (fun g=>[(7,.slice A6_0_0 (p6).length c6_0_0),(8,Str ((g.1))),(9,iv (g.2))]) (fun g w'=>Hp Z0 No w w' [zBd 118 A6_0_0 c6_0_0 zA.rep p6]) (fun n g=>zAz p6 j1 n g.1 g.2) fuel (x0,0) sA (hm8.pk [1]) hM (fun _=>rfl) ?_;clear hM;rintro m13 ⟨y11,y12⟩ w13 hm13 hM hn13;replace hM : zAz p6 j1 (m13 + 1) y11 y12 = some r:=hM;rw [zAz] at hM;refine gg 5 rfl (Rn.q rfl (V.lenV underlying34 rfl) (gg 2 rfl ?_));refine zB hM (Rn.condD rfl) (fun h14 hM=>?_) (fun h14 hM=>?_)
  ·refine gg 3 rfl ?_;refine Rn.drawP rfl hm13 ?_;intro w15 hm15;refine dq [0] ?_;obtain ⟨z16,e16,hM⟩:=zA4 hM;refine RH.takeP 1 (by kernel_rfl) rfl rfl rfl rfl (V.catZ rfl rfl e16) ?_;refine dq [2,3] ?_;obtain ⟨z17,e17,hM⟩:=zA4 hM;obtain ⟨kk17,ke17,kz17,kl17⟩:=zHf e17;obtain ⟨g17,vs17,hA17,hR17,hrel17⟩:=hm15.ownAt 0 rfl kz17;subst hA17;obtain rfl:=zA.relE hrel17;refine RH.takeP 4 (by kernel_rfl) rfl rfl rfl rfl (V.ixE kk17 underlying34 sizeOf118 rfl rfl ke17 kl17) ?_;refine dq [5] ?_;refine RH.takeP 6 (by kernel_rfl) rfl rfl rfl rfl (V.ldR0 isAgg9 rfl hR17 rfl) ?_;obtain ⟨z18,e18,hM⟩:=zA4 hM;refine RH.takeP 7 (by kernel_rfl) rfl rfl rfl rfl (V.catZ rfl rfl e18) ?_;obtain ⟨z19,e19,hM⟩:=zA4 hM;refine RH.takeP 8 (by kernel_rfl) rfl rfl rfl rfl (V.catZ rfl rfl e19) ?_;refine dq [9,10] ?_;obtain ⟨z20,e20,hM⟩:=zA4 hM;obtain ⟨kk20,ke20,kz20,kl20⟩:=zHf e20;obtain ⟨vs20,hR20,hrel20⟩:=hm15.ownAtL 0 rfl kz20;obtain rfl:=zA.relE hrel20;refine RH.takeP 11 (by kernel_rfl) rfl rfl rfl rfl (V.ixE kk20 underlying34 sizeOf118 rfl rfl ke20 kl20) ?_;refine dq [12] ?_;refine RH.takeP 13 (by kernel_rfl) rfl rfl rfl rfl (V.ldR (o:=kk20 * 2) (j:=1) isAgg9 rfl hR20 rfl) ?_;obtain ⟨z21,e21,hM⟩:=zA4 hM;refine RH.takeP 14 (by kernel_rfl) rfl rfl rfl rfl (V.catZ rfl rfl e21) ?_;refine dq [15] ?_;refine RH.doneP (by kernel_rfl) ?_;refine gg 6 rfl ?_;exact hn13 (z21,(W64 (y12 + 1))) _ _ sA (hm15.pk [0]) hM
  ·refine gg 1 rfl ?_;exact hk1 y11 _ _ sA (hm13.pk [0]) hM
theorem zF9 {x0 : Int} {r : (List UInt8)} (hM : zDv x0 = some r)  :
    Calls prog 51 #[iv x0] w fun x w'=>x = .returned (Str (r)) ∧ Hp Z0 No w w' []:=by
 have hm0:=Hp.nil Z0 No w;have hc0:=zD1.nil;refine Rn.en func51 ?_;refine gg 8 rfl (Rn.q rfl (V.cv8 underlying3 underlying5 rfl) (Rn.bslS rfl rfl rfl underlying22 el5 rfl rfl rfl rfl (by first|exact szs rfl|(simp [Value.cells];done)) (by decide) ?_));intro b1 w1 hb1 m1 e1;have hm2:=hm0.addLit (rep:=zCa) (xs:=([toU8 (W64 (48 + x0))] : List UInt8)) (vss:=[[u8v (toU8 (W64 (48 + x0)))]]) hb1 e1 m1 rfl rfl rfl ((zCq (fun _ _=>⟨rfl,trivial⟩) zMs));refine Rn.q rfl (V.b2s underlying22 underlying9 underlying5 rfl rfl (Own.sl (hm2.get 0 rfl))) (gg 2 rfl ?_)
 cases hM
 exact Rn.R1 func51 ⟨rfl,hm2.pk []⟩
theorem zLh {x0 : Bool} {r : Int} (hM : zFy x0 = some r)  :
    Calls prog 52 #[.bool (x0)] w fun x w'=>x = .returned (iv r) ∧ Hp Z0 No w w' []:=by
 have hm0:=Hp.nil Z0 No w;have hc0:=zD1.nil;refine Rn.en func52 ?_;refine gg 9 rfl ?_;refine zGt hM (Rn.condS rfl) (fun h1 hM=>?_) (fun h1 hM=>?_)
 ·refine gg 4 rfl ?_
  cases hM
  exact Rn.R1 func52 ⟨rfl,hm0.pk []⟩
 ·refine gg 5 rfl ?_
  cases hM
  exact Rn.R1 func52 ⟨rfl,hm0.pk []⟩
theorem zHw {x0 : zA9} {r : ((List UInt8) × Int)} (hM : zEg x0 = some r) (h0 : zA9.rep.rel Z0 w cs0 x0) :
    Calls prog 15 #[.agg cs0.toArray] w fun x w'=>x = .returned (.tuple #[Str (r.1),iv r.2]) ∧ Hp Z0 No w w' []:=by
 have hm0:=Hp.nil Z0 No w;have hc0:=zD1.nil;obtain ⟨Ar1,cr1,Ar3,cr3,Ar5,cr5,rfl,fs1,fs3,fs5⟩:=zA9.relE h0;have hm7:=hm0.know (slR Ar1 cr1 zA.rep x0.Attrs) (fun _ h=>h) (hm0.in0 hc0 fs1);replace hc0:=hc0.snoc (r:=slR Ar1 cr1 zA.rep x0.Attrs) (fun _ h=>h);have hm8:=hm7.know (slR Ar3 cr3 zAp x0.Hist.Pos.Counts) (fun _ h=>h) (hm7.in0 hc0 fs3);replace hc0:=hc0.snoc (r:=slR Ar3 cr3 zAp x0.Hist.Pos.Counts) (fun _ h=>h);have hm9:=hm8.know (slR Ar5 cr5 zAp x0.Hist.Neg.Counts) (fun _ h=>h) (hm8.in0 hc0 fs5);replace hc0:=hc0.snoc (r:=slR Ar5 cr5 zAp x0.Hist.Neg.Counts) (fun _ h=>h);refine Rn.en func15 ?_;refine gg 2 rfl (Rn.box rfl rfl rfl rfl rfl ?_);intro b10 w10 hb10 m10 e10;have hm12:=(hm9.addBox hb10 e10 m10).nf [_,_,_,zAr _ _ [_,_,_,_,_,_,_,_,_,_,_,_,_,_,_,_,_]] rfl;refine gg 6 rfl (Rn.q rfl (V.ldBA [_,_,_,_,_,_,_,_,_,_,_,_,_,_,_,_,_] isAgg42 sizeOf42 rfl (hm12.get 3 rfl) rfl rfl) ?_);obtain ⟨p13,e13,hM⟩:=zA4 hM
 refine Rn.c0 (cK func14) (zKf (Z0:=All) e13 (show zA9.rep.rel All _ _ _ from ⟨_,_,rfl,⟨rfl,trivial⟩,⟨_,_,rfl,⟨_,_,rfl,(zA1 (hm12.get 0 rfl)).1,(zA1 (hm12.get 0 rfl)).2.1,(zA1 (hm12.get 0 rfl)).2.2⟩,⟨_,_,rfl,⟨rfl,trivial⟩,⟨_,_,rfl,⟨rfl,trivial⟩,⟨_,_,rfl,⟨rfl,trivial⟩,⟨_,_,rfl,⟨rfl,trivial⟩,⟨_,_,rfl,⟨rfl,trivial⟩,⟨_,_,rfl,⟨rfl,trivial⟩,⟨_,_,rfl,⟨rfl,trivial⟩,⟨_,_,rfl,⟨rfl,trivial⟩,⟨_,_,rfl,⟨_,_,rfl,⟨rfl,trivial⟩,⟨_,_,rfl,⟨rfl,trivial⟩,⟨_,_,rfl,⟨_,_,rfl,⟨rfl,trivial⟩,⟨_,_,rfl,(zA1 (hm12.get 1 rfl)).1,(zA1 (hm12.get 1 rfl)).2.1,(zA1 (hm12.get 1 rfl)).2.2⟩⟩,⟨_,_,rfl,⟨rfl,trivial⟩,⟨_,_,rfl,(zA1 (hm12.get 2 rfl)).1,(zA1 (hm12.get 2 rfl)).2.1,(zA1 (hm12.get 2 rfl)).2.2⟩⟩⟩⟩⟩,⟨rfl,trivial⟩⟩⟩⟩⟩⟩⟩⟩⟩⟩⟩⟩) :) hm12 fun w13 _ hm14=>?_
 refine gg 7 rfl ?_;refine zB hM (Rn.condD rfl) (fun h15 hM=>?_) (fun h15 hM=>?_)
 ·refine gg 6 rfl ?_
  cases hM
  exact Rn.R2 func15 ⟨rfl,hm14.pk []⟩
 ·refine gg 4 rfl (Rn.q rfl (V.ldB isAgg9 rfl (hm14.get 3 rfl) rfl) (gg 1 rfl (Rn.q rfl (V.ldB isAgg34 rfl (hm14.get 3 rfl) rfl) ?_)));obtain ⟨p16,e16,hM⟩:=zA4 hM
  refine Rn.c0 (cK func50) (zKx (Z0:=All) e16 (zA1 (hm14.get 0 rfl)) :) hm14 fun w16 _ hm17=>?_
  refine gg 7 rfl ?_;refine Rn.drawH rfl hm17 ?_;intro w18 hm18;refine dq [0] ?_;obtain ⟨z19,e19,hM⟩:=zA4 hM;refine RH.tk 1 rfl (fun w' hDr=>V.catZ rfl rfl e19) ?_;refine dq [2] ?_;refine RH.tk 3 rfl (fun w' hDr=>V.ldB isAgg3 rfl ((hm18.ext hDr).get 3 rfl) rfl) ?_;refine dq [6] ?_;refine RH.tk 7 rfl (fun w' hDr=>V.ldB isAgg3 rfl ((hm18.ext hDr).get 3 rfl) rfl) ?_;refine dq [10] ?_;refine RH.tk 11 rfl (fun w' hDr=>V.ldB isAgg4 rfl ((hm18.ext hDr).get 3 rfl) rfl) ?_;obtain ⟨p20,e20,hM⟩:=zA4 hM;refine RH.cq (cK func51) 4 (zF9 (Z0:=All) e20  :) ?_;rintro _ w20 ⟨rfl,hq20⟩;refine ⟨_,rfl,((Ext.refl _).trans hq20.fr),?_⟩;have hm21:=hm18.call0 hq20;obtain ⟨z22,e22,hM⟩:=zA4 hM;refine RH.tk 5 rfl (fun w' hDr=>V.catZ rfl rfl e22) ?_;obtain ⟨p23,e23,hM⟩:=zA4 hM;refine RH.cq (cK func51) 8 (zF9 (Z0:=All) e23  :) ?_;rintro _ w23 ⟨rfl,hq23⟩;refine ⟨_,rfl,(((Ext.refl _).trans hq20.fr).trans hq23.fr),?_⟩;have hm24:=hm21.call0 hq23;obtain ⟨z25,e25,hM⟩:=zA4 hM;refine RH.tk 9 rfl (fun w' hDr=>V.catZ rfl rfl e25) ?_;obtain ⟨p26,e26,hM⟩:=zA4 hM;refine RH.cq (cK func52) 12 (zLh (Z0:=All) e26  :) ?_;rintro _ w26 ⟨rfl,hq26⟩;refine ⟨_,rfl,((((Ext.refl _).trans hq20.fr).trans hq23.fr).trans hq26.fr),?_⟩;have hm27:=hm24.call0 hq26;obtain ⟨p28,e28,hM⟩:=zA4 hM;refine RH.cq (cK func51) 13 (zF9 (Z0:=All) e28  :) ?_;rintro _ w28 ⟨rfl,hq28⟩;refine ⟨_,rfl,(((((Ext.refl _).trans hq20.fr).trans hq23.fr).trans hq26.fr).trans hq28.fr),?_⟩;have hm29:=hm27.call0 hq28;obtain ⟨z30,e30,hM⟩:=zA4 hM
  refine RH.here fun hS14=>RH.on 14 rfl (V.catZ rfl rfl e30) hS14 ?_
  refine dq [15,16] ?_;refine RH.doneP (by kernel_rfl) ?_
  cases hM
  exact Rn.R2 func15 ⟨rfl,hm29.pk []⟩
theorem zEd {x0 : Int} {r : UInt64} (hM : zC2 x0 = some r)  :
    Calls prog 187 #[iv x0] w fun x w'=>x = .returned (zAo r) ∧ Hp Z0 No w w' []:=by
 have hm0:=Hp.nil Z0 No w;have hc0:=zD1.nil;refine Rn.en func187 ?_;refine gg 10 rfl ?_;refine zB hM (Rn.condD rfl) (fun h1 hM=>?_) (fun h1 hM=>?_)
 ·refine gg 3 rfl (Rn.q rfl (V.cv64 underlying3 underlying35 rfl) (Rn.q rfl (V.ari64 (a:=(2 : UInt64)) (b:=zAe x0) rfl rfl _ rfl (zLm _ _)) (gg 2 rfl ?_)))
  cases hM
  exact Rn.R1 func187 ⟨rfl,hm0.pk []⟩
 ·refine gg 5 rfl (Rn.q rfl (V.cv64 underlying3 underlying35 rfl) (Rn.q rfl (V.ari64 (a:=(2 : UInt64)) (b:=zAe (W64 ((-1) - x0))) rfl rfl _ rfl (zLm _ _)) (Rn.q rfl (V.ari64 (a:=(2 : UInt64) * (zAe (W64 ((-1) - x0)))) (b:=(1 : UInt64)) rfl rfl _ rfl (zOc _ _)) (gg 2 rfl ?_))))
  cases hM
  exact Rn.R1 func187 ⟨rfl,hm0.pk []⟩
theorem zHr {x0 : Int} {r : Int} (hM : zE5 x0 = some r)  :
    Calls prog 150 #[iv x0] w fun x w'=>x = .returned (iv r) ∧ Hp Z0 No w w' []:=by
 have hm0:=Hp.nil Z0 No w;have hc0:=zD1.nil;refine Rn.en func150 ?_;refine gg 6 rfl (Rn.bslS rfl rfl rfl underlying91 el3 rfl rfl rfl rfl (by first|exact szs rfl|(simp [Value.cells];done)) (by decide) ?_);intro b1 w1 hb1 m1 e1;have hm2:=hm0.addLit (rep:=(zDd .i64)) (xs:=([0,7,20,64] : List Int)) (vss:=[[iv 0],[iv 7],[iv 20],[iv 64]]) hb1 e1 m1 rfl rfl rfl ((zCq (fun _ _=>⟨rfl,trivial⟩) (zCq (fun _ _=>⟨rfl,trivial⟩) (zCq (fun _ _=>⟨rfl,trivial⟩) (zCq (fun _ _=>⟨rfl,trivial⟩) zMs)))));refine gg 6 rfl ?_;obtain ⟨z4,e4,hM⟩:=zA4 hM;obtain ⟨kk4,ke4,kz4,kl4⟩:=zHf e4;obtain ⟨vs4,hR4,hrel4⟩:=hm2.ownAtL 0 rfl kz4;obtain ⟨rfl,_⟩:=hrel4;refine Rn.q rfl (V.ixE kk4 underlying91 sizeOf3 rfl rfl ke4 kl4) (Rn.q rfl (V.ldR0 isAgg3 rfl hR4 rfl) (gg 2 rfl ?_))
 cases hM
 exact Rn.R1 func150 ⟨rfl,hm2.pk []⟩
theorem zFb {x0 : Int} {r : UInt64} (hM : zCu x0 = some r)  :
    Calls prog 200 #[iv x0] w fun x w'=>x = .returned (zAo r) ∧ Hp Z0 No w w' []:=by
 have hm0:=Hp.nil Z0 No w;have hc0:=zD1.nil;refine Rn.en func200 ?_;refine gg 13 rfl ?_;refine Rn.jG hm0 hM (G:=UInt64) (fun g=>[(3,zAo g)]) (fun g=>[]) (fun j g=>j g) ?_ ?_
 ·rintro y1 w2 hm2 hM
  try dsimp only at hM
  refine gg 5 rfl ?_
  cases hM
  exact Rn.R1 func200 ⟨rfl,hm2.pk []⟩
 intro j1 hM hk1;refine gg 1 rfl ?_;refine Rn.loopF (G:=UInt64 × Int) (fun g=>[(0,iv x0),(3,zAo (g.1)),(4,iv (g.2))]) (fun g w'=>Hp Z0 No w w' []) (fun n g=>zC6 x0 j1 n g.1 g.2) fuel ((1 : UInt64),0) sA (hm0.pk []) hM (fun _=>rfl) ?_;clear hM;rintro m5 ⟨y3,y4⟩ w5 hm5 hM hn5;replace hM : zC6 x0 j1 (m5 + 1) y3 y4 = some r:=hM;rw [zC6] at hM;refine gg 7 rfl ?_;refine zB hM (Rn.condD rfl) (fun h6 hM=>?_) (fun h6 hM=>?_)
 ·refine gg 5 rfl (Rn.q rfl (V.ari64 (a:=(2 : UInt64)) (b:=y3) rfl rfl _ rfl (zLm _ _)) (gg 8 rfl ?_));exact hn5 (((2 : UInt64) * y3),(W64 (y4 + 1))) _ _ sA (hm5.pk []) hM
 ·refine gg 1 rfl ?_;exact hk1 y3 _ _ sA (hm5.pk []) hM
theorem zKm {x0 : UInt64} {r : Int} (hM : zF x0 = some r)  :
    Calls prog 152 #[zAo x0] w fun x w'=>x = .returned (iv r) ∧ Hp Z0 No w w' []:=by
 have hm0:=Hp.nil Z0 No w;have hc0:=zD1.nil;refine Rn.en func152 ?_;refine gg 9 rfl ?_;refine Rn.jG hm0 hM (G:=Unit) (fun g=>[]) (fun g=>[]) (fun j g=>j ()) ?_ ?_
 ·rintro _ w1 hm1 hM
  try dsimp only at hM
  refine gg 4 rfl ?_
  cases hM
  exact Rn.R1 func152 ⟨rfl,hm1.pk []⟩
 intro j1 hM hk1;refine gg 1 rfl ?_;refine Rn.loopF (G:=Int) (fun g=>[(0,zAo x0),(3,iv g)]) (fun g w'=>Hp Z0 No w w' []) (fun n g=>zBf x0 j1 n g) fuel 0 sA (hm0.pk []) hM (fun _=>rfl) ?_;clear hM;rintro m3 y2 w3 hm3 hM hn3;replace hM : zBf x0 j1 (m3 + 1) y2 = some r:=hM;rw [zBf] at hM;refine gg 6 rfl ?_;refine zB hM (Rn.condD rfl) (fun h4 hM=>?_) (fun h4 hM=>?_)
 ·refine gg 7 rfl ?_;obtain ⟨p5,e5,hM⟩:=zA4 hM
  refine Rn.c0 (cK func150) (zHr (Z0:=All) e5  :) hm3 fun w5 _ hm6=>?_
  obtain ⟨p7,e7,hM⟩:=zA4 hM
  refine Rn.c0 (cK func200) (zFb (Z0:=All) e7  :) hm6 fun w7 _ hm8=>?_
  refine Rn.q rfl (V.lss rfl rfl) (gg 1 rfl ?_);refine zB hM (Rn.condD rfl) (fun h9 hM=>?_) (fun h9 hM=>?_)
  ·refine gg 5 rfl ?_
   cases hM
   exact Rn.R1 func152 ⟨rfl,hm8.pk []⟩
  ·refine gg 7 rfl ?_;exact hn3 (W64 (y2 + 1)) _ _ sA (hm8.pk []) hM
 ·refine gg 1 rfl ?_;exact hk1 () _ _ (sb trivial) (hm3.pk []) hM
theorem zCk {x0 : UInt64} {x1 : Int} {r : ((List Int) × Bool)} (hM : zAy x0 x1 = some r)  :
    Calls prog 185 #[zAo x0,iv x1] w fun x w'=>∃ A_0_0 c_0_0,x = .returned (.tuple #[.slice A_0_0 (r.1).length c_0_0,.bool (r.2)]) ∧ Hp Z0 No w w' [zBd 3 A_0_0 c_0_0 (zDd .i64) r.1]:=by
 have hm0:=Hp.nil Z0 No w;have hc0:=zD1.nil;refine Rn.en func185 ?_;refine gg 11 rfl ?_;refine Rn.cutR [] [(0,zAo x0),(1,iv x1),(13,.bool (decide ((x1 < 0) ∨ (x1 > 64))))] (fun hk1=>?_) ?_
 ·refine Rn.partD (t:=10) rfl (fun h2=>?_) (fun h2=>?_)
  ·refine gg 3 rfl ?_;exact hk1 _ sA
  ·refine gg 3 rfl ?_;exact hk1 _ sA
 refine gg 1 rfl ?_;refine zB hM (Rn.condD rfl) (fun h3 hM=>?_) (fun h3 hM=>?_)
 ·refine gg 5 rfl ?_;have hm4:=hm0.addNil 3 (zDd .i64)
  cases hM
  exact Rn.R2 func185 ⟨none,0,rfl,hm4.pk [0]⟩
 ·refine gg 10 rfl ?_;refine Rn.jG hm0 hM (G:=UInt64 × (List Int) × Option Addr × Nat) (fun g=>[(0,zAo (g.1)),(6,.slice (g.2.2.1) ((g.2.1)).length (g.2.2.2))]) (fun g=>[zBd 3 (g.2.2.1) (g.2.2.2) (zDd .i64) (g.2.1)]) (fun j g=>j g.1 g.2.1) ?_ ?_
  ·rintro ⟨y6,y7,A8,c8⟩ w10 hm10 hM
   try dsimp only at hM
   refine gg 4 rfl (Rn.q rfl (V.eql rfl rfl) (gg 3 rfl ?_))
   cases hM
   exact Rn.R2 func185 ⟨A8,c8,rfl,hm10.pk [0]⟩
  intro j1 hM hk1;refine gg 1 rfl ?_;have hm16:=hm0.addNil 3 (zDd .i64);refine Rn.loopF (G:=UInt64 × (List Int) × Int × Option Addr × Nat) (fun g=>[(0,zAo (g.1)),(1,iv x1),(6,.slice (g.2.2.2.1) ((g.2.1)).length (g.2.2.2.2)),(7,iv (g.2.2.1))]) (fun g w'=>Hp Z0 No w w' [zBd 3 (g.2.2.2.1) (g.2.2.2.2) (zDd .i64) (g.2.1)]) (fun n g=>zCh x1 j1 n g.1 g.2.1 g.2.2.1) fuel (x0,([] : List Int),0,none,0) sA (hm16.pk [0]) hM (fun _=>rfl) ?_;clear hM;rintro m18 ⟨y11,y12,y15,A13,c13⟩ w18 hm18 hM hn18;replace hM : zCh x1 j1 (m18 + 1) y11 y12 y15 = some r:=hM;rw [zCh] at hM;refine gg 7 rfl ?_;refine zB hM (Rn.condD rfl) (fun h19 hM=>?_) (fun h19 hM=>?_)
  ·refine gg 6 rfl ?_;obtain ⟨z20,e20,hM⟩:=zA4 hM;refine Rn.q rfl (V.rem64 rfl rfl e20) (Rn.q rfl (V.cvW underlying35 underlying3 rfl) (Rn.bslS rfl rfl rfl underlying91 el3 rfl rfl rfl rfl (by first|exact szs rfl|(simp [Value.cells];done)) (by decide) ?_));intro b21 w21 hb21 m21 e21;have hm22:=hm18.addLit (rep:=(zDd .i64)) (xs:=([W64 ((z20).toNat : Int)] : List Int)) (vss:=[[iv (W64 ((z20).toNat : Int))]]) hb21 e21 m21 rfl rfl rfl ((zCq (fun _ _=>⟨rfl,trivial⟩) zMs));refine gg 1 rfl ?_;obtain ⟨z24,e24,hM⟩:=zA4 hM;refine Rn.appH hm22 1 rfl e24 rfl rfl rfl underlying91 el3 rfl rfl rfl rfl (hm22.srcO 0 rfl) ?_;intro A24 c24 w24 hm24;refine gg 4 rfl ?_;obtain ⟨z26,e26,hM⟩:=zA4 hM;refine Rn.q rfl (V.quo64 rfl rfl e26) (gg 8 rfl ?_);exact hn18 (z26,z24,(W64 (y15 + 1)),A24,c24) _ _ sA (hm24.pk [1]) hM
  ·refine gg 1 rfl ?_;exact hk1 (y11,y12,A13,c13) _ _ sA (hm18.pk [0]) hM
theorem zCm {x0 : UInt64} {r : (List Int)} (hM : zAs x0 = some r)  :
    Calls prog 129 #[zAo x0] w fun x w'=>∃ A_0_0 c_0_0,x = .returned (.slice A_0_0 (r).length c_0_0) ∧ Hp Z0 No w w' [zBd 3 A_0_0 c_0_0 (zDd .i64) r]:=by
 have hm0:=Hp.nil Z0 No w;have hc0:=zD1.nil;refine Rn.en func129 ?_;refine gg 7 rfl ?_;obtain ⟨p1,e1,hM⟩:=zA4 hM
 refine Rn.c0 (cK func152) (zKm (Z0:=All) e1  :) hm0 fun w1 _ hm2=>?_
 refine gg 5 rfl (Rn.q rfl (V.cv64 underlying3 underlying35 rfl) ?_);obtain ⟨p3,e3,hM⟩:=zA4 hM
 refine Rn.c2 (cK func185) (zCk (Z0:=All) e3  :) fun A3_0_0 c3_0_0 w3 hq3=>?_
 have hm5:=hm2.callF (flC (zAl (zBe _) _ _ _ _) fl0) hq3;refine gg 10 rfl ?_;obtain ⟨p6,e6,hM⟩:=zA4 hM
 refine Rn.c0 (cK func150) (zHr (Z0:=All) e6  :) hm5 fun w6 _ hm7=>?_
 obtain ⟨p8,e8,hM⟩:=zA4 hM
 refine Rn.c2 (cK func185) (zCk (Z0:=All) e8  :) fun A8_0_0 c8_0_0 w8 hq8=>?_
 have hm10:=hm7.callF (flC (zAl (zBe _) _ _ _ _) fl0) hq8;refine gg 10 rfl ?_;obtain ⟨z11,e11,hM⟩:=zA4 hM;refine Rn.appH hm10 0 rfl e11 rfl rfl rfl underlying91 el3 rfl rfl rfl rfl (hm10.srcO 1 rfl) ?_;intro A11 c11 w11 hm11;refine gg 2 rfl ?_
 cases hM
 exact Rn.R1 func129 ⟨A11,c11,rfl,hm11.pk [0]⟩
theorem zFa {x0 : Int} {r : Int} (hM : zBr x0 = some r)  :
    Calls prog 226 #[iv x0] w fun x w'=>x = .returned (iv r) ∧ Hp Z0 No w w' []:=by
 have hm0:=Hp.nil Z0 No w;have hc0:=zD1.nil;refine Rn.en func226 ?_;refine gg 6 rfl (Rn.bslS rfl rfl rfl underlying91 el3 rfl rfl rfl rfl (by first|exact szs rfl|(simp [Value.cells];done)) (by decide) ?_);intro b1 w1 hb1 m1 e1;have hm2:=hm0.addLit (rep:=(zDd .i64)) (xs:=([0,6,10,16,64] : List Int)) (vss:=[[iv 0],[iv 6],[iv 10],[iv 16],[iv 64]]) hb1 e1 m1 rfl rfl rfl ((zCq (fun _ _=>⟨rfl,trivial⟩) (zCq (fun _ _=>⟨rfl,trivial⟩) (zCq (fun _ _=>⟨rfl,trivial⟩) (zCq (fun _ _=>⟨rfl,trivial⟩) (zCq (fun _ _=>⟨rfl,trivial⟩) zMs))))));refine gg 6 rfl ?_;obtain ⟨z4,e4,hM⟩:=zA4 hM;obtain ⟨kk4,ke4,kz4,kl4⟩:=zHf e4;obtain ⟨vs4,hR4,hrel4⟩:=hm2.ownAtL 0 rfl kz4;obtain ⟨rfl,_⟩:=hrel4;refine Rn.q rfl (V.ixE kk4 underlying91 sizeOf3 rfl rfl ke4 kl4) (Rn.q rfl (V.ldR0 isAgg3 rfl hR4 rfl) (gg 2 rfl ?_))
 cases hM
 exact Rn.R1 func226 ⟨rfl,hm2.pk []⟩
theorem zLj {x0 : Int} {r : Int} (hM : zFz x0 = some r)  :
    Calls prog 227 #[iv x0] w fun x w'=>x = .returned (iv r) ∧ Hp Z0 No w w' []:=by
 have hm0:=Hp.nil Z0 No w;have hc0:=zD1.nil;refine Rn.en func227 ?_;refine gg 10 rfl ?_;refine zB hM (Rn.condD rfl) (fun h1 hM=>?_) (fun h1 hM=>?_)
 ·refine gg 4 rfl ?_
  cases hM
  exact Rn.R1 func227 ⟨rfl,hm0.pk []⟩
 ·refine gg 6 rfl ?_;refine Rn.jG hm0 hM (G:=Unit) (fun g=>[]) (fun g=>[]) (fun j g=>j ()) ?_ ?_
  ·rintro _ w2 hm2 hM
   try dsimp only at hM
   refine gg 4 rfl ?_
   cases hM
   exact Rn.R1 func227 ⟨rfl,hm2.pk []⟩
  intro j1 hM hk1;refine gg 1 rfl ?_;refine Rn.loopF (G:=Int) (fun g=>[(0,iv x0),(3,iv g)]) (fun g w'=>Hp Z0 No w w' []) (fun n g=>zBu x0 j1 n g) fuel 1 sA (hm0.pk []) hM (fun _=>rfl) ?_;clear hM;rintro m4 y3 w4 hm4 hM hn4;replace hM : zBu x0 j1 (m4 + 1) y3 = some r:=hM;rw [zBu] at hM;refine gg 6 rfl ?_;refine zB hM (Rn.condD rfl) (fun h5 hM=>?_) (fun h5 hM=>?_)
  ·refine gg 6 rfl ?_;obtain ⟨p6,e6,hM⟩:=zA4 hM
   refine Rn.c0 (cK func226) (zFa (Z0:=All) e6  :) hm4 fun w6 _ hm7=>?_
   refine gg 1 rfl ?_;obtain ⟨p8,e8,hM⟩:=zA4 hM
   refine Rn.c0 (cK func200) (zFb (Z0:=All) e8  :) hm7 fun w8 _ hm9=>?_
   refine Rn.q rfl (V.cvW underlying35 underlying3 rfl) (gg 9 rfl ?_);refine Rn.cutR [] [(0,iv x0),(3,iv y3),(24,.bool (decide ((x0 ≥ W64 (0 - (W64 ((p8).toNat : Int)))) ∧ (x0 < W64 ((p8).toNat : Int)))))] (fun hk10=>?_) ?_
   ·refine Rn.partD (t:=20) rfl (fun h11=>?_) (fun h11=>?_)
    ·refine gg 4 rfl ?_;exact hk10 _ sA
    ·refine gg 4 rfl ?_;exact hk10 _ sA
   refine gg 1 rfl ?_;refine zB hM (Rn.condD rfl) (fun h12 hM=>?_) (fun h12 hM=>?_)
   ·refine gg 5 rfl ?_
    cases hM
    exact Rn.R1 func227 ⟨rfl,hm9.pk []⟩
   ·refine gg 7 rfl ?_;exact hn4 (W64 (y3 + 1)) _ _ sA (hm9.pk []) hM
  ·refine gg 1 rfl ?_;exact hk1 () _ _ (sb trivial) (hm4.pk []) hM
theorem zKz {x0 : Int} {r : (List Int)} (hM : zE6 x0 = some r)  :
    Calls prog 220 #[iv x0] w fun x w'=>∃ A_0_0 c_0_0,x = .returned (.slice A_0_0 (r).length c_0_0) ∧ Hp Z0 No w w' [zBd 3 A_0_0 c_0_0 (zDd .i64) r]:=by
 have hm0:=Hp.nil Z0 No w;have hc0:=zD1.nil;refine Rn.en func220 ?_;refine gg 7 rfl ?_;obtain ⟨p1,e1,hM⟩:=zA4 hM
 refine Rn.c0 (cK func227) (zLj (Z0:=All) e1  :) hm0 fun w1 _ hm2=>?_
 refine gg 11 rfl ?_;refine Rn.jG hm0 hM (G:=(List Int) × Option Addr × Nat) (fun g=>[(0,iv x0),(3,iv p1),(4,.slice (g.2.1) ((g.1)).length (g.2.2))]) (fun g=>[zBd 3 (g.2.1) (g.2.2) (zDd .i64) (g.1)]) (fun j g=>j g.1) ?_ ?_
 ·rintro ⟨y3,A4,c4⟩ w6 hm6 hM
  try dsimp only at hM
  refine gg 6 rfl ?_;refine Rn.jG hm0 hM (G:=(List Int) × Option Addr × Nat) (fun g=>[(0,iv x0),(3,iv p1),(4,.slice (g.2.1) ((g.1)).length (g.2.2))]) (fun g=>[zBd 3 (g.2.1) (g.2.2) (zDd .i64) (g.1)]) (fun j g=>j g.1) ?_ ?_
  ·rintro ⟨y7,A8,c8⟩ w10 hm10 hM
   try dsimp only at hM
   refine gg 3 rfl (Rn.q rfl (V.cv64 underlying3 underlying35 rfl) (gg 8 rfl ?_));refine Rn.jG hm0 hM (G:=UInt64) (fun g=>[(3,iv p1),(4,.slice A8 (y7).length c8),(6,zAo g)]) (fun g=>[zBd 3 A8 c8 (zDd .i64) y7]) (fun j g=>j g) ?_ ?_
   ·rintro y11 w12 hm12 hM
    try dsimp only at hM
    refine gg 4 rfl ?_;obtain ⟨p13,e13,hM⟩:=zA4 hM
    refine Rn.c0 (cK func226) (zFa (Z0:=All) e13  :) hm12 fun w13 _ hm14=>?_
    obtain ⟨p15,e15,hM⟩:=zA4 hM
    refine Rn.c2 (cK func185) (zCk (Z0:=All) e15  :) fun A15_0_0 c15_0_0 w15 hq15=>?_
    have hm17:=hm14.callF (flC (zAl (zBe _) _ _ _ _) fl0) hq15;refine gg 10 rfl ?_;obtain ⟨z18,e18,hM⟩:=zA4 hM;refine Rn.appH hm17 0 rfl e18 rfl rfl rfl underlying91 el3 rfl rfl rfl rfl (hm17.srcO 1 rfl) ?_;intro A18 c18 w18 hm18;refine gg 2 rfl ?_
    cases hM
    exact Rn.R1 func220 ⟨A18,c18,rfl,hm18.pk [0]⟩
   intro j3 hM hk3;refine zB hM (Rn.condD rfl) (fun h20 hM=>?_) (fun h20 hM=>?_)
   ·refine gg 3 rfl ?_;obtain ⟨p21,e21,hM⟩:=zA4 hM
    refine Rn.c0 (cK func226) (zFa (Z0:=All) e21  :) hm10 fun w21 _ hm22=>?_
    obtain ⟨p23,e23,hM⟩:=zA4 hM
    refine Rn.c0 (cK func200) (zFb (Z0:=All) e23  :) hm22 fun w23 _ hm24=>?_
    obtain ⟨z25,e25,hM⟩:=zA4 hM;refine Rn.q rfl (V.rem64 rfl rfl e25) (gg 2 rfl ?_);exact hk3 z25 _ _ sA (hm24.pk [0]) hM
   ·refine gg 1 rfl ?_;exact hk3 (zAe x0) _ _ sA (hm10.pk [0]) hM
  intro j2 hM hk2;refine zB hM (Rn.condD rfl) (fun h26 hM=>?_) (fun h26 hM=>?_)
  ·refine gg 2 rfl ?_;obtain ⟨z27,e27,hM⟩:=zA4 hM;refine Rn.pushH (z:=0) (vs:=[iv 0]) hm6 0 rfl e27 rfl rfl rfl rfl underlying91 el3 rfl rfl rfl rfl (fun _=>rfl) (⟨rfl,trivial⟩) ?_;intro A27 c27 w27 u27 hm27;refine gg 2 rfl ?_;exact hk2 (z27,A27,c27) _ _ sA (hm27.pk [0]) hM
  ·refine gg 1 rfl ?_;exact hk2 (y3,A4,c4) _ _ sA (hm6.pk [0]) hM
 intro j1 hM hk1;refine gg 1 rfl ?_;have hm33:=hm2.addNil 3 (zDd .i64);refine Rn.loopF (G:=(List Int) × Int × Option Addr × Nat) (fun g=>[(0,iv x0),(3,iv p1),(4,.slice (g.2.2.1) ((g.1)).length (g.2.2.2)),(5,iv (g.2.1))]) (fun g w'=>Hp Z0 No w w' [zBd 3 (g.2.2.1) (g.2.2.2) (zDd .i64) (g.1)]) (fun n g=>zCd p1 j1 n g.1 g.2.1) fuel (([] : List Int),0,none,0) sA (hm33.pk [0]) hM (fun _=>rfl) ?_;clear hM;rintro m35 ⟨y29,y32,A30,c30⟩ w35 hm35 hM hn35;replace hM : zCd p1 j1 (m35 + 1) y29 y32 = some r:=hM;rw [zCd] at hM;refine gg 7 rfl ?_;refine zB hM (Rn.condD rfl) (fun h36 hM=>?_) (fun h36 hM=>?_)
 ·refine gg 5 rfl ?_;obtain ⟨z37,e37,hM⟩:=zA4 hM;refine Rn.pushH (z:=1) (vs:=[iv 1]) hm35 0 rfl e37 rfl rfl rfl rfl underlying91 el3 rfl rfl rfl rfl (fun _=>rfl) (⟨rfl,trivial⟩) ?_;intro A37 c37 w37 u37 hm37;refine gg 8 rfl ?_;exact hn35 (z37,(W64 (y32 + 1)),A37,c37) _ _ sA (hm37.pk [0]) hM
 ·refine gg 1 rfl ?_;exact hk1 (y29,A30,c30) _ _ sA (hm35.pk [0]) hM
theorem zI {x0 : (List Int)} {r : (List Int)} (hM : zEj x0 = some r) (f0 : (slR A0 c0 (zDd .i64) x0).H Z0 w) :
    Calls prog 184 #[.slice A0 (x0).length c0] w fun x w'=>∃ A_0_0 c_0_0,x = .returned (.slice A_0_0 (r).length c_0_0) ∧ Hp Z0 No w w' [zBd 3 A_0_0 c_0_0 (zDd .i64) r]:=by
 have hm0:=Hp.nil Z0 No w;have hc0:=zD1.nil;have hm2:=hm0.know (slR A0 c0 (zDd .i64) x0) (fun _ h=>h) (hm0.in0 hc0 f0);replace hc0:=hc0.snoc (r:=slR A0 c0 (zDd .i64) x0) (fun _ h=>h);refine Rn.en func184 ?_;refine gg 13 rfl ?_;refine Rn.jG hm0 hM (G:=(List Int) × Option Addr × Nat) (fun g=>[(3,.slice (g.2.1) ((g.1)).length (g.2.2))]) (fun g=>[zBd 3 (g.2.1) (g.2.2) (zDd .i64) (g.1)]) (fun j g=>j g.1) ?_ ?_
 ·rintro ⟨y3,A4,c4⟩ w6 hm6 hM
  try dsimp only at hM
  refine gg 5 rfl ?_
  cases hM
  exact Rn.R1 func184 ⟨A4,c4,rfl,hm6.pk [0]⟩
 intro j1 hM hk1;refine gg 1 rfl ?_;have hm11:=hm2.addNil 3 (zDd .i64);refine Rn.loopF (G:=(List Int) × Int × Option Addr × Nat) (fun g=>[(0,.slice A0 (x0).length c0),(3,.slice (g.2.2.1) ((g.1)).length (g.2.2.2)),(4,iv (g.2.1))]) (fun g w'=>Hp Z0 No w w' [slR A0 c0 (zDd .i64) x0,zBd 3 (g.2.2.1) (g.2.2.2) (zDd .i64) (g.1)]) (fun n g=>zBk x0 j1 n g.1 g.2.1) fuel (([] : List Int),0,none,0) sA (hm11.pk [0,1]) hM (fun _=>rfl) ?_;clear hM;rintro m13 ⟨y7,y10,A8,c8⟩ w13 hm13 hM hn13;replace hM : zBk x0 j1 (m13 + 1) y7 y10 = some r:=hM;rw [zBk] at hM;refine gg 5 rfl (Rn.q rfl (V.lenV underlying91 rfl) (gg 2 rfl ?_));refine zB hM (Rn.condD rfl) (fun h14 hM=>?_) (fun h14 hM=>?_)
 ·refine gg 7 rfl ?_;refine Rn.jG hm0 hM (G:=(List Int) × Option Addr × Nat) (fun g=>[(0,.slice A0 (x0).length c0),(3,.slice (g.2.1) ((g.1)).length (g.2.2)),(4,iv y10)]) (fun g=>[slR A0 c0 (zDd .i64) x0,zBd 3 (g.2.1) (g.2.2) (zDd .i64) (g.1)]) (fun j g=>j g.1) ?_ ?_
  ·rintro ⟨y15,A16,c16⟩ w18 hm18 hM
   try dsimp only at hM
   refine gg 6 rfl ?_;exact hn13 (y15,(W64 (y10 + 1)),A16,c16) _ _ sA (hm18.pk [0,1]) hM
  intro j2 hM hk2;refine gg 6 rfl ?_;refine zB hM (Rn.condD rfl) (fun h19 hM=>?_) (fun h19 hM=>?_)
  ·refine gg 3 rfl ?_;obtain ⟨z20,e20,hM⟩:=zA4 hM;refine Rn.ixH hm13 0 rfl e20 rfl rfl rfl underlying91 sizeOf3 rfl rfl rfl rfl ?_;rintro b20 o20 vs20 ⟨rfl,_⟩ hm20;refine Rn.q rfl (V.ldR0 isAgg3 rfl (hm20.get 2 rfl).2 rfl) ?_;obtain ⟨p22,e22,hM⟩:=zA4 hM
   refine Rn.c0 (cK func187) (zEd (Z0:=All) e22  :) hm20 fun w22 _ hm23=>?_
   obtain ⟨p24,e24,hM⟩:=zA4 hM
   refine Rn.c2 (cK func129) (zCm (Z0:=All) e24  :) fun A24_0_0 c24_0_0 w24 hq24=>?_
   have hm26:=hm23.callF (flC (zAl (zBe _) _ _ _ _) fl0) hq24;obtain ⟨z27,e27,hM⟩:=zA4 hM;refine Rn.appH hm26 1 rfl e27 rfl rfl rfl underlying91 el3 rfl rfl rfl rfl (hm26.srcO 3 rfl) ?_;intro A27 c27 w27 hm27;refine gg 3 rfl ?_;exact hk2 (z27,A27,c27) _ _ sA (hm27.pk [0,1]) hM
  ·refine gg 5 rfl ?_;refine zB hM (Rn.condD rfl) (fun h29 hM=>?_) (fun h29 hM=>?_)
   ·refine Rn.drawK 13 rfl hm13 (by kernel_rfl) ?_;intro w30 hm30;refine dq [0,1] ?_;obtain ⟨z31,e31,hM⟩:=zA4 hM;obtain ⟨kk31,ke31,kz31,kl31⟩:=zHf e31;obtain ⟨b31,o31,vs31,hA31,hD31,hR31,hrel31⟩:=Hp.at hm30 0 rfl kz31;obtain ⟨rfl,_⟩:=hrel31;have hm33:=Hp.knowL [rdR b31 (o31 + kk31 * 1) [iv z31]] _ hm30 (knC (fun _ h=>h) ⟨fun _=>hD31,hR31⟩ kn0);refine RH.tk 2 rfl (fun w' hDr=>V.ixA' hA31 kk31 underlying91 sizeOf3 rfl rfl ke31 kl31) ?_;refine RH.tk 3 rfl (fun w' hDr=>V.ldR0 isAgg3 rfl ((hm33.ext hDr).get 2 rfl).2 rfl) ?_;refine RH.tk 4 rfl (fun w' hDr=>V.cv64 underlying3 underlying35 rfl) ?_;refine dq [5] ?_;obtain ⟨z34,e34,hM⟩:=zA4 hM;obtain ⟨kk34,ke34,kz34,kl34⟩:=zHf e34;obtain ⟨b34,o34,vs34,hA34,hD34,hR34,hrel34⟩:=Hp.at hm33 0 rfl kz34;obtain ⟨rfl,_⟩:=hrel34;have hm36:=Hp.knowL [rdR b34 (o34 + kk34 * 1) [iv z34]] _ hm33 (knC (fun _ h=>h) ⟨fun _=>hD34,hR34⟩ kn0)
    refine RH.here fun hS6=>RH.on 6 rfl (V.ixA' hA34 kk34 underlying91 sizeOf3 rfl rfl ke34 kl34) hS6 ?_
    refine RH.here fun hS7=>RH.on 7 rfl (V.ldR0 isAgg3 rfl (hm36.get 3 rfl).2 rfl) hS7 ?_
    refine RH.here fun hS8=>RH.on 8 rfl (V.cv64 underlying3 underlying35 rfl) hS8 ?_
    refine RH.here fun hS9=>RH.on 9 rfl (V.ari64 (a:=zAe z31) (b:=zAe z34) rfl rfl _ rfl (zH4 _ _)) hS9 ?_
    refine RH.here fun hS10=>RH.on 10 rfl (V.cvW underlying35 underlying3 rfl) hS10 ?_
    obtain ⟨p37,e37,hM⟩:=zA4 hM;refine RH.cq (cK func187) 11 (zEd (Z0:=All) e37  :) ?_;rintro _ w37 ⟨rfl,hq37⟩;refine ⟨_,rfl,((Ext.refl _).trans hq37.fr),?_⟩;have hm38:=hm36.call0 hq37;obtain ⟨p39,e39,hM⟩:=zA4 hM;refine RH.cq (cK func129) 12 (zCm (Z0:=All) e39  :) ?_;rintro _ w39 ⟨A39_0_0,c39_0_0,rfl,hq39⟩;refine ⟨_,rfl,(((Ext.refl _).trans hq37.fr).trans hq39.fr),?_⟩;have hm41:=hm38.callF (flC (zAl (zBe _) _ _ _ _) fl0) hq39;refine RG.tailK (by kernel_rfl) ?_;obtain ⟨z42,e42,hM⟩:=zA4 hM;refine RH.appH 13 (by kernel_rfl) hm41 1 rfl e42 rfl rfl rfl underlying91 el3 rfl rfl rfl rfl (hm41.srcO 4 rfl) ?_;intro A42 c42 w42 hm42;refine ⟨trivial,?_⟩;refine dq [14] ?_;refine RH.doneP (by kernel_rfl) ?_;refine gg 1 rfl ?_;exact hk2 (z42,A42,c42) _ _ sA (hm42.pk [0,1]) hM
   ·refine Rn.drawK 23 rfl hm13 (by kernel_rfl) ?_;intro w44 hm44;refine dq [0,1,2] ?_;obtain ⟨z45,e45,hM⟩:=zA4 hM;obtain ⟨kk45,ke45,kz45,kl45⟩:=zHf e45;obtain ⟨b45,o45,vs45,hA45,hD45,hR45,hrel45⟩:=Hp.at hm44 0 rfl kz45;obtain ⟨rfl,_⟩:=hrel45;have hm47:=Hp.knowL [rdR b45 (o45 + kk45 * 1) [iv z45]] _ hm44 (knC (fun _ h=>h) ⟨fun _=>hD45,hR45⟩ kn0);refine RH.tk 3 rfl (fun w' hDr=>V.ixA' hA45 kk45 underlying91 sizeOf3 rfl rfl ke45 kl45) ?_;refine RH.tk 4 rfl (fun w' hDr=>V.ldR0 isAgg3 rfl ((hm47.ext hDr).get 2 rfl).2 rfl) ?_;refine RH.tk 5 rfl (fun w' hDr=>V.cv64 underlying3 underlying35 rfl) ?_;refine dq [6,7,8] ?_;obtain ⟨z48,e48,hM⟩:=zA4 hM;obtain ⟨kk48,ke48,kz48,kl48⟩:=zHf e48;obtain ⟨b48,o48,vs48,hA48,hD48,hR48,hrel48⟩:=Hp.at hm47 0 rfl kz48;obtain ⟨rfl,_⟩:=hrel48;have hm50:=Hp.knowL [rdR b48 (o48 + kk48 * 1) [iv z48]] _ hm47 (knC (fun _ h=>h) ⟨fun _=>hD48,hR48⟩ kn0);refine RH.tk 9 rfl (fun w' hDr=>V.ixA' hA48 kk48 underlying91 sizeOf3 rfl rfl ke48 kl48) ?_;refine RH.tk 10 rfl (fun w' hDr=>V.ldR0 isAgg3 rfl ((hm50.ext hDr).get 3 rfl).2 rfl) ?_;refine RH.tk 11 rfl (fun w' hDr=>V.cv64 underlying3 underlying35 rfl) ?_;refine RH.tk 12 rfl (fun w' hDr=>V.ari64 (a:=(2 : UInt64)) (b:=zAe z48) rfl rfl _ rfl (zLm _ _)) ?_;refine RH.tk 13 rfl (fun w' hDr=>V.ari64 (a:=zAe z45) (b:=(2 : UInt64) * (zAe z48)) rfl rfl _ rfl (zH4 _ _)) ?_;refine dq [14,15,16] ?_;obtain ⟨z51,e51,hM⟩:=zA4 hM;obtain ⟨kk51,ke51,kz51,kl51⟩:=zHf e51;obtain ⟨b51,o51,vs51,hA51,hD51,hR51,hrel51⟩:=Hp.at hm50 0 rfl kz51;obtain ⟨rfl,_⟩:=hrel51;have hm53:=Hp.knowL [rdR b51 (o51 + kk51 * 1) [iv z51]] _ hm50 (knC (fun _ h=>h) ⟨fun _=>hD51,hR51⟩ kn0)
    refine RH.here fun hS17=>RH.on 17 rfl (V.ixA' hA51 kk51 underlying91 sizeOf3 rfl rfl ke51 kl51) hS17 ?_
    refine RH.here fun hS18=>RH.on 18 rfl (V.ldR0 isAgg3 rfl (hm53.get 4 rfl).2 rfl) hS18 ?_
    refine RH.here fun hS19=>RH.on 19 rfl (V.cv64 underlying3 underlying35 rfl) hS19 ?_
    refine RH.here fun hS20=>RH.on 20 rfl (V.ari64 (a:=(zAe z45) - ((2 : UInt64) * (zAe z48))) (b:=zAe z51) rfl rfl _ rfl (zOc _ _)) hS20 ?_
    refine RH.here fun hS21=>RH.on 21 rfl (V.cvW underlying35 underlying3 rfl) hS21 ?_
    obtain ⟨p54,e54,hM⟩:=zA4 hM;refine RH.cq (cK func220) 22 (zKz (Z0:=All) e54  :) ?_;rintro _ w54 ⟨A54_0_0,c54_0_0,rfl,hq54⟩;refine ⟨_,rfl,((Ext.refl _).trans hq54.fr),?_⟩;have hm56:=hm53.callF (flC (zAl (zBe _) _ _ _ _) fl0) hq54;refine RG.tailK (by kernel_rfl) ?_;obtain ⟨z57,e57,hM⟩:=zA4 hM;refine RH.appH 23 (by kernel_rfl) hm56 1 rfl e57 rfl rfl rfl underlying91 el3 rfl rfl rfl rfl (hm56.srcO 5 rfl) ?_;intro A57 c57 w57 hm57;refine ⟨trivial,?_⟩;refine dq [24] ?_;refine RH.doneP (by kernel_rfl) ?_;refine gg 1 rfl ?_;exact hk2 (z57,A57,c57) _ _ sA (hm57.pk [0,1]) hM
 ·refine gg 1 rfl ?_;exact hk1 (y7,A8,c8) _ _ sA (hm13.pk [1]) hM
theorem zE0 {x0 : (List Int)} {x1 : Int} {r : (List Int)} (hM : zBn x0 x1 = some r) (f0 : (slR A0 c0 (zDd .i64) x0).H Z0 w) :
    Calls prog 128 #[.slice A0 (x0).length c0,iv x1] w fun x w'=>∃ F_0 A_0 c_0,x = .returned (.slice A_0 (r).length c_0) ∧ Hp Z0 No w w' [roR F_0 A_0 c_0 (zDd .i64) r]:=by
 have hm0:=Hp.nil Z0 No w;have hc0:=zD1.nil;have hm2:=hm0.know (slR A0 c0 (zDd .i64) x0) (fun _ h=>h) (hm0.in0 hc0 f0);replace hc0:=hc0.snoc (r:=slR A0 c0 (zDd .i64) x0) (fun _ h=>h);refine Rn.en func128 ?_;refine gg 7 rfl ?_;obtain ⟨p3,e3,hM⟩:=zA4 hM
 refine Rn.c2 (cK func184) (zI (Z0:=All) e3 (zA1 (hm2.get 0 rfl)) :) fun A3_0_0 c3_0_0 w3 hq3=>?_
 have hm5:=hm2.callF (flC (zAl (zBe _) _ _ _ _) fl0) hq3;refine gg 10 rfl ?_;have hm7:=hm5.addNil 3 (zDd .i64);obtain ⟨z6,e6,hM⟩:=zA4 hM;refine Rn.appH hm7 2 rfl e6 rfl rfl rfl underlying91 el3 rfl rfl rfl rfl (hm7.src 0 rfl) ?_;intro A6 c6 w6 hm6;refine gg 6 rfl ?_;obtain ⟨z10,e10,hM⟩:=zA4 hM;refine Rn.pushH (z:=x1) (vs:=[iv x1]) hm6 2 rfl e10 rfl rfl rfl rfl underlying91 el3 rfl rfl rfl rfl (fun _=>rfl) (⟨rfl,trivial⟩) ?_;intro A10 c10 w10 u10 hm10;obtain ⟨p12,e12,hM⟩:=zA4 hM
 refine Rn.c2 (cK func184) (zI (Z0:=All) e12 (zD9 (hm10.get 2 rfl)) :) fun A12_0_0 c12_0_0 w12 hq12=>?_
 have hm14:=hm10.callF (flC (zAl (zBe _) _ _ _ _) fl0) hq12;refine gg 1 rfl (Rn.q rfl (V.lenV underlying91 rfl) ?_);obtain ⟨z15,e15,hM⟩:=zA4 hM;refine Rn.cutRo (zBe _) hm14 3 rfl e15 rfl rfl rfl underlying91 sizeOf3 rfl rfl rfl rfl rfl ?_;intro F15 A15 c15 hm15;have hm17:=hm15.nq;refine gg 2 rfl ?_
 cases hM
 exact Rn.R1 func128 ⟨F15,A15,c15,rfl,hm17.pk [3]⟩
theorem zHy {x0 : UInt64} {r : (List Int)} (hM : zEi x0 = some r)  :
    Calls prog 221 #[zAo x0] w fun x w'=>∃ A_0_0 c_0_0,x = .returned (.slice A_0_0 (r).length c_0_0) ∧ Hp Z0 No w w' [zBd 3 A_0_0 c_0_0 (zDd .i64) r]:=by
 have hm0:=Hp.nil Z0 No w;have hc0:=zD1.nil;refine Rn.en func221 ?_;refine gg 7 rfl ?_;obtain ⟨p1,e1,hM⟩:=zA4 hM
 refine Rn.c2 (cK func185) (zCk (Z0:=All) e1  :) fun A1_0_0 c1_0_0 w1 hq1=>?_
 have hm3:=hm0.callF (flC (zAl (zBe _) _ _ _ _) fl0) hq1;refine gg 11 rfl ?_
 cases hM
 exact Rn.R1 func221 ⟨A1_0_0,c1_0_0,rfl,hm3.pk [0]⟩
theorem zE1 {x0 : zAc} {x1 : UInt64} {x2 : zAj} {r : zAc} (hM : zD0 x0 x1 x2 = some r) (h0 : zAc.rep.rel Z0 w cs0 x0) :
    Calls prog 201 #[.agg cs0.toArray,zAo x1,.agg [iv x2.From,iv x2.Size].toArray] w fun x w'=>∃ A_0_0 c_0_0,x = .returned (.agg [.slice A_0_0 (r.L).length c_0_0,iv r.W.From,iv r.W.Size].toArray) ∧ Hp Z0 No w w' [zBd 35 A_0_0 c_0_0 zAp r.L]:=by
 have hm0:=Hp.nil Z0 No w;have hc0:=zD1.nil;obtain ⟨Ar1,cr1,rfl,fs1⟩:=zAc.relE h0;have hm3:=hm0.know (slR Ar1 cr1 zAp x0.L) (fun _ h=>h) (hm0.in0 hc0 fs1);replace hc0:=hc0.snoc (r:=slR Ar1 cr1 zAp x0.L) (fun _ h=>h);refine Rn.en func201 ?_;refine gg 2 rfl (Rn.box rfl rfl rfl rfl rfl ?_);intro b4 w4 hb4 m4 e4;have hm6:=(hm3.addBox hb4 e4 m4).nf [_,zAr _ _ [_,_,_]] rfl;refine Rn.box rfl rfl rfl rfl rfl ?_;intro b7 w7 hb7 m7 e7;have hm9:=(hm6.addBox hb7 e7 m7).nf [_,_,zAr _ _ [_,_]] rfl;refine Rn.alloc rfl rfl rfl Tryz.zeroValue96 rfl ?_;intro b10 w10 hb10 m10 e10;have hm12:=(hm9.addBox hb10 e10 m10).nf [_,_,_,zAr _ _ [_,_,_]] rfl;refine gg 9 rfl (Rn.q rfl (V.ldB isAgg36 rfl (hm12.get 1 rfl) rfl) ?_);have hm14:=hm12.addNil 35 zAp;obtain ⟨z13,e13,hM⟩:=zA4 hM;refine Rn.appH hm14 4 rfl e13 rfl rfl rfl underlying36 zU1 rfl rfl rfl rfl (hm14.src 0 rfl) ?_;intro A13 c13 w13 hm13;refine gg 3 rfl ?_;have hm19:=(hm13.cutF [1,2] [3,4] [0] rfl (by decide) ⟨fun _ h=>h,trivial⟩).nf ([_,_,_] ++ [_,_,_]) rfl;refine Rn.drawF rfl hm19 ?_;intro w20 hmo20 hm20;refine dq [0,1] ?_;refine RH.tk 4 rfl (fun w' hDr=>V.ldBA [_,_] isAgg94 sizeOf94 rfl ((hmo20.awayK hDr).get 1 rfl) rfl rfl) ?_;refine RH.bslS 2 (by kernel_rfl) rfl rfl rfl underlying36 zU1 rfl rfl rfl rfl (by first|exact szs rfl|(simp [Value.cells];done)) (by decide) ?_;intro b21 w21 hb21 m21 e21;have hm22:=hm20.addLit (rep:=zAp) (xs:=([x1] : List UInt64)) (vss:=[[zAo x1]]) hb21 e21 m21 rfl rfl rfl ((zCq (fun _ _=>⟨rfl,trivial⟩) zMs));refine ⟨hm22.fr,?_⟩;obtain ⟨z24,e24,hM⟩:=zA4 hM;refine RH.appH 3 (by kernel_rfl) hm22 1 rfl e24 rfl rfl rfl underlying36 zU1 rfl rfl rfl rfl (hm22.srcO 3 rfl) ?_;intro A24 c24 w24 hm24;refine ⟨hm24.fr,?_⟩
 refine RH.here fun hS5=>RH.on 5 rfl (V.bldS (cs:=[_,_,_]) st96 rfl rfl) hS5 ?_
 refine RH.st 6 (by kernel_rfl) rfl rfl sizeOf96 rfl rfl rfl rfl (by first|exact zN1 rfl|(simp [Value.oneCell'];done)) (hm24.get 0 rfl) (by first|exact nbl rfl|(simp;done)) ?_;intro w26 m26 x26;have hm27:=(hm24.st 0 rfl x26 m26).nf [zAr _ _ [_,_,_],_,_,_] rfl;refine ⟨hm27.fr,?_⟩;refine RH.doneP (by kernel_rfl) ?_;have hm28:=hmo20.callAZ hm27;have hm29:=(hm28.pk [0,1,3,4,5,6]).nq;refine Rn.retG1 func201 rfl (rvC rfl isAgg96 sizeOf96 (hm29.get 2 rfl) rfl) ?_;obtain rfl:=zFu hM;exact ⟨A24,c24,rfl,hm29.pk [3]⟩
theorem zHq {x0 : zAc} {r : UInt64} (hM : zE4 x0 = some r) (h0 : zAc.rep.rel Z0 w cs0 x0) :
    Calls prog 202 #[.agg cs0.toArray] w fun x w'=>x = .returned (zAo r) ∧ Hp Z0 No w w' []:=by
 have hm0:=Hp.nil Z0 No w;have hc0:=zD1.nil;obtain ⟨Ar1,cr1,rfl,fs1⟩:=zAc.relE h0;have hm3:=hm0.know (slR Ar1 cr1 zAp x0.L) (fun _ h=>h) (hm0.in0 hc0 fs1);replace hc0:=hc0.snoc (r:=slR Ar1 cr1 zAp x0.L) (fun _ h=>h);refine Rn.en func202 ?_;refine gg 2 rfl (Rn.box rfl rfl rfl rfl rfl ?_);intro b4 w4 hb4 m4 e4;have hm6:=(hm3.addBox hb4 e4 m4).nf [_,zAr _ _ [_,_,_]] rfl;refine gg 6 rfl (Rn.q rfl (V.ldB isAgg36 rfl (hm6.get 1 rfl) rfl) (Rn.q rfl (V.lenV underlying36 rfl) (gg 2 rfl ?_)));refine zB hM (Rn.condD rfl) (fun h7 hM=>?_) (fun h7 hM=>?_)
 ·refine gg 4 rfl ?_
  cases hM
  exact Rn.R1 func202 ⟨rfl,hm6.pk []⟩
 ·refine gg 4 rfl (Rn.q rfl (V.ldB isAgg36 rfl (hm6.get 1 rfl) rfl) (gg 1 rfl (Rn.q rfl (V.ldB isAgg36 rfl (hm6.get 1 rfl) rfl) (Rn.q rfl (V.lenV underlying36 rfl) (gg 1 rfl ?_)))));obtain ⟨z8,e8,hM⟩:=zA4 hM;refine Rn.ixH hm6 0 rfl e8 rfl rfl rfl underlying36 sizeOf35 rfl rfl rfl rfl ?_;rintro b8 o8 vs8 ⟨rfl,_⟩ hm8;refine Rn.q rfl (V.ldR0 isAgg35 rfl (hm8.get 2 rfl).2 rfl) (gg 2 rfl ?_)
  cases hM
  exact Rn.R1 func202 ⟨rfl,hm8.pk []⟩
theorem zLy {x0 : (List Int)} {x1 : zAj} {r : Bool} (hM : zGb x0 x1 = some r) (f0 : (slR A0 c0 (zDd .i64) x0).H Z0 w) :
    Calls prog 222 #[.slice A0 (x0).length c0,.agg [iv x1.From,iv x1.Size].toArray] w fun x w'=>x = .returned (.bool (r)) ∧ Hp Z0 No w w' []:=by
 have hm0:=Hp.nil Z0 No w;have hc0:=zD1.nil;have hm2:=hm0.know (slR A0 c0 (zDd .i64) x0) (fun _ h=>h) (hm0.in0 hc0 f0);replace hc0:=hc0.snoc (r:=slR A0 c0 (zDd .i64) x0) (fun _ h=>h);refine Rn.en func222 ?_;refine gg 2 rfl (Rn.box rfl rfl rfl rfl rfl ?_);intro b3 w3 hb3 m3 e3;have hm5:=(hm2.addBox hb3 e3 m3).nf [_,zAr _ _ [_,_]] rfl;refine gg 7 rfl ?_;refine Rn.jG hm0 hM (G:=Unit) (fun g=>[(3,pt b3 0)]) (fun g=>[zAr b3 94 [iv x1.From,iv x1.Size]]) (fun j g=>j ()) ?_ ?_
 ·rintro _ w6 hm6 hM
  try dsimp only at hM
  refine gg 3 rfl (Rn.q rfl (V.ldB isAgg3 rfl (hm6.get 0 rfl) rfl) (gg 3 rfl ?_))
  cases hM
  exact Rn.R1 func222 ⟨rfl,hm6.pk []⟩
 intro j1 hM hk1;refine gg 1 rfl ?_;refine Rn.loopF (G:=Int) (fun g=>[(0,.slice A0 (x0).length c0),(3,pt b3 0),(5,iv g)]) (fun g w'=>Hp Z0 No w w' [slR A0 c0 (zDd .i64) x0,zAr b3 94 [iv x1.From,iv x1.Size]]) (fun n g=>zCb x0 x1 j1 n g) fuel 0 sA (hm5.pk [0,1]) hM (fun _=>rfl) ?_;clear hM;rintro m8 y7 w8 hm8 hM hn8;replace hM : zCb x0 x1 j1 (m8 + 1) y7 = some r:=hM;rw [zCb] at hM;refine gg 6 rfl ?_;refine zB hM (Rn.condD rfl) (fun h9 hM=>?_) (fun h9 hM=>?_)
 ·refine gg 7 rfl ?_;obtain ⟨z10,e10,hM⟩:=zA4 hM;refine Rn.ixH hm8 0 rfl e10 rfl rfl rfl underlying91 sizeOf3 rfl rfl rfl rfl ?_;rintro b10 o10 vs10 ⟨rfl,_⟩ hm10;refine Rn.q rfl (V.ldR0 isAgg3 rfl (hm10.get 2 rfl).2 rfl) (gg 2 rfl ?_);refine Rn.jR hm0 hM (G:=Bool) [] (fun g=>[(0,.slice A0 (x0).length c0),(3,pt b3 0),(5,iv y7),(29,.bool (g))]) (fun g=>[slR A0 c0 (zDd .i64) x0,zAr b3 94 [iv x1.From,iv x1.Size]]) (fun j g=>j g) ?_ ?_
  ·rintro y12 w13 hm13 hM
   try dsimp only at hM
   refine gg 1 rfl ?_;refine zGt hM (Rn.condS rfl) (fun h14 hM=>?_) (fun h14 hM=>?_)
   ·refine gg 4 rfl ?_
    cases hM
    exact Rn.R1 func222 ⟨rfl,hm13.pk []⟩
   ·refine gg 7 rfl ?_;exact hn8 (W64 (y7 + 1)) _ _ sA (hm13.pk [0,1]) hM
  intro j2 hM hk2;refine zB hM (Rn.partD (t:=15) rfl) (fun h15 hM=>?_) (fun h15 hM=>?_)
  ·refine gg 2 rfl (Rn.q rfl (V.ldB isAgg3 rfl (hm10.get 1 rfl) rfl) (gg 2 rfl ?_));refine Rn.jR hm0 hM (G:=Bool) [19] (fun g=>[(0,.slice A0 (x0).length c0),(3,pt b3 0),(5,iv y7),(15,.bool true),(28,.bool (g))]) (fun g=>[slR A0 c0 (zDd .i64) x0,zAr b3 94 [iv x1.From,iv x1.Size]]) (fun j g=>j g) ?_ ?_
   ·rintro y16 w17 hm17 hM
    try dsimp only at hM
    refine gg 1 rfl ?_;exact hk2 y16 _ _ sA (hm17.pk [0,1]) hM
   intro j3 hM hk3;refine zB hM (Rn.partD (t:=20) rfl) (fun h18 hM=>?_) (fun h18 hM=>?_)
   ·refine gg 8 rfl ?_;exact hk3 true _ _ sA (hm10.pk [0,1]) hM
   ·refine gg 2 rfl (Rn.q rfl (V.ldB isAgg3 rfl (hm10.get 1 rfl) rfl) (gg 1 rfl (Rn.q rfl (V.ldB isAgg3 rfl (hm10.get 1 rfl) rfl) (gg 3 rfl ?_))));exact hk3 (decide (y7 ≥ W64 (x1.From + x1.Size))) _ _ sA (hm10.pk [0,1]) hM
  ·refine gg 14 rfl ?_;exact hk2 false _ _ sA (hm10.pk [0,1]) hM
 ·refine gg 1 rfl ?_;exact hk1 () _ _ sA (hm8.pk [1]) hM
theorem zK3 {x0 : (List Int)} {r : zAj} (hM : zEo x0 = some r) (f0 : (slR A0 c0 (zDd .i64) x0).H Z0 w) :
    Calls prog 223 #[.slice A0 (x0).length c0] w fun x w'=>x = .returned (.agg [iv r.From,iv r.Size].toArray) ∧ Hp Z0 No w w' []:=by
 have hm0:=Hp.nil Z0 No w;have hc0:=zD1.nil;have hm2:=hm0.know (slR A0 c0 (zDd .i64) x0) (fun _ h=>h) (hm0.in0 hc0 f0);replace hc0:=hc0.snoc (r:=slR A0 c0 (zDd .i64) x0) (fun _ h=>h);refine Rn.en func223 ?_;refine gg 2 rfl (Rn.alloc rfl rfl rfl Tryz.zeroValue94 rfl ?_);intro b3 w3 hb3 m3 e3;have hm5:=(hm2.addBox hb3 e3 m3).nf [_,zAr _ _ [_,_]] rfl;refine gg 6 rfl ?_;refine Rn.jG hm0 hM (G:=Int) (fun g=>[(0,.slice A0 (x0).length c0),(2,pt b3 0),(3,iv g)]) (fun g=>[slR A0 c0 (zDd .i64) x0,zAr b3 94 [iv 0,iv 0]]) (fun j g=>j g) ?_ ?_
 ·rintro y6 w7 hm7 hM
  try dsimp only at hM
  refine gg 5 rfl ?_;refine Rn.jG hm0 hM (G:=Int) (fun g=>[(2,pt b3 0),(3,iv y6),(4,iv g)]) (fun g=>[zAr b3 94 [iv 0,iv 0]]) (fun j g=>j g) ?_ ?_
  ·rintro y8 w9 hm9 hM
   try dsimp only at hM
   refine gg 6 rfl (Rn.q rfl (V.bldS (cs:=[_,_]) st94 rfl rfl) (Rn.sq rfl sizeOf94 rfl rfl (hm9.get 0 rfl) ?_));intro w10 m10 x10;have hm11:=(hm9.st 0 rfl x10 m10).nf [zAr _ _ [_,_]] rfl;refine gg 1 rfl ?_;refine Rn.retG1 func223 rfl (rvC rfl isAgg94 sizeOf94 (hm11.get 0 rfl) rfl) ?_;obtain rfl:=zFu hM;exact ⟨rfl,hm11.pk []⟩
  intro j2 hM hk2;refine gg 1 rfl ?_;refine Rn.loopF (G:=Int) (fun g=>[(0,.slice A0 (x0).length c0),(2,pt b3 0),(3,iv y6),(4,iv g)]) (fun g w'=>Hp Z0 No w w' [slR A0 c0 (zDd .i64) x0,zAr b3 94 [iv 0,iv 0]]) (fun n g=>zC1 x0 y6 j2 n g) fuel 64 sA (hm7.pk [0,1]) hM (fun _=>rfl) ?_;clear hM;rintro m13 y12 w13 hm13 hM hn13;replace hM : zC1 x0 y6 j2 (m13 + 1) y12 = some r:=hM;rw [zC1] at hM;refine gg 7 rfl ?_;refine Rn.jR hm0 hM (G:=Bool) [] (fun g=>[(0,.slice A0 (x0).length c0),(2,pt b3 0),(3,iv y6),(4,iv y12),(26,.bool (g))]) (fun g=>[slR A0 c0 (zDd .i64) x0,zAr b3 94 [iv 0,iv 0]]) (fun j g=>j g) ?_ ?_
  ·rintro y14 w15 hm15 hM
   try dsimp only at hM
   refine gg 1 rfl ?_;refine zGt hM (Rn.condS rfl) (fun h16 hM=>?_) (fun h16 hM=>?_)
   ·refine gg 8 rfl ?_;exact hn13 (W64 (y12 - 1)) _ _ sA (hm15.pk [0,1]) hM
   ·refine gg 1 rfl ?_;exact hk2 y12 _ _ sA (hm15.pk [1]) hM
  intro j3 hM hk3;refine zB hM (Rn.partD (t:=19) rfl) (fun h17 hM=>?_) (fun h17 hM=>?_)
  ·refine gg 3 rfl ?_;obtain ⟨z18,e18,hM⟩:=zA4 hM;refine Rn.ixH hm13 0 rfl e18 rfl rfl rfl underlying91 sizeOf3 rfl rfl rfl rfl ?_;rintro b18 o18 vs18 ⟨rfl,_⟩ hm18;refine Rn.q rfl (V.ldR0 isAgg3 rfl (hm18.get 2 rfl).2 rfl) (gg 2 rfl ?_);exact hk3 (decide (z18 = 0)) _ _ sA (hm18.pk [0,1]) hM
  ·refine gg 7 rfl ?_;exact hk3 false _ _ sA (hm13.pk [0,1]) hM
 intro j1 hM hk1;refine gg 1 rfl ?_;refine Rn.loopF (G:=Int) (fun g=>[(0,.slice A0 (x0).length c0),(2,pt b3 0),(3,iv g)]) (fun g w'=>Hp Z0 No w w' [slR A0 c0 (zDd .i64) x0,zAr b3 94 [iv 0,iv 0]]) (fun n g=>zC0 x0 j1 n g) fuel 0 sA (hm5.pk [0,1]) hM (fun _=>rfl) ?_;clear hM;rintro m21 y20 w21 hm21 hM hn21;replace hM : zC0 x0 j1 (m21 + 1) y20 = some r:=hM;rw [zC0] at hM;refine gg 6 rfl ?_;refine Rn.jR hm0 hM (G:=Bool) [] (fun g=>[(0,.slice A0 (x0).length c0),(2,pt b3 0),(3,iv y20),(13,.bool (g))]) (fun g=>[slR A0 c0 (zDd .i64) x0,zAr b3 94 [iv 0,iv 0]]) (fun j g=>j g) ?_ ?_
 ·rintro y22 w23 hm23 hM
  try dsimp only at hM
  refine gg 1 rfl ?_;refine zGt hM (Rn.condS rfl) (fun h24 hM=>?_) (fun h24 hM=>?_)
  ·refine gg 8 rfl ?_;exact hn21 (W64 (y20 + 1)) _ _ sA (hm23.pk [0,1]) hM
  ·refine gg 1 rfl ?_;exact hk1 y20 _ _ sA (hm23.pk [0,1]) hM
 intro j4 hM hk4;refine zB hM (Rn.partD (t:=7) rfl) (fun h25 hM=>?_) (fun h25 hM=>?_)
 ·refine gg 2 rfl ?_;obtain ⟨z26,e26,hM⟩:=zA4 hM;refine Rn.ixH hm21 0 rfl e26 rfl rfl rfl underlying91 sizeOf3 rfl rfl rfl rfl ?_;rintro b26 o26 vs26 ⟨rfl,_⟩ hm26;refine Rn.q rfl (V.ldR0 isAgg3 rfl (hm26.get 2 rfl).2 rfl) (gg 2 rfl ?_);exact hk4 (decide (z26 = 0)) _ _ sA (hm26.pk [0,1]) hM
 ·refine gg 6 rfl ?_;exact hk4 false _ _ sA (hm21.pk [0,1]) hM
theorem zHz {x0 : zAc} {x1 : UInt64} {r : ((List Int) × zAc)} (hM : zDq x0 x1 = some r) (h0 : zAc.rep.rel Z0 w cs0 x0) :
    Calls prog 186 #[.agg cs0.toArray,zAo x1] w fun x w'=>∃ A_0_0 c_0_0 A_1_0 c_1_0,x = .returned (.tuple #[.slice A_0_0 (r.1).length c_0_0,.agg [.slice A_1_0 (r.2.L).length c_1_0,iv r.2.W.From,iv r.2.W.Size].toArray]) ∧ Hp Z0 No w w' [zBd 3 A_0_0 c_0_0 (zDd .i64) r.1,zBd 35 A_1_0 c_1_0 zAp r.2.L]:=by
 have hm0:=Hp.nil Z0 No w;have hc0:=zD1.nil;obtain ⟨Ar1,cr1,rfl,fs1⟩:=zAc.relE h0;have hm3:=hm0.know (slR Ar1 cr1 zAp x0.L) (fun _ h=>h) (hm0.in0 hc0 fs1);replace hc0:=hc0.snoc (r:=slR Ar1 cr1 zAp x0.L) (fun _ h=>h);refine Rn.en func186 ?_;refine gg 2 rfl (Rn.box rfl rfl rfl rfl rfl ?_);intro b4 w4 hb4 m4 e4;have hm6:=(hm3.addBox hb4 e4 m4).nf [_,zAr _ _ [_,_,_]] rfl;refine gg 1 rfl (Rn.alloc rfl rfl rfl Tryz.zeroValue96 rfl ?_);intro b7 w7 hb7 m7 e7;have hm9:=(hm6.addBox hb7 e7 m7).nf [_,_,zAr _ _ [_,_,_]] rfl;refine gg 5 rfl (Rn.q rfl (V.ldB isAgg36 rfl (hm9.get 1 rfl) rfl) (Rn.q rfl (V.lenV underlying36 rfl) (gg 2 rfl ?_)));refine zB hM (Rn.condD rfl) (fun h10 hM=>?_) (fun h10 hM=>?_)
 ·refine gg 1 rfl ?_;refine Rn.drawK 8 rfl hm9 (by kernel_rfl) ?_;intro w11 hm11;refine dq [0] ?_;refine RH.tk 2 rfl (fun w' hDr=>V.ldBA [_,_,_] isAgg96 sizeOf96 rfl ((hm11.ext hDr).get 1 rfl) rfl rfl) ?_;refine dq [3,4] ?_;refine RH.tk 5 rfl (fun w' hDr=>V.ldBA [_,_] isAgg94 sizeOf94 rfl ((hm11.ext hDr).get 1 rfl) rfl rfl) ?_;obtain ⟨p12,e12,hM⟩:=zA4 hM;refine RH.cq (cK func221) 1 (zHy (Z0:=All) e12  :) ?_;rintro _ w12 ⟨A12_0_0,c12_0_0,rfl,hq12⟩;refine ⟨_,rfl,((Ext.refl _).trans hq12.fr),?_⟩;have hm14:=hm11.callF (flC (zAl (zBe _) _ _ _ _) fl0) hq12;obtain ⟨p15,e15,hM⟩:=zA4 hM;refine RH.cq (cK func201) 6 (zE1 (Z0:=All) e15 (show zAc.rep.rel All _ _ _ from ⟨_,_,rfl,⟨_,_,rfl,(zA1 (hm14.get 0 rfl)).1,(zA1 (hm14.get 0 rfl)).2.1,(zA1 (hm14.get 0 rfl)).2.2⟩,⟨_,_,rfl,⟨rfl,trivial⟩,⟨rfl,trivial⟩⟩⟩) :) ?_;rintro _ w15 ⟨A15_0_0,c15_0_0,rfl,hq15⟩;refine ⟨_,rfl,(((Ext.refl _).trans hq12.fr).trans hq15.fr),?_⟩;have hm17:=hm14.callF (flC (zAl zD8 _ _ _ _) fl0) hq15;refine dq [7] ?_;refine RG.tailK (by kernel_rfl) ?_;refine RH.st 8 (by kernel_rfl) rfl rfl sizeOf96 rfl rfl rfl rfl (by first|exact zN1 rfl|(simp [Value.oneCell'];done)) (hm17.get 2 rfl) (by first|exact nbl rfl|(simp;done)) ?_;intro w18 m18 x18;have hm19:=(hm17.st 2 rfl x18 m18).nf [_,_,zAr _ _ [_,_,_],_,_] rfl;refine ⟨trivial,?_⟩;refine RH.doneP (by kernel_rfl) ?_;refine Rn.retG2 func186 rfl (rvT rfl) (rvC rfl isAgg96 sizeOf96 (hm19.get 2 rfl) rfl) ?_;obtain rfl:=zFu hM;exact ⟨A12_0_0,c12_0_0,A15_0_0,c15_0_0,rfl,hm19.pk [3,4]⟩
 ·refine gg 4 rfl (Rn.q rfl (V.ldBA [_,_,_] isAgg96 sizeOf96 rfl (hm9.get 1 rfl) rfl rfl) ?_);obtain ⟨p20,e20,hM⟩:=zA4 hM
  refine Rn.c0 (cK func202) (zHq (Z0:=All) e20 (show zAc.rep.rel All _ _ _ from ⟨_,_,rfl,⟨_,_,rfl,(zA1 (hm9.get 0 rfl)).1,(zA1 (hm9.get 0 rfl)).2.1,(zA1 (hm9.get 0 rfl)).2.2⟩,⟨_,_,rfl,⟨rfl,trivial⟩,⟨rfl,trivial⟩⟩⟩) :) hm9 fun w20 _ hm21=>?_
  refine Rn.q rfl (V.o64 rfl rfl x1 p20 rfl rfl (zRv _ _ _)) ?_;obtain ⟨p22,e22,hM⟩:=zA4 hM
  refine Rn.c2 (cK func221) (zHy (Z0:=All) e22  :) fun A22_0_0 c22_0_0 w22 hq22=>?_
  have hm24:=hm21.callF (flC (zAl (zBe _) _ _ _ _) fl0) hq22;refine gg 6 rfl (Rn.q rfl (V.ldBA [_,_,_] isAgg96 sizeOf96 rfl (hm24.get 1 rfl) rfl rfl) ?_);obtain ⟨p25,e25,hM⟩:=zA4 hM
  refine Rn.c0 (cK func202) (zHq (Z0:=All) e25 (show zAc.rep.rel All _ _ _ from ⟨_,_,rfl,⟨_,_,rfl,(zA1 (hm24.get 0 rfl)).1,(zA1 (hm24.get 0 rfl)).2.1,(zA1 (hm24.get 0 rfl)).2.2⟩,⟨_,_,rfl,⟨rfl,trivial⟩,⟨rfl,trivial⟩⟩⟩) :) hm24 fun w25 _ hm26=>?_
  refine Rn.q rfl (V.eql rfl rfl) (gg 1 rfl ?_);refine zB hM (Rn.condD rfl) (fun h27 hM=>?_) (fun h27 hM=>?_)
  ·refine gg 2 rfl (Rn.bslS rfl rfl rfl underlying91 el3 rfl rfl rfl rfl (by first|exact szs rfl|(simp [Value.cells];done)) (by decide) ?_);intro b28 w28 hb28 m28 e28;have hm29:=hm26.addLit (rep:=(zDd .i64)) (xs:=([0] : List Int)) (vss:=[[iv 0]]) hb28 e28 m28 rfl rfl rfl ((zCq (fun _ _=>⟨rfl,trivial⟩) zMs));refine Rn.q rfl (V.ldBA [_,_,_] isAgg96 sizeOf96 rfl (hm29.get 1 rfl) rfl rfl) (gg 2 rfl (Rn.q rfl (V.ldBA [_,_] isAgg94 sizeOf94 rfl (hm29.get 1 rfl) rfl rfl) ?_));obtain ⟨p31,e31,hM⟩:=zA4 hM
   refine Rn.c2 (cK func201) (zE1 (Z0:=All) e31 (show zAc.rep.rel All _ _ _ from ⟨_,_,rfl,⟨_,_,rfl,(zA1 (hm29.get 0 rfl)).1,(zA1 (hm29.get 0 rfl)).2.1,(zA1 (hm29.get 0 rfl)).2.2⟩,⟨_,_,rfl,⟨rfl,trivial⟩,⟨rfl,trivial⟩⟩⟩) :) fun A31_0_0 c31_0_0 w31 hq31=>?_
   have hm33:=hm29.callF (flC (zAl zD8 _ _ _ _) fl0) hq31;refine gg 1 rfl (Rn.sq rfl sizeOf96 rfl rfl (hm33.get 2 rfl) ?_);intro w34 m34 x34;have hm35:=(hm33.st 2 rfl x34 m34).nf [_,_,zAr _ _ [_,_,_],_,_,_] rfl;refine gg 1 rfl ?_;refine Rn.retG2 func186 rfl (rvT rfl) (rvC rfl isAgg96 sizeOf96 (hm35.get 2 rfl) rfl) ?_;obtain rfl:=zFu hM;exact ⟨(some ⟨b28,0,none⟩),1,A31_0_0,c31_0_0,rfl,hm35.pk [4,5]⟩
  ·refine gg 6 rfl (Rn.q rfl (V.ldBA [_,_] isAgg94 sizeOf94 rfl (hm26.get 1 rfl) rfl rfl) ?_);obtain ⟨p36,e36,hM⟩:=zA4 hM
   refine Rn.c0 (cK func222) (zLy (Z0:=All) e36 (zD9 (hm26.get 3 rfl)) :) hm26 fun w36 _ hm37=>?_
   refine gg 1 rfl ?_;refine zGt hM (Rn.condS rfl) (fun h38 hM=>?_) (fun h38 hM=>?_)
   ·refine gg 1 rfl ?_;have hm41:=hm37.freeze 3 rfl;have hm44:=(hm41.cutF [1] [2] [0,3] rfl (by decide) ⟨fun _ h=>h,fun _ h=>h,trivial⟩).nf ([_,_,_] ++ [_,_,_]) rfl;refine Rn.drawF rfl hm44 ?_;intro w45 hmo45 hm45;refine dq [1,2,3] ?_;refine RH.tk 4 rfl (fun w' hDr=>V.ldB isAgg3 rfl ((hmo45.awayK hDr).get 0 rfl) rfl) ?_;refine dq [5,6] ?_;refine RH.tk 7 rfl (fun w' hDr=>V.ldB isAgg3 rfl ((hmo45.awayK hDr).get 0 rfl) rfl) ?_;refine dq [8,9] ?_;refine RH.tk 10 rfl (fun w' hDr=>V.ldB isAgg3 rfl ((hmo45.awayK hDr).get 0 rfl) rfl) ?_;refine dq [11] ?_;obtain ⟨z46,e46,hM⟩:=zA4 hM;refine RH.cutH 12 (by kernel_rfl) hm45 2 rfl e46 rfl rfl rfl underlying91 sizeOf3 rfl rfl rfl rfl rfl ?_;intro A46 c46 hm46;refine RH.tk 14 rfl (fun w' hDr=>V.ldBA [_,_,_] isAgg96 sizeOf96 rfl ((hmo45.awayK hDr).get 0 rfl) rfl rfl) ?_;refine dq [15,16] ?_;refine RH.tk 17 rfl (fun w' hDr=>V.ldBA [_,_] isAgg94 sizeOf94 rfl ((hmo45.awayK hDr).get 0 rfl) rfl rfl) ?_;refine RH.bslS 0 (by kernel_rfl) rfl rfl rfl underlying91 el3 rfl rfl rfl rfl (by first|exact szs rfl|(simp [Value.cells];done)) (by decide) ?_;intro b48 w48 hb48 m48 e48;have hm49:=hm46.addLit (rep:=(zDd .i64)) (xs:=([1,0] : List Int)) (vss:=[[iv 1],[iv 0]]) hb48 e48 m48 rfl rfl rfl ((zCq (fun _ _=>⟨rfl,trivial⟩) (zCq (fun _ _=>⟨rfl,trivial⟩) zMs)));refine ⟨hm49.fr,?_⟩;obtain ⟨z51,e51,hM⟩:=zA4 hM;refine RH.appH 13 (by kernel_rfl) hm49 4 rfl e51 rfl rfl rfl underlying91 el3 rfl rfl rfl rfl (hm49.src 3 rfl) ?_;intro A51 c51 w51 hm51;refine ⟨hm51.fr,?_⟩;obtain ⟨p53,e53,hM⟩:=zA4 hM;refine RH.cq (cK func201) 18 (zE1 (Z0:=All) e53 (show zAc.rep.rel All _ _ _ from ⟨_,_,rfl,⟨_,_,rfl,(zA1 (hm51.get 1 rfl)).1,(zA1 (hm51.get 1 rfl)).2.1,(zA1 (hm51.get 1 rfl)).2.2⟩,⟨_,_,rfl,⟨rfl,trivial⟩,⟨rfl,trivial⟩⟩⟩) :) ?_;rintro _ w53 ⟨A53_0_0,c53_0_0,rfl,hq53⟩;have hm55:=hm51.callF (flC (zAl zD8 _ _ _ _) fl0) hq53;refine ⟨_,rfl,hm55.fr,?_⟩;refine dq [19] ?_;refine RH.st 20 (by kernel_rfl) rfl rfl sizeOf96 rfl rfl rfl rfl (by first|exact zN1 rfl|(simp [Value.oneCell'];done)) (hm55.get 0 rfl) (by first|exact nbl rfl|(simp;done)) ?_;intro w56 m56 x56;have hm57:=(hm55.st 0 rfl x56 m56).nf [zAr _ _ [_,_,_],_,_,_,_,_] rfl;refine ⟨hm57.fr,?_⟩;refine RH.doneP (by kernel_rfl) ?_;have hm58:=hmo45.callAZ hm57;have hm59:=(hm58.pk [0,3,4,5,6,7,8]).nq;refine Rn.retG2 func186 rfl (rvT rfl) (rvC rfl isAgg96 sizeOf96 (hm59.get 1 rfl) rfl) ?_;obtain rfl:=zFu hM;exact ⟨A51,c51,A53_0_0,c53_0_0,rfl,hm59.pk [5,6]⟩
   ·refine gg 4 rfl ?_;obtain ⟨p60,e60,hM⟩:=zA4 hM
    refine Rn.c0 (cK func223) (zK3 (Z0:=All) e60 (zD9 (hm37.get 3 rfl)) :) hm37 fun w60 _ hm61=>?_
    refine Rn.als rfl rfl rfl Tryz.zeroValue94 rfl sizeOf94 rfl rfl rfl rfl (by first|exact zN1 rfl|(simp [Value.oneCell'];done)) ?_;intro b62 w62 hb62 m62 e62;have hm64:=(hm61.addBox hb62 e62 m62).nf [_,_,_,_,zAr _ _ [_,_]] rfl;refine gg 4 rfl (Rn.q rfl (V.ldB isAgg3 rfl (hm64.get 4 rfl) rfl) (Rn.q rfl (V.cv64 underlying3 underlying35 rfl) ?_));obtain ⟨p65,e65,hM⟩:=zA4 hM
    refine Rn.c2 (cK func185) (zCk (Z0:=All) e65  :) fun A65_0_0 c65_0_0 w65 hq65=>?_
    have hm67:=hm64.callF (flC (zAl (zBe _) _ _ _ _) fl0) hq65;refine gg 9 rfl (Rn.q rfl (V.ldB isAgg3 rfl (hm67.get 4 rfl) rfl) (gg 1 rfl (Rn.q rfl (V.cv64 underlying3 underlying35 rfl) ?_)));obtain ⟨p68,e68,hM⟩:=zA4 hM
    refine Rn.c2 (cK func185) (zCk (Z0:=All) e68  :) fun A68_0_0 c68_0_0 w68 hq68=>?_
    have hm70:=hm67.callF (flC (zAl (zBe _) _ _ _ _) fl0) hq68;refine gg 8 rfl (Rn.bslS rfl rfl rfl underlying91 el3 rfl rfl rfl rfl (by first|exact szs rfl|(simp [Value.cells];done)) (by decide) ?_);intro b71 w71 hb71 m71 e71;have hm72:=hm70.addLit (rep:=(zDd .i64)) (xs:=([1,1] : List Int)) (vss:=[[iv 1],[iv 1]]) hb71 e71 m71 rfl rfl rfl ((zCq (fun _ _=>⟨rfl,trivial⟩) (zCq (fun _ _=>⟨rfl,trivial⟩) zMs)));refine gg 1 rfl ?_;obtain ⟨z74,e74,hM⟩:=zA4 hM;refine Rn.appH hm72 7 rfl e74 rfl rfl rfl underlying91 el3 rfl rfl rfl rfl (hm72.srcO 5 rfl) ?_;intro A74 c74 w74 hm74;refine gg 6 rfl ?_;obtain ⟨z76,e76,hM⟩:=zA4 hM;refine Rn.appH hm74 7 rfl e76 rfl rfl rfl underlying91 el3 rfl rfl rfl rfl (hm74.srcO 6 rfl) ?_;intro A76 c76 w76 hm76;refine gg 3 rfl ?_;have hm80:=hm76.freeze 3 rfl;have hm83:=(hm80.cutF [1,4,5,6] [2,7] [0,3] rfl (by decide) ⟨fun _ h=>h,fun _ h=>h,trivial⟩).nf ([_,_,_,_,_,_] ++ [_,_,_,_]) rfl;refine Rn.drawF rfl hm83 ?_;intro w84 hmo84 hm84;refine dq [0,1,2] ?_;refine RH.tk 3 rfl (fun w' hDr=>V.ldB isAgg3 rfl ((hmo84.awayK hDr).get 1 rfl) rfl) ?_;refine dq [4] ?_;refine RH.tk 5 rfl (fun w' hDr=>V.ldB isAgg3 rfl ((hmo84.awayK hDr).get 1 rfl) rfl) ?_;refine dq [6] ?_;refine RH.tk 7 rfl (fun w' hDr=>V.ldB isAgg3 rfl ((hmo84.awayK hDr).get 1 rfl) rfl) ?_;refine dq [8] ?_;obtain ⟨z85,e85,hM⟩:=zA4 hM;refine RH.cutH 9 (by kernel_rfl) hm84 3 rfl e85 rfl rfl rfl underlying91 sizeOf3 rfl rfl rfl rfl rfl ?_;intro A85 c85 hm85;refine RH.tk 11 rfl (fun w' hDr=>V.ldBA [_,_,_] isAgg96 sizeOf96 rfl ((hmo84.awayK hDr).get 0 rfl) rfl rfl) ?_;refine dq [12] ?_;refine RH.tk 13 rfl (fun w' hDr=>V.ldBA [_,_] isAgg94 sizeOf94 rfl ((hmo84.awayK hDr).get 1 rfl) rfl rfl) ?_;obtain ⟨z87,e87,hM⟩:=zA4 hM;refine RH.appH 10 (by kernel_rfl) hm85 1 rfl e87 rfl rfl rfl underlying91 el3 rfl rfl rfl rfl (hm85.src 4 rfl) ?_;intro A87 c87 w87 hm87;refine ⟨hm87.fr,?_⟩;obtain ⟨p89,e89,hM⟩:=zA4 hM;refine RH.cq (cK func201) 14 (zE1 (Z0:=All) e89 (show zAc.rep.rel All _ _ _ from ⟨_,_,rfl,⟨_,_,rfl,(zA1 (hm87.get 2 rfl)).1,(zA1 (hm87.get 2 rfl)).2.1,(zA1 (hm87.get 2 rfl)).2.2⟩,⟨_,_,rfl,⟨rfl,trivial⟩,⟨rfl,trivial⟩⟩⟩) :) ?_;rintro _ w89 ⟨A89_0_0,c89_0_0,rfl,hq89⟩;have hm91:=hm87.callF (flC (zAl zD8 _ _ _ _) fl0) hq89;refine ⟨_,rfl,hm91.fr,?_⟩;refine dq [15] ?_;refine RH.st 16 (by kernel_rfl) rfl rfl sizeOf96 rfl rfl rfl rfl (by first|exact zN1 rfl|(simp [Value.oneCell'];done)) (hm91.get 0 rfl) (by first|exact nbl rfl|(simp;done)) ?_;intro w92 m92 x92;have hm93:=(hm91.st 0 rfl x92 m92).nf [zAr _ _ [_,_,_],_,_,_,_,_] rfl;refine ⟨hm93.fr,?_⟩;refine RH.doneP (by kernel_rfl) ?_;have hm94:=hmo84.callAZ hm93;have hm95:=(hm94.pk [0,1,2,3,6,7,8,9,10,11]).nq;refine Rn.retG2 func186 rfl (rvT rfl) (rvC rfl isAgg96 sizeOf96 (hm95.get 4 rfl) rfl) ?_;obtain rfl:=zFu hM;exact ⟨A87,c87,A89_0_0,c89_0_0,rfl,hm95.pk [5,9]⟩
theorem zEt {x0 : (List UInt64)} {x1 : UInt64} {r : (List Int)} (hM : zB4 x0 x1 = some r) (f0 : (slR A0 c0 zAp x0).H Z0 w) :
    Calls prog 130 #[.slice A0 (x0).length c0,zAo x1] w fun x w'=>∃ A_0_0 c_0_0,x = .returned (.slice A_0_0 (r).length c_0_0) ∧ Hp Z0 No w w' [zBd 3 A_0_0 c_0_0 (zDd .i64) r]:=by
 have hm0:=Hp.nil Z0 No w;have hc0:=zD1.nil;have hm2:=hm0.know (slR A0 c0 zAp x0) (fun _ h=>h) (hm0.in0 hc0 f0);replace hc0:=hc0.snoc (r:=slR A0 c0 zAp x0) (fun _ h=>h);refine Rn.en func130 ?_;refine gg 6 rfl (Rn.q rfl (V.bldS (cs:=[_,_,_]) st96 rfl rfl) (Rn.als rfl rfl rfl Tryz.zeroValue96 rfl sizeOf96 rfl rfl rfl rfl (by first|exact zN1 rfl|(simp [Value.oneCell'];done)) ?_));intro b3 w3 hb3 m3 e3;have hm5:=(hm2.addBox hb3 e3 m3).nf [_,zAr _ _ [_,_,_]] rfl;refine gg 6 rfl ?_;refine Rn.jG hm0 hM (G:=zAc × Option Addr × Nat) (fun g=>[(1,zAo x1),(5,pt b3 0)]) (fun g=>[zBd 35 (g.2.1) (g.2.2) zAp (g.1).L,zAr b3 96 [.slice (g.2.1) ((g.1).L).length (g.2.2),iv (g.1).W.From,iv (g.1).W.Size]]) (fun j g=>j g.1) ?_ ?_
 ·rintro ⟨y6,A7,c7⟩ w9 hm9 hM
  try dsimp only at hM
  refine gg 2 rfl (Rn.q rfl (V.ldBA [_,_,_] isAgg96 sizeOf96 rfl (hm9.get 1 rfl) rfl rfl) (gg 1 rfl ?_));obtain ⟨p10,e10,hM⟩:=zA4 hM;refine Rn.cq (cK func186) (zHz (Z0:=All) e10 (show zAc.rep.rel All _ _ _ from ⟨_,_,rfl,⟨_,_,rfl,(zD9 (hm9.get 0 rfl)).1,(zD9 (hm9.get 0 rfl)).2.1,(zD9 (hm9.get 0 rfl)).2.2⟩,⟨_,_,rfl,⟨rfl,trivial⟩,⟨rfl,trivial⟩⟩⟩) :) ?_;rintro _ w10 ⟨A10_0_0,c10_0_0,A10_1_0,c10_1_0,rfl,hq10⟩;refine ⟨_,rfl,?_⟩;have hm13:=hm9.callF (flC (zAl (zBe _) _ _ _ _) (flC (zAl zD8 _ _ _ _) fl0)) hq10;refine gg 3 rfl (Rn.alloc rfl rfl rfl Tryz.zeroValue96 rfl ?_);intro b14 w14 hb14 m14 e14;have hm16:=(hm13.addBox hb14 e14 m14).nf [_,_,_,_,zAr _ _ [_,_,_]] rfl;refine gg 1 rfl (Rn.sq rfl sizeOf96 rfl rfl (hm16.get 4 rfl) ?_);intro w17 m17 x17;have hm18:=(hm16.st 4 rfl x17 m17).nf [_,_,_,_,zAr _ _ [_,_,_]] rfl;refine gg 6 rfl ?_
  cases hM
  exact Rn.R1 func130 ⟨A10_0_0,c10_0_0,rfl,hm18.pk [2]⟩
 intro j1 hM hk1;refine gg 1 rfl ?_;have hm23:=hm5.addNil 35 zAp;refine Rn.loopF (G:=Int × zAc × Option Addr × Nat) (fun g=>[(0,.slice A0 (x0).length c0),(1,zAo x1),(5,pt b3 0),(6,iv (g.1))]) (fun g w'=>Hp Z0 No w w' [slR A0 c0 zAp x0,zBd 35 (g.2.2.1) (g.2.2.2) zAp (g.2.1).L,zAr b3 96 [.slice (g.2.2.1) ((g.2.1).L).length (g.2.2.2),iv (g.2.1).W.From,iv (g.2.1).W.Size]]) (fun n g=>zC x0 j1 n g.1 g.2.1) fuel (0,({ L:=([] : List UInt64),W:=({ From:=0,Size:=0 } : zAj) } : zAc),none,0) sA (hm23.pk [0,2,1]) hM (fun _=>rfl) ?_;clear hM;rintro m25 ⟨y19,y20,A21,c21⟩ w25 hm25 hM hn25;replace hM : zC x0 j1 (m25 + 1) y19 y20 = some r:=hM;rw [zC] at hM;refine gg 5 rfl (Rn.q rfl (V.lenV underlying36 rfl) (gg 2 rfl ?_));refine zB hM (Rn.condD rfl) (fun h26 hM=>?_) (fun h26 hM=>?_)
 ·refine gg 3 rfl ?_;refine Rn.drawK 9 rfl hm25 (by kernel_rfl) ?_;intro w27 hm27;refine RH.tk 0 rfl (fun w' hDr=>V.ldBA [_,_,_] isAgg96 sizeOf96 rfl ((hm27.ext hDr).get 2 rfl) rfl rfl) ?_;refine dq [1,2] ?_;obtain ⟨z28,e28,hM⟩:=zA4 hM;obtain ⟨kk28,ke28,kz28,kl28⟩:=zHf e28;obtain ⟨b28,o28,vs28,hA28,hD28,hR28,hrel28⟩:=Hp.at hm27 0 rfl kz28;obtain ⟨rfl,_⟩:=hrel28;have hm30:=Hp.knowL [rdR b28 (o28 + kk28 * 1) [zAo z28]] _ hm27 (knC (fun _ h=>h) ⟨fun _=>hD28,hR28⟩ kn0)
  refine RH.here fun hS3=>RH.on 3 rfl (V.ixA' hA28 kk28 underlying36 sizeOf35 rfl rfl ke28 kl28) hS3 ?_
  refine RH.here fun hS4=>RH.on 4 rfl (V.ldR0 isAgg35 rfl (hm30.get 3 rfl).2 rfl) hS4 ?_
  obtain ⟨p31,e31,hM⟩:=zA4 hM;refine RH.cq (cK func186) 5 (zHz (Z0:=All) e31 (show zAc.rep.rel All _ _ _ from ⟨_,_,rfl,⟨_,_,rfl,(zD9 (hm30.get 1 rfl)).1,(zD9 (hm30.get 1 rfl)).2.1,(zD9 (hm30.get 1 rfl)).2.2⟩,⟨_,_,rfl,⟨rfl,trivial⟩,⟨rfl,trivial⟩⟩⟩) :) ?_;rintro _ w31 ⟨A31_0_0,c31_0_0,A31_1_0,c31_1_0,rfl,hq31⟩;refine ⟨_,rfl,((Ext.refl _).trans hq31.fr),?_⟩;have hm34:=hm30.callF (flC (zAl (zBe _) _ _ _ _) (flC (zAl zD8 _ _ _ _) fl0)) hq31;refine dq [6,7,8] ?_;refine RG.tailK (by kernel_rfl) ?_;refine RH.st 9 (by kernel_rfl) rfl rfl sizeOf96 rfl rfl rfl rfl (by first|exact zN1 rfl|(simp [Value.oneCell'];done)) (hm34.get 2 rfl) (by first|exact nbl rfl|(simp;done)) ?_;intro w35 m35 x35;have hm36:=(hm34.st 2 rfl x35 m35).nf [_,_,zAr _ _ [_,_,_],_,_,_] rfl;refine ⟨trivial,?_⟩;refine RH.doneP (by kernel_rfl) ?_;refine gg 6 rfl ?_;exact hn25 ((W64 (y19 + 1)),p31.2,A31_1_0,c31_1_0) _ _ sA (hm36.pk [0,5,2]) hM
 ·refine gg 1 rfl ?_;exact hk1 (y20,A21,c21) _ _ sA (hm25.pk [1,2]) hM
theorem zKi {x0 : zA2} {x1 : zA2} {r : Bool} (hM : zEx x0 x1 = some r) (h0 : zA2.rep.rel Z0 w cs0 x0) (h1 : zA2.rep.rel Z0 w cs1 x1) :
    Calls prog 159 #[.agg cs0.toArray,.agg cs1.toArray] w fun x w'=>x = .returned (.bool (r)) ∧ Hp Z0 No w w' []:=by
 have hm0:=Hp.nil Z0 No w;have hc0:=zD1.nil;obtain ⟨Ar1,cr1,Ar3,cr3,rfl,fs1,fs3⟩:=zA2.relE h0;have hm9:=hm0.know (slR Ar1 cr1 zAp x0.Pos.Counts) (fun _ h=>h) (hm0.in0 hc0 fs1);replace hc0:=hc0.snoc (r:=slR Ar1 cr1 zAp x0.Pos.Counts) (fun _ h=>h);have hm10:=hm9.know (slR Ar3 cr3 zAp x0.Neg.Counts) (fun _ h=>h) (hm9.in0 hc0 fs3);replace hc0:=hc0.snoc (r:=slR Ar3 cr3 zAp x0.Neg.Counts) (fun _ h=>h);obtain ⟨Ar5,cr5,Ar7,cr7,rfl,fs5,fs7⟩:=zA2.relE h1;have hm11:=hm10.know (slR Ar5 cr5 zAp x1.Pos.Counts) (fun _ h=>h) (hm10.in0 hc0 fs5);replace hc0:=hc0.snoc (r:=slR Ar5 cr5 zAp x1.Pos.Counts) (fun _ h=>h);have hm12:=hm11.know (slR Ar7 cr7 zAp x1.Neg.Counts) (fun _ h=>h) (hm11.in0 hc0 fs7);replace hc0:=hc0.snoc (r:=slR Ar7 cr7 zAp x1.Neg.Counts) (fun _ h=>h);refine Rn.en func159 ?_;refine gg 2 rfl (Rn.box rfl rfl rfl rfl rfl ?_);intro b13 w13 hb13 m13 e13;have hm15:=(hm12.addBox hb13 e13 m13).nf [_,_,_,_,zAr _ _ [_,_,_,_,_,_]] rfl;refine Rn.box rfl rfl rfl rfl rfl ?_;intro b16 w16 hb16 m16 e16;have hm18:=(hm15.addBox hb16 e16 m16).nf [_,_,_,_,_,zAr _ _ [_,_,_,_,_,_]] rfl;refine gg 5 rfl (Rn.q rfl (V.ldB isAgg3 rfl (hm18.get 4 rfl) rfl) (gg 1 rfl (Rn.q rfl (V.ldB isAgg3 rfl (hm18.get 5 rfl) rfl) (gg 2 rfl ?_))));refine Rn.cutR [14,15,16,17,18,19,20,21,22,23,24,25,26,27,28,29,30,31,32,33,34,35,36,37,38,39,40,41,42,43,44,45] [(2,pt b13 0),(3,pt b16 0),(18,.bool (decide ((x0.Scale = x1.Scale) ∧ (x0.Pos.Offset = x1.Pos.Offset))))] (fun hk19=>?_) ?_
 ·refine Rn.partD (t:=10) rfl (fun h20=>?_) (fun h20=>?_)
  ·refine gg 2 rfl (Rn.q rfl (V.ldB isAgg3 rfl (hm18.get 4 rfl) rfl) (gg 2 rfl (Rn.q rfl (V.ldB isAgg3 rfl (hm18.get 5 rfl) rfl) (gg 2 rfl ?_))));exact hk19 _ sA
  ·refine gg 8 rfl ?_;exact hk19 _ sA
 refine gg 1 rfl ?_;refine Rn.cutR [23,24,25,26,27,28,29,30,31,32,33,34,35,36,37,38,39,40,41,42,43,44,45] [(2,pt b13 0),(3,pt b16 0),(27,.bool (decide (((x0.Scale = x1.Scale) ∧ (x0.Pos.Offset = x1.Pos.Offset)) ∧ (x0.Neg.Offset = x1.Neg.Offset))))] (fun hk21=>?_) ?_
 ·refine Rn.partD (t:=19) rfl (fun h22=>?_) (fun h22=>?_)
  ·refine gg 2 rfl (Rn.q rfl (V.ldB isAgg3 rfl (hm18.get 4 rfl) rfl) (gg 2 rfl (Rn.q rfl (V.ldB isAgg3 rfl (hm18.get 5 rfl) rfl) (gg 2 rfl ?_))));exact hk21 _ sA
  ·refine gg 8 rfl ?_;exact hk21 _ sA
 refine gg 1 rfl ?_;refine Rn.cutR [34,35,36,37,38,39,40,41,42,43,44,45] [(2,pt b13 0),(3,pt b16 0),(38,.bool (decide ((((x0.Scale = x1.Scale) ∧ (x0.Pos.Offset = x1.Pos.Offset)) ∧ (x0.Neg.Offset = x1.Neg.Offset)) ∧ ((x0.Pos.Counts.length : Int) = (x1.Pos.Counts.length : Int)))))] (fun hk23=>?_) ?_
 ·refine Rn.partD (t:=28) rfl (fun h24=>?_) (fun h24=>?_)
  ·refine gg 2 rfl (Rn.q rfl (V.ldB isAgg36 rfl (hm18.get 4 rfl) rfl) (Rn.q rfl (V.lenV underlying36 rfl) (gg 2 rfl (Rn.q rfl (V.ldB isAgg36 rfl (hm18.get 5 rfl) rfl) (Rn.q rfl (V.lenV underlying36 rfl) (gg 2 rfl ?_))))));exact hk23 _ sA
  ·refine gg 10 rfl ?_;exact hk23 _ sA
 refine gg 1 rfl ?_;refine Rn.cutR [45] [(49,.bool (decide (((((x0.Scale = x1.Scale) ∧ (x0.Pos.Offset = x1.Pos.Offset)) ∧ (x0.Neg.Offset = x1.Neg.Offset)) ∧ ((x0.Pos.Counts.length : Int) = (x1.Pos.Counts.length : Int))) ∧ ((x0.Neg.Counts.length : Int) = (x1.Neg.Counts.length : Int)))))] (fun hk25=>?_) ?_
 ·refine Rn.partD (t:=39) rfl (fun h26=>?_) (fun h26=>?_)
  ·refine gg 2 rfl (Rn.q rfl (V.ldB isAgg36 rfl (hm18.get 4 rfl) rfl) (Rn.q rfl (V.lenV underlying36 rfl) (gg 2 rfl (Rn.q rfl (V.ldB isAgg36 rfl (hm18.get 5 rfl) rfl) (Rn.q rfl (V.lenV underlying36 rfl) (gg 2 rfl ?_))))));exact hk25 _ sA
  ·refine gg 10 rfl ?_;exact hk25 _ sA
 refine gg 2 rfl ?_
 cases hM
 exact Rn.R1 func159 ⟨rfl,hm18.pk []⟩
theorem zG3 {x0 : zA2} {r : (List UInt64)} (hM : zD5 x0 = some r) (h0 : zA2.rep.rel Z0 w cs0 x0) :
    Calls prog 155 #[.agg cs0.toArray] w fun x w'=>∃ A_0_0 c_0_0,x = .returned (.slice A_0_0 (r).length c_0_0) ∧ Hp Z0 No w w' [zBd 35 A_0_0 c_0_0 zAp r]:=by
 have hm0:=Hp.nil Z0 No w;have hc0:=zD1.nil;obtain ⟨Ar1,cr1,Ar3,cr3,rfl,fs1,fs3⟩:=zA2.relE h0;have hm5:=hm0.know (slR Ar1 cr1 zAp x0.Pos.Counts) (fun _ h=>h) (hm0.in0 hc0 fs1);replace hc0:=hc0.snoc (r:=slR Ar1 cr1 zAp x0.Pos.Counts) (fun _ h=>h);have hm6:=hm5.know (slR Ar3 cr3 zAp x0.Neg.Counts) (fun _ h=>h) (hm5.in0 hc0 fs3);replace hc0:=hc0.snoc (r:=slR Ar3 cr3 zAp x0.Neg.Counts) (fun _ h=>h);refine Rn.en func155 ?_;refine gg 2 rfl (Rn.box rfl rfl rfl rfl rfl ?_);intro b7 w7 hb7 m7 e7;have hm9:=(hm6.addBox hb7 e7 m7).nf [_,_,zAr _ _ [_,_,_,_,_,_]] rfl;refine gg 5 rfl (Rn.q rfl (V.ldB isAgg35 rfl (hm9.get 2 rfl) rfl) (Rn.bslS rfl rfl rfl underlying36 zU1 rfl rfl rfl rfl (by first|exact szs rfl|(simp [Value.cells];done)) (by decide) ?_));intro b10 w10 hb10 m10 e10;have hm11:=hm9.addLit (rep:=zAp) (xs:=([x0.Zero] : List UInt64)) (vss:=[[zAo x0.Zero]]) hb10 e10 m10 rfl rfl rfl ((zCq (fun _ _=>⟨rfl,trivial⟩) zMs));refine gg 7 rfl (Rn.q rfl (V.ldB isAgg36 rfl (hm11.get 2 rfl) rfl) ?_);obtain ⟨z13,e13,hM⟩:=zA4 hM;refine Rn.appH hm11 3 rfl e13 rfl rfl rfl underlying36 zU1 rfl rfl rfl rfl (hm11.src 0 rfl) ?_;intro A13 c13 w13 hm13;refine gg 7 rfl (Rn.q rfl (V.ldB isAgg36 rfl (hm13.get 2 rfl) rfl) ?_);obtain ⟨z15,e15,hM⟩:=zA4 hM;refine Rn.appH hm13 3 rfl e15 rfl rfl rfl underlying36 zU1 rfl rfl rfl rfl (hm13.src 1 rfl) ?_;intro A15 c15 w15 hm15;refine gg 2 rfl ?_
 cases hM
 exact Rn.R1 func155 ⟨A15,c15,rfl,hm15.pk [3]⟩
theorem zGz {x0 : Int} {x1 : Int} {r : (List Int)} (hM : zCe x0 x1 = some r)  :
    Calls prog 188 #[iv x0,iv x1] w fun x w'=>∃ A_0_0 c_0_0,x = .returned (.slice A_0_0 (r).length c_0_0) ∧ Hp Z0 No w w' [zBd 3 A_0_0 c_0_0 (zDd .i64) r]:=by
 have hm0:=Hp.nil Z0 No w;have hc0:=zD1.nil;refine Rn.en func188 ?_;refine gg 7 rfl (Rn.q rfl (V.cv64 underlying3 underlying35 rfl) (gg 1 rfl ?_));obtain ⟨p1,e1,hM⟩:=zA4 hM
 refine Rn.c2 (cK func185) (zCk (Z0:=All) e1  :) fun A1_0_0 c1_0_0 w1 hq1=>?_
 have hm3:=hm0.callF (flC (zAl (zBe _) _ _ _ _) fl0) hq1;refine gg 11 rfl ?_
 cases hM
 exact Rn.R1 func188 ⟨A1_0_0,c1_0_0,rfl,hm3.pk [0]⟩
theorem zH8 {x0 : zAd} {r : (List Int)} (hM : zCt x0 = some r) (h0 : zAd.rep.rel Z0 w cs0 x0) :
    Calls prog 189 #[.agg cs0.toArray] w fun x w'=>∃ A_0_0 c_0_0,x = .returned (.slice A_0_0 (r).length c_0_0) ∧ Hp Z0 No w w' [zBd 3 A_0_0 c_0_0 (zDd .i64) r]:=by
 have hm0:=Hp.nil Z0 No w;have hc0:=zD1.nil;obtain ⟨Ar1,cr1,rfl,fs1⟩:=zAd.relE h0;have hm3:=hm0.know (slR Ar1 cr1 zAp x0.Counts) (fun _ h=>h) (hm0.in0 hc0 fs1);replace hc0:=hc0.snoc (r:=slR Ar1 cr1 zAp x0.Counts) (fun _ h=>h);refine Rn.en func189 ?_;refine gg 2 rfl (Rn.box rfl rfl rfl rfl rfl ?_);intro b4 w4 hb4 m4 e4;have hm6:=(hm3.addBox hb4 e4 m4).nf [_,zAr _ _ [_,_]] rfl;refine gg 5 rfl (Rn.q rfl (V.ldB isAgg36 rfl (hm6.get 1 rfl) rfl) (Rn.q rfl (V.lenV underlying36 rfl) ?_));obtain ⟨p7,e7,hM⟩:=zA4 hM
 refine Rn.c2 (cK func188) (zGz (Z0:=All) e7  :) fun A7_0_0 c7_0_0 w7 hq7=>?_
 have hm9:=hm6.callF (flC (zAl (zBe _) _ _ _ _) fl0) hq7;refine gg 6 rfl (Rn.q rfl (V.ldB isAgg36 rfl (hm9.get 1 rfl) rfl) (Rn.q rfl (V.lenV underlying36 rfl) (gg 2 rfl ?_)));refine Rn.jG hm0 hM (G:=(List Int) × Option Addr × Nat) (fun g=>[(3,.slice (g.2.1) ((g.1)).length (g.2.2))]) (fun g=>[slR Ar1 cr1 zAp x0.Counts,zAr b4 38 [iv x0.Offset,.slice Ar1 (x0.Counts).length cr1],zBd 3 (g.2.1) (g.2.2) (zDd .i64) (g.1)]) (fun j g=>j g.1) ?_ ?_
 ·rintro ⟨y10,A11,c11⟩ w13 hm13 hM
  try dsimp only at hM
  refine gg 5 rfl ?_
  cases hM
  exact Rn.R1 func189 ⟨A11,c11,rfl,hm13.pk [2]⟩
 intro j1 hM hk1;refine zB hM (Rn.condD rfl) (fun h14 hM=>?_) (fun h14 hM=>?_)
 ·refine gg 3 rfl (Rn.q rfl (V.ldB isAgg3 rfl (hm9.get 1 rfl) rfl) ?_);obtain ⟨p15,e15,hM⟩:=zA4 hM
  refine Rn.c0 (cK func187) (zEd (Z0:=All) e15  :) hm9 fun w15 _ hm16=>?_
  obtain ⟨p17,e17,hM⟩:=zA4 hM
  refine Rn.c2 (cK func129) (zCm (Z0:=All) e17  :) fun A17_0_0 c17_0_0 w17 hq17=>?_
  have hm19:=hm16.callF (flC (zAl (zBe _) _ _ _ _) fl0) hq17;obtain ⟨z20,e20,hM⟩:=zA4 hM;refine Rn.appH hm19 2 rfl e20 rfl rfl rfl underlying91 el3 rfl rfl rfl rfl (hm19.srcO 3 rfl) ?_;intro A20 c20 w20 hm20;refine gg 2 rfl ?_;exact hk1 (z20,A20,c20) _ _ sA (hm20.pk [0,1,2]) hM
 ·refine gg 1 rfl ?_;exact hk1 (p7,A7_0_0,c7_0_0) _ _ sA (hm9.pk [0,1,2]) hM
theorem zLi {x0 : (List zA2)} {x1 : zA2} {r : (List Int)} (hM : zDp x0 x1 = some r) (h1 : zA2.rep.rel Z0 w cs1 x1) (f0 : (slR A0 c0 zA2.rep x0).H Z0 w) :
    Calls prog 131 #[.slice A0 (x0).length c0,.agg cs1.toArray] w fun x w'=>∃ A_0_0 c_0_0,x = .returned (.slice A_0_0 (r).length c_0_0) ∧ Hp Z0 No w w' [zBd 3 A_0_0 c_0_0 (zDd .i64) r]:=by
 have hm0:=Hp.nil Z0 No w;have hc0:=zD1.nil;obtain ⟨Ar2,cr2,Ar4,cr4,rfl,fs2,fs4⟩:=zA2.relE h1;have hm6:=hm0.know (slR Ar2 cr2 zAp x1.Pos.Counts) (fun _ h=>h) (hm0.in0 hc0 fs2);replace hc0:=hc0.snoc (r:=slR Ar2 cr2 zAp x1.Pos.Counts) (fun _ h=>h);have hm7:=hm6.know (slR Ar4 cr4 zAp x1.Neg.Counts) (fun _ h=>h) (hm6.in0 hc0 fs4);replace hc0:=hc0.snoc (r:=slR Ar4 cr4 zAp x1.Neg.Counts) (fun _ h=>h);have hm8:=hm7.know (slR A0 c0 zA2.rep x0) (fun _ h=>h) (hm7.in0 hc0 f0);replace hc0:=hc0.snoc (r:=slR A0 c0 zA2.rep x0) (fun _ h=>h);refine Rn.en func131 ?_;refine gg 2 rfl (Rn.box rfl rfl rfl rfl rfl ?_);intro b9 w9 hb9 m9 e9;have hm11:=(hm8.addBox hb9 e9 m9).nf [_,_,_,zAr _ _ [_,_,_,_,_,_]] rfl;refine gg 5 rfl (Rn.q rfl (V.lenV underlying97 rfl) (gg 4 rfl ?_));refine Rn.jG hm0 hM (G:=Bool) (fun g=>[(0,.slice A0 (x0).length c0),(3,pt b9 0),(5,iv (x0.length : Int)),(25,.bool (g))]) (fun g=>[slR Ar2 cr2 zAp x1.Pos.Counts,slR Ar4 cr4 zAp x1.Neg.Counts,slR A0 c0 zA2.rep x0,zAr b9 40 [iv x1.Scale,zAo x1.Zero,iv x1.Pos.Offset,.slice Ar2 (x1.Pos.Counts).length cr2,iv x1.Neg.Offset,.slice Ar4 (x1.Neg.Counts).length cr4]]) (fun j g=>j g) ?_ ?_
 ·rintro y12 w13 hm13 hM
  try dsimp only at hM
  refine zGt hM (Rn.condS rfl) (fun h14 hM=>?_) (fun h14 hM=>?_)
  ·refine gg 2 rfl (Rn.bslS rfl rfl rfl underlying91 el3 rfl rfl rfl rfl (by first|exact szs rfl|(simp [Value.cells];done)) (by decide) ?_);intro b15 w15 hb15 m15 e15;have hm16:=hm13.addLit (rep:=(zDd .i64)) (xs:=([1] : List Int)) (vss:=[[iv 1]]) hb15 e15 m15 rfl rfl rfl ((zCq (fun _ _=>⟨rfl,trivial⟩) zMs));refine gg 3 rfl ?_;refine Rn.drawH rfl hm16 ?_;intro w18 hm18;refine RH.tk 0 rfl (fun w' hDr=>V.ldBA [_,_,_,_,_,_] isAgg40 sizeOf40 rfl ((hm18.ext hDr).get 3 rfl) rfl rfl) ?_;refine dq [2,3,4] ?_;obtain ⟨z19,e19,hM⟩:=zA4 hM;obtain ⟨kk19,ke19,kz19,kl19⟩:=zHf e19;obtain ⟨b19,o19,vs19,hA19,hD19,hR19,hrel19⟩:=Hp.at hm18 2 rfl kz19;obtain ⟨Ar20,cr20,Ar22,cr22,rfl,fs20,fs22⟩:=zA2.relE hrel19;have hm25:=Hp.knowL [rdR b19 (o19 + kk19 * 6) [iv z19.Scale,zAo z19.Zero,iv z19.Pos.Offset,.slice Ar20 (z19.Pos.Counts).length cr20,iv z19.Neg.Offset,.slice Ar22 (z19.Neg.Counts).length cr22],slR Ar20 cr20 zAp z19.Pos.Counts,slR Ar22 cr22 zAp z19.Neg.Counts] _ hm18 (knC (fun _ h=>h) ⟨fun _=>hD19,hR19⟩ (knC (fun _ h=>h) fs20 (knC (fun _ h=>h) fs22 kn0)));refine RH.tk 5 rfl (fun w' hDr=>V.ixA' hA19 kk19 underlying97 sizeOf40 rfl rfl ke19 kl19) ?_;refine RH.tk 6 rfl (fun w' hDr=>V.ldA (vs:=[_,_,_,_,_,_]) isAgg40 sizeOf40 rfl (Rd.pre ((hm25.ext hDr).get 5 rfl).2 6) rfl) ?_;obtain ⟨p26,e26,hM⟩:=zA4 hM;refine RH.cq (cK func155) 1 (zG3 (Z0:=All) e26 (show zA2.rep.rel All _ _ _ from ⟨_,_,rfl,⟨rfl,trivial⟩,⟨_,_,rfl,⟨rfl,trivial⟩,⟨_,_,rfl,⟨_,_,rfl,⟨rfl,trivial⟩,⟨_,_,rfl,(zA1 (hm25.get 0 rfl)).1,(zA1 (hm25.get 0 rfl)).2.1,(zA1 (hm25.get 0 rfl)).2.2⟩⟩,⟨_,_,rfl,⟨rfl,trivial⟩,⟨_,_,rfl,(zA1 (hm25.get 1 rfl)).1,(zA1 (hm25.get 1 rfl)).2.1,(zA1 (hm25.get 1 rfl)).2.2⟩⟩⟩⟩⟩) :) ?_;rintro _ w26 ⟨A26_0_0,c26_0_0,rfl,hq26⟩;refine ⟨_,rfl,((Ext.refl _).trans hq26.fr),?_⟩;have hm28:=hm25.callF (flC (zAl zD8 _ _ _ _) fl0) hq26;obtain ⟨p29,e29,hM⟩:=zA4 hM;refine RH.cq (cK func155) 7 (zG3 (Z0:=All) e29 (show zA2.rep.rel All _ _ _ from ⟨_,_,rfl,⟨rfl,trivial⟩,⟨_,_,rfl,⟨rfl,trivial⟩,⟨_,_,rfl,⟨_,_,rfl,⟨rfl,trivial⟩,⟨_,_,rfl,(zA1 (hm28.get 6 rfl)).1,(zA1 (hm28.get 6 rfl)).2.1,(zA1 (hm28.get 6 rfl)).2.2⟩⟩,⟨_,_,rfl,⟨rfl,trivial⟩,⟨_,_,rfl,(zA1 (hm28.get 7 rfl)).1,(zA1 (hm28.get 7 rfl)).2.1,(zA1 (hm28.get 7 rfl)).2.2⟩⟩⟩⟩⟩) :) ?_;rintro _ w29 ⟨A29_0_0,c29_0_0,rfl,hq29⟩;refine ⟨_,rfl,(((Ext.refl _).trans hq26.fr).trans hq29.fr),?_⟩;have hm31:=hm28.callF (flC (zAl zD8 _ _ _ _) fl0) hq29;refine dq [8,9] ?_;refine RH.doneP (by kernel_rfl) ?_;refine gg 5 rfl ?_;refine Rn.jG hm0 hM (G:=(List Int) × Option Addr × Nat) (fun g=>[(6,.slice (g.2.1) ((g.1)).length (g.2.2))]) (fun g=>[slR Ar2 cr2 zAp x1.Pos.Counts,slR Ar4 cr4 zAp x1.Neg.Counts,zAr b9 40 [iv x1.Scale,zAo x1.Zero,iv x1.Pos.Offset,.slice Ar2 (x1.Pos.Counts).length cr2,iv x1.Neg.Offset,.slice Ar4 (x1.Neg.Counts).length cr4],zBd 35 A26_0_0 c26_0_0 zAp p26,zBd 35 A29_0_0 c29_0_0 zAp p29,zBd 3 (g.2.1) (g.2.2) (zDd .i64) (g.1)]) (fun j g=>j g.1) ?_ ?_
   ·rintro ⟨y32,A33,c33⟩ w35 hm35 hM
    try dsimp only at hM
    refine gg 5 rfl ?_
    cases hM
    exact Rn.R1 func131 ⟨A33,c33,rfl,hm35.pk [5]⟩
   intro j2 hM hk2;refine gg 1 rfl ?_;refine Rn.loopF (G:=(List Int) × Int × Option Addr × Nat) (fun g=>[(6,.slice (g.2.2.1) ((g.1)).length (g.2.2.2)),(7,.slice A26_0_0 (p26).length c26_0_0),(8,.slice A29_0_0 (p29).length c29_0_0),(9,iv (g.2.1))]) (fun g w'=>Hp Z0 No w w' [slR Ar2 cr2 zAp x1.Pos.Counts,slR Ar4 cr4 zAp x1.Neg.Counts,zAr b9 40 [iv x1.Scale,zAo x1.Zero,iv x1.Pos.Offset,.slice Ar2 (x1.Pos.Counts).length cr2,iv x1.Neg.Offset,.slice Ar4 (x1.Neg.Counts).length cr4],zBd 35 A26_0_0 c26_0_0 zAp p26,zBd 35 A29_0_0 c29_0_0 zAp p29,zBd 3 (g.2.2.1) (g.2.2.2) (zDd .i64) (g.1)]) (fun n g=>zB5 p26 p29 j2 n g.1 g.2.1) fuel (([1] : List Int),0,(some ⟨b15,0,none⟩),1) sA (hm31.pk [0,1,3,8,9,4]) hM (fun _=>rfl) ?_;clear hM;rintro m40 ⟨y36,y39,A37,c37⟩ w40 hm40 hM hn40;replace hM : zB5 p26 p29 j2 (m40 + 1) y36 y39 = some r:=hM;rw [zB5] at hM;refine gg 5 rfl (Rn.q rfl (V.lenV underlying36 rfl) (gg 2 rfl ?_));refine zB hM (Rn.condD rfl) (fun h41 hM=>?_) (fun h41 hM=>?_)
   ·refine gg 3 rfl ?_;refine Rn.drawK 13 rfl hm40 (by kernel_rfl) ?_;intro w42 hm42;refine dq [0,1,2] ?_;obtain ⟨z43,e43,hM⟩:=zA4 hM;obtain ⟨kk43,ke43,kz43,kl43⟩:=zHf e43;obtain ⟨g43,vs43,hA43,hR43,hrel43⟩:=hm42.ownAt 3 rfl kz43;subst hA43;obtain ⟨rfl,_⟩:=hrel43;refine RH.tk 3 rfl (fun w' hDr=>V.ixE kk43 underlying36 sizeOf35 rfl rfl ke43 kl43) ?_;refine RH.tk 4 rfl (fun w' hDr=>V.ldR0 isAgg35 rfl (hR43.ext hDr) rfl) ?_;refine dq [5,6] ?_;obtain ⟨z44,e44,hM⟩:=zA4 hM;obtain ⟨kk44,ke44,kz44,kl44⟩:=zHf e44;obtain ⟨g44,vs44,hA44,hR44,hrel44⟩:=hm42.ownAt 4 rfl kz44;subst hA44;obtain ⟨rfl,_⟩:=hrel44
    refine RH.here fun hS7=>RH.on 7 rfl (V.ixE kk44 underlying36 sizeOf35 rfl rfl ke44 kl44) hS7 ?_
    refine RH.here fun hS8=>RH.on 8 rfl (V.ldR0 isAgg35 rfl hR44 rfl) hS8 ?_
    refine RH.here fun hS9=>RH.on 9 rfl (V.ari64 (a:=z43) (b:=z44) rfl rfl _ rfl (zH4 _ _)) hS9 ?_
    refine RH.here fun hS10=>RH.on 10 rfl (V.cvW underlying35 underlying3 rfl) hS10 ?_
    obtain ⟨p45,e45,hM⟩:=zA4 hM;refine RH.cq (cK func187) 11 (zEd (Z0:=All) e45  :) ?_;rintro _ w45 ⟨rfl,hq45⟩;refine ⟨_,rfl,((Ext.refl _).trans hq45.fr),?_⟩;have hm46:=hm42.call0 hq45;obtain ⟨p47,e47,hM⟩:=zA4 hM;refine RH.cq (cK func129) 12 (zCm (Z0:=All) e47  :) ?_;rintro _ w47 ⟨A47_0_0,c47_0_0,rfl,hq47⟩;refine ⟨_,rfl,(((Ext.refl _).trans hq45.fr).trans hq47.fr),?_⟩;have hm49:=hm46.callF (flC (zAl (zBe _) _ _ _ _) fl0) hq47;refine RG.tailK (by kernel_rfl) ?_;obtain ⟨z50,e50,hM⟩:=zA4 hM;refine RH.appH 13 (by kernel_rfl) hm49 5 rfl e50 rfl rfl rfl underlying91 el3 rfl rfl rfl rfl (hm49.srcO 6 rfl) ?_;intro A50 c50 w50 hm50;refine ⟨trivial,?_⟩;refine dq [14] ?_;refine RH.doneP (by kernel_rfl) ?_;refine gg 6 rfl ?_;exact hn40 (z50,(W64 (y39 + 1)),A50,c50) _ _ sA (hm50.pk [0,1,2,3,4,5]) hM
   ·refine gg 1 rfl ?_;exact hk2 (y36,A37,c37) _ _ sA (hm40.pk [0,1,2,3,4,5]) hM
  ·refine gg 3 rfl (Rn.bslS rfl rfl rfl underlying91 el3 rfl rfl rfl rfl (by first|exact szs rfl|(simp [Value.cells];done)) (by decide) ?_);intro b52 w52 hb52 m52 e52;have hm53:=hm13.addLit (rep:=(zDd .i64)) (xs:=([0] : List Int)) (vss:=[[iv 0]]) hb52 e52 m52 rfl rfl rfl ((zCq (fun _ _=>⟨rfl,trivial⟩) zMs));refine gg 1 rfl (Rn.q rfl (V.ldB isAgg3 rfl (hm53.get 3 rfl) rfl) (gg 1 rfl ?_));obtain ⟨p55,e55,hM⟩:=zA4 hM
   refine Rn.c2 (cK func188) (zGz (Z0:=All) e55  :) fun A55_0_0 c55_0_0 w55 hq55=>?_
   have hm57:=hm53.callF (flC (zAl (zBe _) _ _ _ _) fl0) hq55;obtain ⟨z58,e58,hM⟩:=zA4 hM;refine Rn.appH hm57 4 rfl e58 rfl rfl rfl underlying91 el3 rfl rfl rfl rfl (hm57.srcO 5 rfl) ?_;intro A58 c58 w58 hm58;refine gg 6 rfl (Rn.q rfl (V.ldBA [_,_] isAgg38 sizeOf38 rfl (hm58.get 3 rfl) rfl rfl) ?_);obtain ⟨p60,e60,hM⟩:=zA4 hM
   refine Rn.c2 (cK func189) (zH8 (Z0:=All) e60 (show zAd.rep.rel All _ _ _ from ⟨_,_,rfl,⟨rfl,trivial⟩,⟨_,_,rfl,(zA1 (hm58.get 0 rfl)).1,(zA1 (hm58.get 0 rfl)).2.1,(zA1 (hm58.get 0 rfl)).2.2⟩⟩) :) fun A60_0_0 c60_0_0 w60 hq60=>?_
   have hm62:=hm58.callF (flC (zAl (zBe _) _ _ _ _) fl0) hq60;obtain ⟨z63,e63,hM⟩:=zA4 hM;refine Rn.appH hm62 4 rfl e63 rfl rfl rfl underlying91 el3 rfl rfl rfl rfl (hm62.srcO 6 rfl) ?_;intro A63 c63 w63 hm63;refine gg 6 rfl (Rn.q rfl (V.ldBA [_,_] isAgg38 sizeOf38 rfl (hm63.get 3 rfl) rfl rfl) ?_);obtain ⟨p65,e65,hM⟩:=zA4 hM
   refine Rn.c2 (cK func189) (zH8 (Z0:=All) e65 (show zAd.rep.rel All _ _ _ from ⟨_,_,rfl,⟨rfl,trivial⟩,⟨_,_,rfl,(zA1 (hm63.get 1 rfl)).1,(zA1 (hm63.get 1 rfl)).2.1,(zA1 (hm63.get 1 rfl)).2.2⟩⟩) :) fun A65_0_0 c65_0_0 w65 hq65=>?_
   have hm67:=hm63.callF (flC (zAl (zBe _) _ _ _ _) fl0) hq65;obtain ⟨z68,e68,hM⟩:=zA4 hM;refine Rn.appH hm67 4 rfl e68 rfl rfl rfl underlying91 el3 rfl rfl rfl rfl (hm67.srcO 7 rfl) ?_;intro A68 c68 w68 hm68;refine gg 4 rfl (Rn.q rfl (V.ldBA [_,_,_,_,_,_] isAgg40 sizeOf40 rfl (hm68.get 3 rfl) rfl rfl) ?_);obtain ⟨p70,e70,hM⟩:=zA4 hM
   refine Rn.c2 (cK func155) (zG3 (Z0:=All) e70 (show zA2.rep.rel All _ _ _ from ⟨_,_,rfl,⟨rfl,trivial⟩,⟨_,_,rfl,⟨rfl,trivial⟩,⟨_,_,rfl,⟨_,_,rfl,⟨rfl,trivial⟩,⟨_,_,rfl,(zA1 (hm68.get 0 rfl)).1,(zA1 (hm68.get 0 rfl)).2.1,(zA1 (hm68.get 0 rfl)).2.2⟩⟩,⟨_,_,rfl,⟨rfl,trivial⟩,⟨_,_,rfl,(zA1 (hm68.get 1 rfl)).1,(zA1 (hm68.get 1 rfl)).2.1,(zA1 (hm68.get 1 rfl)).2.2⟩⟩⟩⟩⟩) :) fun A70_0_0 c70_0_0 w70 hq70=>?_
   have hm72:=hm68.callF (flC (zAl zD8 _ _ _ _) fl0) hq70;replace hm72:=hm72.nq;refine gg 7 rfl ?_;refine Rn.jG hm0 hM (G:=(List Int) × Option Addr × Nat) (fun g=>[(10,.slice (g.2.1) ((g.1)).length (g.2.2))]) (fun g=>[slR Ar2 cr2 zAp x1.Pos.Counts,slR Ar4 cr4 zAp x1.Neg.Counts,zAr b9 40 [iv x1.Scale,zAo x1.Zero,iv x1.Pos.Offset,.slice Ar2 (x1.Pos.Counts).length cr2,iv x1.Neg.Offset,.slice Ar4 (x1.Neg.Counts).length cr4],zBd 3 A55_0_0 c55_0_0 (zDd .i64) p55,zBd 3 A60_0_0 c60_0_0 (zDd .i64) p60,zBd 3 A65_0_0 c65_0_0 (zDd .i64) p65,zBd 35 A70_0_0 c70_0_0 zAp p70,zBd 3 (g.2.1) (g.2.2) (zDd .i64) (g.1)]) (fun j g=>j g.1) ?_ ?_
   ·rintro ⟨y73,A74,c74⟩ w76 hm76 hM
    try dsimp only at hM
    refine gg 5 rfl ?_
    cases hM
    exact Rn.R1 func131 ⟨A74,c74,rfl,hm76.pk [7]⟩
   intro j3 hM hk3;refine gg 1 rfl ?_;refine Rn.loopF (G:=(List Int) × Int × Option Addr × Nat) (fun g=>[(10,.slice (g.2.2.1) ((g.1)).length (g.2.2.2)),(11,.slice A70_0_0 (p70).length c70_0_0),(12,iv (g.2.1))]) (fun g w'=>Hp Z0 No w w' [slR Ar2 cr2 zAp x1.Pos.Counts,slR Ar4 cr4 zAp x1.Neg.Counts,zAr b9 40 [iv x1.Scale,zAo x1.Zero,iv x1.Pos.Offset,.slice Ar2 (x1.Pos.Counts).length cr2,iv x1.Neg.Offset,.slice Ar4 (x1.Neg.Counts).length cr4],zBd 3 A55_0_0 c55_0_0 (zDd .i64) p55,zBd 3 A60_0_0 c60_0_0 (zDd .i64) p60,zBd 3 A65_0_0 c65_0_0 (zDd .i64) p65,zBd 35 A70_0_0 c70_0_0 zAp p70,zBd 3 (g.2.2.1) (g.2.2.2) (zDd .i64) (g.1)]) (fun n g=>zAw p70 j3 n g.1 g.2.1) fuel (z68,0,A68,c68) sA (hm72.pk [0,1,3,5,6,7,8,4]) hM (fun _=>rfl) ?_;clear hM;rintro m81 ⟨y77,y80,A78,c78⟩ w81 hm81 hM hn81;replace hM : zAw p70 j3 (m81 + 1) y77 y80 = some r:=hM;rw [zAw] at hM;refine gg 5 rfl (Rn.q rfl (V.lenV underlying36 rfl) (gg 2 rfl ?_));refine zB hM (Rn.condD rfl) (fun h82 hM=>?_) (fun h82 hM=>?_)
   ·refine gg 7 rfl ?_;obtain ⟨z83,e83,hM⟩:=zA4 hM;obtain ⟨kk83,ke83,kz83,kl83⟩:=zHf e83;obtain ⟨g83,vs83,hA83,hR83,hrel83⟩:=hm81.ownAt 6 rfl kz83;subst hA83;obtain ⟨rfl,_⟩:=hrel83;refine Rn.q rfl (V.ixE kk83 underlying36 sizeOf35 rfl rfl ke83 kl83) (Rn.q rfl (V.ldR0 isAgg35 rfl hR83 rfl) ?_);obtain ⟨p84,e84,hM⟩:=zA4 hM
    refine Rn.c2 (cK func129) (zCm (Z0:=All) e84  :) fun A84_0_0 c84_0_0 w84 hq84=>?_
    have hm86:=hm81.callF (flC (zAl (zBe _) _ _ _ _) fl0) hq84;replace hm86:=hm86.nq;obtain ⟨z87,e87,hM⟩:=zA4 hM;refine Rn.appH hm86 7 rfl e87 rfl rfl rfl underlying91 el3 rfl rfl rfl rfl (hm86.srcO 8 rfl) ?_;intro A87 c87 w87 hm87;replace hm87:=hm87.nq;refine gg 8 rfl ?_;exact hn81 (z87,(W64 (y80 + 1)),A87,c87) _ _ sA (hm87.pk [0,1,2,3,4,5,6,7]) hM
   ·refine gg 1 rfl ?_;exact hk3 (y77,A78,c78) _ _ sA (hm81.pk [0,1,2,3,4,5,6,7]) hM
 intro j1 hM hk1;refine Rn.drawH rfl hm11 ?_;intro w89 hm89;refine dq [0,1,2] ?_;refine zB hM (RH.partD (t:=17) rfl) (fun h90 hM=>?_) (fun h90 hM=>?_)
 ·refine dq [3,4,5] ?_;obtain ⟨z91,e91,hM⟩:=zA4 hM;obtain ⟨kk91,ke91,kz91,kl91⟩:=zHf e91;obtain ⟨b91,o91,vs91,hA91,hD91,hR91,hrel91⟩:=Hp.at hm89 2 rfl kz91;obtain ⟨Ar92,cr92,Ar94,cr94,rfl,fs92,fs94⟩:=zA2.relE hrel91;have hm97:=Hp.knowL [rdR b91 (o91 + kk91 * 6) [iv z91.Scale,zAo z91.Zero,iv z91.Pos.Offset,.slice Ar92 (z91.Pos.Counts).length cr92,iv z91.Neg.Offset,.slice Ar94 (z91.Neg.Counts).length cr94],slR Ar92 cr92 zAp z91.Pos.Counts,slR Ar94 cr94 zAp z91.Neg.Counts] _ hm89 (knC (fun _ h=>h) ⟨fun _=>hD91,hR91⟩ (knC (fun _ h=>h) fs92 (knC (fun _ h=>h) fs94 kn0)));refine RH.tk 6 rfl (fun w' hDr=>V.ixA' hA91 kk91 underlying97 sizeOf40 rfl rfl ke91 kl91) ?_;refine RH.tk 7 rfl (fun w' hDr=>V.ldA (vs:=[_,_,_,_,_,_]) isAgg40 sizeOf40 rfl (Rd.pre ((hm97.ext hDr).get 4 rfl).2 6) rfl) ?_
  refine RH.here fun hS8=>RH.on 8 rfl (V.ldBA [_,_,_,_,_,_] isAgg40 sizeOf40 rfl (hm97.get 3 rfl) rfl rfl) hS8 ?_
  obtain ⟨p98,e98,hM⟩:=zA4 hM;refine RH.cq (cK func159) 9 (zKi (Z0:=All) e98 (show zA2.rep.rel All _ _ _ from ⟨_,_,rfl,⟨rfl,trivial⟩,⟨_,_,rfl,⟨rfl,trivial⟩,⟨_,_,rfl,⟨_,_,rfl,⟨rfl,trivial⟩,⟨_,_,rfl,(zA1 (hm97.get 5 rfl)).1,(zA1 (hm97.get 5 rfl)).2.1,(zA1 (hm97.get 5 rfl)).2.2⟩⟩,⟨_,_,rfl,⟨rfl,trivial⟩,⟨_,_,rfl,(zA1 (hm97.get 6 rfl)).1,(zA1 (hm97.get 6 rfl)).2.1,(zA1 (hm97.get 6 rfl)).2.2⟩⟩⟩⟩⟩) (show zA2.rep.rel All _ _ _ from ⟨_,_,rfl,⟨rfl,trivial⟩,⟨_,_,rfl,⟨rfl,trivial⟩,⟨_,_,rfl,⟨_,_,rfl,⟨rfl,trivial⟩,⟨_,_,rfl,(zA1 (hm97.get 0 rfl)).1,(zA1 (hm97.get 0 rfl)).2.1,(zA1 (hm97.get 0 rfl)).2.2⟩⟩,⟨_,_,rfl,⟨rfl,trivial⟩,⟨_,_,rfl,(zA1 (hm97.get 1 rfl)).1,(zA1 (hm97.get 1 rfl)).2.1,(zA1 (hm97.get 1 rfl)).2.2⟩⟩⟩⟩⟩) :) ?_;rintro _ w98 ⟨rfl,hq98⟩;refine ⟨_,rfl,((Ext.refl _).trans hq98.fr),?_⟩;have hm99:=hm97.call0 hq98;refine dq [10] ?_;refine RH.doneP (by kernel_rfl) ?_;exact hk1 p98 _ _ sA (hm99.pk [0,1,2,3]) hM
 ·refine dq [3,4,5,6,7,8,9,10] ?_;refine RH.doneP (by kernel_rfl) ?_;exact hk1 false _ _ sA (hm89.pk [0,1,2,3]) hM
theorem zKv {x0 : (List zA8)} {r : (List Int)} (hM : zFj x0 = some r) (f0 : (slR A0 c0 zA8.rep x0).H Z0 w) :
    Calls prog 70 #[.slice A0 (x0).length c0] w fun x w'=>∃ A_0_0 c_0_0,x = .returned (.slice A_0_0 (r).length c_0_0) ∧ Hp Z0 No w w' [zBd 3 A_0_0 c_0_0 (zDd .i64) r]:=by
 have hm0:=Hp.nil Z0 No w;have hc0:=zD1.nil;have hm2:=hm0.know (slR A0 c0 zA8.rep x0) (fun _ h=>h) (hm0.in0 hc0 f0);replace hc0:=hc0.snoc (r:=slR A0 c0 zA8.rep x0) (fun _ h=>h);refine Rn.en func70 ?_;refine gg 26 rfl ?_;refine Rn.jG hm0 hM (G:=(List Int) × Option Addr × Nat) (fun g=>[(3,.slice (g.2.1) ((g.1)).length (g.2.2))]) (fun g=>[zBd 3 (g.2.1) (g.2.2) (zDd .i64) (g.1)]) (fun j g=>j g.1) ?_ ?_
 ·rintro ⟨y3,A4,c4⟩ w6 hm6 hM
  try dsimp only at hM
  refine gg 5 rfl ?_
  cases hM
  exact Rn.R1 func70 ⟨A4,c4,rfl,hm6.pk [0]⟩
 intro j1 hM hk1;refine gg 1 rfl ?_;have hm32:=hm2.addNil 3 (zDd .i64);have hm34:=hm32.addNil 3 (zDd .i64);have hm36:=hm34.addNil 3 (zDd .i64);have hm38:=hm36.addNil 3 (zDd .i64);have hm40:=hm38.addNil 3 (zDd .i64);have hm42:=hm40.addNil 35 zAp;have hm44:=hm42.addNil 35 zAp;have hm46:=hm44.addNil 40 zA2.rep;refine Rn.loopF (G:=(List Int) × (List Int) × (List Int) × (List Int) × (List Int) × (List UInt64) × (List UInt64) × (List zA2) × Int × Option Addr × Nat × Option Addr × Nat × Option Addr × Nat × Option Addr × Nat × Option Addr × Nat × Option Addr × Nat × Option Addr × Nat × Option Addr × Nat) (fun g=>[(0,.slice A0 (x0).length c0),(3,.slice (g.2.2.2.2.2.2.2.2.2.1) ((g.1)).length (g.2.2.2.2.2.2.2.2.2.2.1)),(4,.slice (g.2.2.2.2.2.2.2.2.2.2.2.1) ((g.2.1)).length (g.2.2.2.2.2.2.2.2.2.2.2.2.1)),(5,.slice (g.2.2.2.2.2.2.2.2.2.2.2.2.2.1) ((g.2.2.1)).length (g.2.2.2.2.2.2.2.2.2.2.2.2.2.2.1)),(6,.slice (g.2.2.2.2.2.2.2.2.2.2.2.2.2.2.2.1) ((g.2.2.2.1)).length (g.2.2.2.2.2.2.2.2.2.2.2.2.2.2.2.2.1)),(7,.slice (g.2.2.2.2.2.2.2.2.2.2.2.2.2.2.2.2.2.1) ((g.2.2.2.2.1)).length (g.2.2.2.2.2.2.2.2.2.2.2.2.2.2.2.2.2.2.1)),(8,.slice (g.2.2.2.2.2.2.2.2.2.2.2.2.2.2.2.2.2.2.2.1) ((g.2.2.2.2.2.1)).length (g.2.2.2.2.2.2.2.2.2.2.2.2.2.2.2.2.2.2.2.2.1)),(9,.slice (g.2.2.2.2.2.2.2.2.2.2.2.2.2.2.2.2.2.2.2.2.2.1) ((g.2.2.2.2.2.2.1)).length (g.2.2.2.2.2.2.2.2.2.2.2.2.2.2.2.2.2.2.2.2.2.2.1)),(10,.slice (g.2.2.2.2.2.2.2.2.2.2.2.2.2.2.2.2.2.2.2.2.2.2.2.1) ((g.2.2.2.2.2.2.2.1)).length (g.2.2.2.2.2.2.2.2.2.2.2.2.2.2.2.2.2.2.2.2.2.2.2.2)),(11,iv (g.2.2.2.2.2.2.2.2.1))]) (fun g w'=>Hp Z0 No w w' [slR A0 c0 zA8.rep x0,zBd 3 (g.2.2.2.2.2.2.2.2.2.1) (g.2.2.2.2.2.2.2.2.2.2.1) (zDd .i64) (g.1),zBd 3 (g.2.2.2.2.2.2.2.2.2.2.2.1) (g.2.2.2.2.2.2.2.2.2.2.2.2.1) (zDd .i64) (g.2.1),zBd 3 (g.2.2.2.2.2.2.2.2.2.2.2.2.2.1) (g.2.2.2.2.2.2.2.2.2.2.2.2.2.2.1) (zDd .i64) (g.2.2.1),zBd 3 (g.2.2.2.2.2.2.2.2.2.2.2.2.2.2.2.1) (g.2.2.2.2.2.2.2.2.2.2.2.2.2.2.2.2.1) (zDd .i64) (g.2.2.2.1),zBd 3 (g.2.2.2.2.2.2.2.2.2.2.2.2.2.2.2.2.2.1) (g.2.2.2.2.2.2.2.2.2.2.2.2.2.2.2.2.2.2.1) (zDd .i64) (g.2.2.2.2.1),zBd 35 (g.2.2.2.2.2.2.2.2.2.2.2.2.2.2.2.2.2.2.2.1) (g.2.2.2.2.2.2.2.2.2.2.2.2.2.2.2.2.2.2.2.2.1) zAp (g.2.2.2.2.2.1),zBd 35 (g.2.2.2.2.2.2.2.2.2.2.2.2.2.2.2.2.2.2.2.2.2.1) (g.2.2.2.2.2.2.2.2.2.2.2.2.2.2.2.2.2.2.2.2.2.2.1) zAp (g.2.2.2.2.2.2.1),zBd 40 (g.2.2.2.2.2.2.2.2.2.2.2.2.2.2.2.2.2.2.2.2.2.2.2.1) (g.2.2.2.2.2.2.2.2.2.2.2.2.2.2.2.2.2.2.2.2.2.2.2.2) zA2.rep (g.2.2.2.2.2.2.2.1)]) (fun n g=>zB9 x0 j1 n g.1 g.2.1 g.2.2.1 g.2.2.2.1 g.2.2.2.2.1 g.2.2.2.2.2.1 g.2.2.2.2.2.2.1 g.2.2.2.2.2.2.2.1 g.2.2.2.2.2.2.2.2.1) fuel (([] : List Int),([] : List Int),([] : List Int),([] : List Int),([] : List Int),([] : List UInt64),([] : List UInt64),([] : List zA2),0,none,0,none,0,none,0,none,0,none,0,none,0,none,0,none,0) sA (hm46.pk [0,1,2,3,4,5,6,7,8]) hM (fun _=>rfl) ?_;clear hM;rintro m48 ⟨y7,y10,y13,y16,y19,y22,y25,y28,y31,A8,c8,A11,c11,A14,c14,A17,c17,A20,c20,A23,c23,A26,c26,A29,c29⟩ w48 hm48 hM hn48;replace hM : zB9 x0 j1 (m48 + 1) y7 y10 y13 y16 y19 y22 y25 y28 y31 = some r:=hM;rw [zB9] at hM;refine gg 5 rfl (Rn.q rfl (V.lenV underlying24 rfl) (gg 2 rfl ?_));refine zB hM (Rn.condD rfl) (fun h49 hM=>?_) (fun h49 hM=>?_)
 ·refine gg 7 rfl ?_;obtain ⟨z50,e50,hM⟩:=zA4 hM;refine Rn.ixH hm48 0 rfl e50 rfl rfl rfl underlying24 sizeOf44 rfl rfl rfl rfl ?_;rintro b50 o50 vs50 hr50 hm50;obtain ⟨Ar51,cr51,Ar53,cr53,Ar55,cr55,rfl,fs51,fs53,fs55⟩:=zA8.relE hr50;have hm58:=Hp.know1 (M:=[slR Ar51 cr51 zA.rep z50.Point.Attrs,slR Ar53 cr53 zAp z50.Point.Hist.Pos.Counts,slR Ar55 cr55 zAp z50.Point.Hist.Neg.Counts]) hm50 (fun _ h=>h) (knC (fun _ h=>h) fs51 (knC (fun _ h=>h) fs53 (knC (fun _ h=>h) fs55 kn0)));refine gg 1 rfl (Rn.q rfl (V.ldA (vs:=[_,_,_,_,_,_,_,_,_,_,_,_,_,_,_,_,_]) isAgg42 sizeOf42 rfl (Rd.sub (hm58.get 9 rfl).2 1 17) rfl) (Rn.als rfl rfl rfl Tryz.zeroValue42 rfl sizeOf42 rfl rfl rfl rfl (by first|exact zN1 rfl|(simp [Value.oneCell'];done)) ?_));intro b59 w59 hb59 m59 e59;have hm61:=(hm58.addBox hb59 e59 m59).nf [_,_,_,_,_,_,_,_,_,_,_,_,_,zAr _ _ [_,_,_,_,_,_,_,_,_,_,_,_,_,_,_,_,_]] rfl;refine gg 7 rfl ?_;obtain ⟨z62,e62,hM⟩:=zA4 hM;refine Rn.ixH hm61 0 rfl e62 rfl rfl rfl underlying24 sizeOf44 rfl rfl rfl rfl ?_;rintro b62 o62 vs62 hr62 hm62;obtain ⟨Ar63,cr63,Ar65,cr65,Ar67,cr67,rfl,fs63,fs65,fs67⟩:=zA8.relE hr62;have hm70:=Hp.know1 (M:=[slR Ar63 cr63 zA.rep z62.Point.Attrs,slR Ar65 cr65 zAp z62.Point.Hist.Pos.Counts,slR Ar67 cr67 zAp z62.Point.Hist.Neg.Counts]) hm62 (fun _ h=>h) (knC (fun _ h=>h) fs63 (knC (fun _ h=>h) fs65 (knC (fun _ h=>h) fs67 kn0)));refine gg 1 rfl (Rn.q rfl (V.ldR0 isAgg3 rfl (hm70.get 14 rfl).2 rfl) ?_);obtain ⟨p71,e71,hM⟩:=zA4 hM;refine Rn.cq (cK func128) (zE0 (Z0:=All) e71 (zD9 (hm70.get 2 rfl)) :) ?_;rintro _ w71 ⟨F71_0,A71_0,c71_0,rfl,hq71⟩;refine ⟨_,rfl,?_⟩;have hm73:=hm70.callF (flC (zNj) fl0) hq71;replace hm73:=hm73.nq;have hm75:=hm73.freezeRo 18 rfl;obtain ⟨z76,e76,hM⟩:=zA4 hM;refine Rn.appH hm75 1 rfl e76 rfl rfl rfl underlying91 el3 rfl rfl rfl rfl (hm75.src 18 rfl) ?_;intro A76 c76 w76 hm76;replace hm76:=hm76.nq;refine gg 7 rfl ?_;obtain ⟨z78,e78,hM⟩:=zA4 hM;refine Rn.ixH hm76 0 rfl e78 rfl rfl rfl underlying24 sizeOf44 rfl rfl rfl rfl ?_;rintro b78 o78 vs78 hr78 hm78;obtain ⟨Ar79,cr79,Ar81,cr81,Ar83,cr83,rfl,fs79,fs81,fs83⟩:=zA8.relE hr78;have hm86:=Hp.know1 (M:=[slR Ar79 cr79 zA.rep z78.Point.Attrs,slR Ar81 cr81 zAp z78.Point.Hist.Pos.Counts,slR Ar83 cr83 zAp z78.Point.Hist.Neg.Counts]) hm78 (fun _ h=>h) (knC (fun _ h=>h) fs79 (knC (fun _ h=>h) fs81 (knC (fun _ h=>h) fs83 kn0)));refine gg 1 rfl (Rn.q rfl (V.ldR0 isAgg3 rfl (hm86.get 19 rfl).2 rfl) ?_);obtain ⟨z87,e87,hM⟩:=zA4 hM;refine Rn.pushH (z:=z78.Ord) (vs:=[iv z78.Ord]) hm86 2 rfl e87 rfl rfl rfl rfl underlying91 el3 rfl rfl rfl rfl (fun _=>rfl) (⟨rfl,trivial⟩) ?_;intro A87 c87 w87 u87 hm87;replace hm87:=hm87.nq;refine gg 7 rfl (Rn.q rfl (V.ldB isAgg3 rfl (hm87.get 13 rfl) rfl) ?_);obtain ⟨p89,e89,hM⟩:=zA4 hM;refine Rn.cq (cK func128) (zE0 (Z0:=All) e89 (zD9 (hm87.get 3 rfl)) :) ?_;rintro _ w89 ⟨F89_0,A89_0,c89_0,rfl,hq89⟩;refine ⟨_,rfl,?_⟩;have hm91:=hm87.callF (flC (zNj) fl0) hq89;replace hm91:=hm91.nq;have hm93:=hm91.freezeRo 23 rfl;obtain ⟨z94,e94,hM⟩:=zA4 hM;refine Rn.appH hm93 1 rfl e94 rfl rfl rfl underlying91 el3 rfl rfl rfl rfl (hm93.src 23 rfl) ?_;intro A94 c94 w94 hm94;replace hm94:=hm94.nq;refine gg 6 rfl (Rn.q rfl (V.ldB isAgg3 rfl (hm94.get 13 rfl) rfl) ?_);obtain ⟨z96,e96,hM⟩:=zA4 hM;refine Rn.pushH (z:=z50.Point.Time) (vs:=[iv z50.Point.Time]) hm94 3 rfl e96 rfl rfl rfl rfl underlying91 el3 rfl rfl rfl rfl (fun _=>rfl) (⟨rfl,trivial⟩) ?_;intro A96 c96 w96 u96 hm96;replace hm96:=hm96.nq;refine gg 6 rfl (Rn.q rfl (V.ldB isAgg3 rfl (hm96.get 13 rfl) rfl) (gg 2 rfl ?_));refine Rn.jG hm0 hM (G:=(List Int) × (List Int) × Option Addr × Nat × Option Addr × Nat) (fun g=>[(0,.slice A0 (x0).length c0),(3,.slice (g.2.2.1) ((g.1)).length (g.2.2.2.1)),(4,.slice A87 (z87).length c87),(5,.slice A96 (z96).length c96),(6,.slice (g.2.2.2.2.1) ((g.2.1)).length (g.2.2.2.2.2)),(7,.slice A20 (y19).length c20),(8,.slice A23 (y22).length c23),(9,.slice A26 (y25).length c26),(10,.slice A29 (y28).length c29),(11,iv y31),(12,pt b59 0)]) (fun g=>[slR A0 c0 zA8.rep x0,zBd 3 A87 c87 (zDd .i64) z87,zBd 3 A96 c96 (zDd .i64) z96,zBd 3 A20 c20 (zDd .i64) y19,zBd 35 A23 c23 zAp y22,zBd 35 A26 c26 zAp y25,zBd 40 A29 c29 zA2.rep y28,slR Ar51 cr51 zA.rep z50.Point.Attrs,slR Ar53 cr53 zAp z50.Point.Hist.Pos.Counts,slR Ar55 cr55 zAp z50.Point.Hist.Neg.Counts,zAr b59 42 [Str (z50.Point.Name),.slice Ar51 (z50.Point.Attrs).length cr51,iv z50.Point.Kind,iv z50.Point.Temp,.bool (z50.Point.Mono),iv z50.Point.Start,iv z50.Point.Time,iv z50.Point.Int_,zAo z50.Point.Re,zAo z50.Point.Im,iv z50.Point.Hist.Scale,zAo z50.Point.Hist.Zero,iv z50.Point.Hist.Pos.Offset,.slice Ar53 (z50.Point.Hist.Pos.Counts).length cr53,iv z50.Point.Hist.Neg.Offset,.slice Ar55 (z50.Point.Hist.Neg.Counts).length cr55,iv z50.Point.Flags],zBd 3 (g.2.2.1) (g.2.2.2.1) (zDd .i64) (g.1),zBd 3 (g.2.2.2.2.1) (g.2.2.2.2.2) (zDd .i64) (g.2.1)]) (fun j g=>j g.1 g.2.1) ?_ ?_
  ·rintro ⟨y98,y101,A99,c99,A102,c102⟩ w104 hm104 hM
   try dsimp only at hM
   refine gg 4 rfl (Rn.q rfl (V.ldB isAgg3 rfl (hm104.get 10 rfl) rfl) (Rn.q rfl (V.cv64 underlying3 underlying35 rfl) ?_));obtain ⟨p105,e105,hM⟩:=zA4 hM
   refine Rn.c2 (cK func129) (zCm (Z0:=All) e105  :) fun A105_0_0 c105_0_0 w105 hq105=>?_
   have hm107:=hm104.callF (flC (zAl (zBe _) _ _ _ _) fl0) hq105;replace hm107:=hm107.nq;obtain ⟨z108,e108,hM⟩:=zA4 hM;refine Rn.appH hm107 11 rfl e108 rfl rfl rfl underlying91 el3 rfl rfl rfl rfl (hm107.srcO 13 rfl) ?_;intro A108 c108 w108 hm108;replace hm108:=hm108.nq;refine gg 5 rfl (Rn.q rfl (V.ldB isAgg3 rfl (hm108.get 10 rfl) rfl) (gg 1 rfl ?_));refine Rn.jG hm0 hM (G:=(List Int) × (List Int) × (List UInt64) × (List UInt64) × (List zA2) × Option Addr × Nat × Option Addr × Nat × Option Addr × Nat × Option Addr × Nat × Option Addr × Nat) (fun g=>[(0,.slice A0 (x0).length c0),(3,.slice (g.2.2.2.2.2.1) ((g.1)).length (g.2.2.2.2.2.2.1)),(4,.slice A87 (z87).length c87),(5,.slice A96 (z96).length c96),(6,.slice A102 (y101).length c102),(7,.slice (g.2.2.2.2.2.2.2.1) ((g.2.1)).length (g.2.2.2.2.2.2.2.2.1)),(8,.slice (g.2.2.2.2.2.2.2.2.2.1) ((g.2.2.1)).length (g.2.2.2.2.2.2.2.2.2.2.1)),(9,.slice (g.2.2.2.2.2.2.2.2.2.2.2.1) ((g.2.2.2.1)).length (g.2.2.2.2.2.2.2.2.2.2.2.2.1)),(10,.slice (g.2.2.2.2.2.2.2.2.2.2.2.2.2.1) ((g.2.2.2.2.1)).length (g.2.2.2.2.2.2.2.2.2.2.2.2.2.2)),(11,iv y31)]) (fun g=>[slR A0 c0 zA8.rep x0,zBd 3 A87 c87 (zDd .i64) z87,zBd 3 A96 c96 (zDd .i64) z96,slR Ar51 cr51 zA.rep z50.Point.Attrs,slR Ar53 cr53 zAp z50.Point.Hist.Pos.Counts,slR Ar55 cr55 zAp z50.Point.Hist.Neg.Counts,zAr b59 42 [Str (z50.Point.Name),.slice Ar51 (z50.Point.Attrs).length cr51,iv z50.Point.Kind,iv z50.Point.Temp,.bool (z50.Point.Mono),iv z50.Point.Start,iv z50.Point.Time,iv z50.Point.Int_,zAo z50.Point.Re,zAo z50.Point.Im,iv z50.Point.Hist.Scale,zAo z50.Point.Hist.Zero,iv z50.Point.Hist.Pos.Offset,.slice Ar53 (z50.Point.Hist.Pos.Counts).length cr53,iv z50.Point.Hist.Neg.Offset,.slice Ar55 (z50.Point.Hist.Neg.Counts).length cr55,iv z50.Point.Flags],zBd 3 A102 c102 (zDd .i64) y101,zBd 3 A105_0_0 c105_0_0 (zDd .i64) p105,zBd 3 (g.2.2.2.2.2.1) (g.2.2.2.2.2.2.1) (zDd .i64) (g.1),zBd 3 (g.2.2.2.2.2.2.2.1) (g.2.2.2.2.2.2.2.2.1) (zDd .i64) (g.2.1),zBd 35 (g.2.2.2.2.2.2.2.2.2.1) (g.2.2.2.2.2.2.2.2.2.2.1) zAp (g.2.2.1),zBd 35 (g.2.2.2.2.2.2.2.2.2.2.2.1) (g.2.2.2.2.2.2.2.2.2.2.2.2.1) zAp (g.2.2.2.1),zBd 40 (g.2.2.2.2.2.2.2.2.2.2.2.2.2.1) (g.2.2.2.2.2.2.2.2.2.2.2.2.2.2) zA2.rep (g.2.2.2.2.1)]) (fun j g=>j g.1 g.2.1 g.2.2.1 g.2.2.2.1 g.2.2.2.2.1) ?_ ?_
   ·rintro ⟨y110,y113,y116,y119,y122,A111,c111,A114,c114,A117,c117,A120,c120,A123,c123⟩ w125 hm125 hM
    try dsimp only at hM
    refine gg 6 rfl ?_;exact hn48 (y110,z87,z96,y101,y113,y116,y119,y122,(W64 (y31 + 1)),A111,c111,A87,c87,A96,c96,A102,c102,A114,c114,A117,c117,A120,c120,A123,c123) _ _ sA (hm125.pk [0,9,1,2,7,10,11,12,13]) hM
   intro j3 hM hk3;refine gg 6 rfl ?_;refine zB hM (Rn.condD rfl) (fun h126 hM=>?_) (fun h126 hM=>?_)
   ·refine gg 5 rfl (Rn.q rfl (V.ldB isAgg3 rfl (hm108.get 10 rfl) rfl) ?_);obtain ⟨p127,e127,hM⟩:=zA4 hM;refine Rn.cq (cK func128) (zE0 (Z0:=All) e127 (zD9 (hm108.get 3 rfl)) :) ?_;rintro _ w127 ⟨F127_0,A127_0,c127_0,rfl,hq127⟩;refine ⟨_,rfl,?_⟩;have hm129:=hm108.callF (flC (zNj) fl0) hq127;replace hm129:=hm129.nq;have hm131:=hm129.freezeRo 14 rfl;obtain ⟨z132,e132,hM⟩:=zA4 hM;refine Rn.appH hm131 11 rfl e132 rfl rfl rfl underlying91 el3 rfl rfl rfl rfl (hm131.src 14 rfl) ?_;intro A132 c132 w132 hm132;replace hm132:=hm132.nq;refine gg 5 rfl (Rn.q rfl (V.ldB isAgg3 rfl (hm132.get 10 rfl) rfl) ?_);obtain ⟨z134,e134,hM⟩:=zA4 hM;refine Rn.pushH (z:=z50.Point.Int_) (vs:=[iv z50.Point.Int_]) hm132 3 rfl e134 rfl rfl rfl rfl underlying91 el3 rfl rfl rfl rfl (fun _=>rfl) (⟨rfl,trivial⟩) ?_;intro A134 c134 w134 u134 hm134;replace hm134:=hm134.nq;refine gg 3 rfl ?_;exact hk3 (z132,z134,y22,y25,y28,A132,c132,A134,c134,A23,c23,A26,c26,A29,c29) _ _ sA (hm134.pk [0,1,2,7,8,9,10,12,13,11,3,4,5,6]) hM
   ·refine gg 6 rfl ?_;refine Rn.jG hm0 hM (G:=Bool) (fun g=>[(0,.slice A0 (x0).length c0),(3,.slice A108 (z108).length c108),(4,.slice A87 (z87).length c87),(5,.slice A96 (z96).length c96),(6,.slice A102 (y101).length c102),(7,.slice A20 (y19).length c20),(8,.slice A23 (y22).length c23),(9,.slice A26 (y25).length c26),(10,.slice A29 (y28).length c29),(11,iv y31),(12,pt b59 0),(79,iv z50.Point.Kind),(93,.bool (g))]) (fun g=>[slR A0 c0 zA8.rep x0,zBd 3 A87 c87 (zDd .i64) z87,zBd 3 A96 c96 (zDd .i64) z96,zBd 3 A20 c20 (zDd .i64) y19,zBd 35 A23 c23 zAp y22,zBd 35 A26 c26 zAp y25,zBd 40 A29 c29 zA2.rep y28,slR Ar51 cr51 zA.rep z50.Point.Attrs,slR Ar53 cr53 zAp z50.Point.Hist.Pos.Counts,slR Ar55 cr55 zAp z50.Point.Hist.Neg.Counts,zAr b59 42 [Str (z50.Point.Name),.slice Ar51 (z50.Point.Attrs).length cr51,iv z50.Point.Kind,iv z50.Point.Temp,.bool (z50.Point.Mono),iv z50.Point.Start,iv z50.Point.Time,iv z50.Point.Int_,zAo z50.Point.Re,zAo z50.Point.Im,iv z50.Point.Hist.Scale,zAo z50.Point.Hist.Zero,iv z50.Point.Hist.Pos.Offset,.slice Ar53 (z50.Point.Hist.Pos.Counts).length cr53,iv z50.Point.Hist.Neg.Offset,.slice Ar55 (z50.Point.Hist.Neg.Counts).length cr55,iv z50.Point.Flags],zBd 3 A108 c108 (zDd .i64) z108,zBd 3 A102 c102 (zDd .i64) y101,zBd 3 A105_0_0 c105_0_0 (zDd .i64) p105]) (fun j g=>j g) ?_ ?_
    ·rintro y136 w137 hm137 hM
     try dsimp only at hM
     refine zGt hM (Rn.condS rfl) (fun h138 hM=>?_) (fun h138 hM=>?_)
     ·refine gg 5 rfl (Rn.q rfl (V.ldB isAgg35 rfl (hm137.get 10 rfl) rfl) ?_);obtain ⟨p139,e139,hM⟩:=zA4 hM
      refine Rn.c2 (cK func130) (zEt (Z0:=All) e139 (zD9 (hm137.get 4 rfl)) :) fun A139_0_0 c139_0_0 w139 hq139=>?_
      have hm141:=hm137.callF (flC (zAl (zBe _) _ _ _ _) fl0) hq139;replace hm141:=hm141.nq;obtain ⟨z142,e142,hM⟩:=zA4 hM;refine Rn.appH hm141 11 rfl e142 rfl rfl rfl underlying91 el3 rfl rfl rfl rfl (hm141.srcO 14 rfl) ?_;intro A142 c142 w142 hm142;replace hm142:=hm142.nq;refine gg 5 rfl (Rn.q rfl (V.ldB isAgg35 rfl (hm142.get 10 rfl) rfl) ?_);obtain ⟨z144,e144,hM⟩:=zA4 hM;refine Rn.pushH (z:=z50.Point.Re) (vs:=[zAo z50.Point.Re]) hm142 4 rfl e144 rfl rfl rfl rfl underlying36 zU1 rfl rfl rfl rfl (fun _=>rfl) (⟨rfl,trivial⟩) ?_;intro A144 c144 w144 u144 hm144;replace hm144:=hm144.nq;refine gg 3 rfl ?_;exact hk3 (z142,y19,z144,y25,y28,A142,c142,A20,c20,A144,c144,A26,c26,A29,c29) _ _ sA (hm144.pk [0,1,2,7,8,9,10,12,13,11,3,4,5,6]) hM
     ·refine gg 5 rfl ?_;refine zB hM (Rn.condD rfl) (fun h146 hM=>?_) (fun h146 hM=>?_)
      ·refine gg 5 rfl (Rn.q rfl (V.ldBA [_,_,_,_,_,_] isAgg40 sizeOf40 rfl (hm137.get 10 rfl) rfl rfl) ?_);obtain ⟨p147,e147,hM⟩:=zA4 hM
       refine Rn.c2 (cK func131) (zLi (Z0:=All) e147 (show zA2.rep.rel All _ _ _ from ⟨_,_,rfl,⟨rfl,trivial⟩,⟨_,_,rfl,⟨rfl,trivial⟩,⟨_,_,rfl,⟨_,_,rfl,⟨rfl,trivial⟩,⟨_,_,rfl,(zA1 (hm137.get 8 rfl)).1,(zA1 (hm137.get 8 rfl)).2.1,(zA1 (hm137.get 8 rfl)).2.2⟩⟩,⟨_,_,rfl,⟨rfl,trivial⟩,⟨_,_,rfl,(zA1 (hm137.get 9 rfl)).1,(zA1 (hm137.get 9 rfl)).2.1,(zA1 (hm137.get 9 rfl)).2.2⟩⟩⟩⟩⟩) (zD9 (hm137.get 6 rfl)) :) fun A147_0_0 c147_0_0 w147 hq147=>?_
       have hm149:=hm137.callF (flC (zAl (zBe _) _ _ _ _) fl0) hq147;replace hm149:=hm149.nq;obtain ⟨z150,e150,hM⟩:=zA4 hM;refine Rn.appH hm149 11 rfl e150 rfl rfl rfl underlying91 el3 rfl rfl rfl rfl (hm149.srcO 14 rfl) ?_;intro A150 c150 w150 hm150;replace hm150:=hm150.nq;refine gg 5 rfl (Rn.q rfl (V.ldBA [_,_,_,_,_,_] isAgg40 sizeOf40 rfl (hm150.get 10 rfl) rfl rfl) ?_);obtain ⟨z152,e152,hM⟩:=zA4 hM;refine Rn.pushH (z:=z50.Point.Hist) (vs:=[iv z50.Point.Hist.Scale,zAo z50.Point.Hist.Zero,iv z50.Point.Hist.Pos.Offset,.slice Ar53 (z50.Point.Hist.Pos.Counts).length cr53,iv z50.Point.Hist.Neg.Offset,.slice Ar55 (z50.Point.Hist.Neg.Counts).length cr55]) hm150 6 rfl e152 rfl rfl rfl rfl underlying97 el40 rfl rfl rfl rfl (fun _=>rfl) (⟨_,_,rfl,⟨rfl,trivial⟩,⟨_,_,rfl,⟨rfl,trivial⟩,⟨_,_,rfl,⟨_,_,rfl,⟨rfl,trivial⟩,⟨_,_,rfl,(hm150.get 8 rfl).1,(hm150.get 8 rfl).2.1,(hm150.get 8 rfl).2.2⟩⟩,⟨_,_,rfl,⟨rfl,trivial⟩,⟨_,_,rfl,(hm150.get 9 rfl).1,(hm150.get 9 rfl).2.1,(hm150.get 9 rfl).2.2⟩⟩⟩⟩⟩) ?_;intro A152 c152 w152 u152 hm152;replace hm152:=hm152.nq;refine gg 3 rfl ?_;exact hk3 (z150,y19,y22,y25,z152,A150,c150,A20,c20,A23,c23,A26,c26,A152,c152) _ _ sA (hm152.pk [0,1,2,7,8,9,10,12,13,11,3,4,5,6]) hM
      ·refine gg 5 rfl ?_;refine zB hM (Rn.condD rfl) (fun h154 hM=>?_) (fun h154 hM=>?_)
       ·refine gg 5 rfl (Rn.q rfl (V.ldB isAgg35 rfl (hm137.get 10 rfl) rfl) ?_);obtain ⟨p155,e155,hM⟩:=zA4 hM
        refine Rn.c2 (cK func130) (zEt (Z0:=All) e155 (zD9 (hm137.get 4 rfl)) :) fun A155_0_0 c155_0_0 w155 hq155=>?_
        have hm157:=hm137.callF (flC (zAl (zBe _) _ _ _ _) fl0) hq155;replace hm157:=hm157.nq;obtain ⟨z158,e158,hM⟩:=zA4 hM;refine Rn.appH hm157 11 rfl e158 rfl rfl rfl underlying91 el3 rfl rfl rfl rfl (hm157.srcO 14 rfl) ?_;intro A158 c158 w158 hm158;replace hm158:=hm158.nq;refine gg 6 rfl (Rn.q rfl (V.ldB isAgg35 rfl (hm158.get 10 rfl) rfl) ?_);obtain ⟨z160,e160,hM⟩:=zA4 hM;refine Rn.pushH (z:=z50.Point.Re) (vs:=[zAo z50.Point.Re]) hm158 4 rfl e160 rfl rfl rfl rfl underlying36 zU1 rfl rfl rfl rfl (fun _=>rfl) (⟨rfl,trivial⟩) ?_;intro A160 c160 w160 u160 hm160;replace hm160:=hm160.nq;refine gg 7 rfl (Rn.q rfl (V.ldB isAgg35 rfl (hm160.get 10 rfl) rfl) ?_);obtain ⟨p162,e162,hM⟩:=zA4 hM
        refine Rn.c2 (cK func130) (zEt (Z0:=All) e162 (zD9 (hm160.get 5 rfl)) :) fun A162_0_0 c162_0_0 w162 hq162=>?_
        have hm164:=hm160.callF (flC (zAl (zBe _) _ _ _ _) fl0) hq162;replace hm164:=hm164.nq;obtain ⟨z165,e165,hM⟩:=zA4 hM;refine Rn.appH hm164 11 rfl e165 rfl rfl rfl underlying91 el3 rfl rfl rfl rfl (hm164.srcO 15 rfl) ?_;intro A165 c165 w165 hm165;replace hm165:=hm165.nq;refine gg 5 rfl (Rn.q rfl (V.ldB isAgg35 rfl (hm165.get 10 rfl) rfl) ?_);obtain ⟨z167,e167,hM⟩:=zA4 hM;refine Rn.pushH (z:=z50.Point.Im) (vs:=[zAo z50.Point.Im]) hm165 5 rfl e167 rfl rfl rfl rfl underlying36 zU1 rfl rfl rfl rfl (fun _=>rfl) (⟨rfl,trivial⟩) ?_;intro A167 c167 w167 u167 hm167;replace hm167:=hm167.nq;refine gg 3 rfl ?_;exact hk3 (z165,y19,z160,z167,y28,A165,c165,A20,c20,A160,c160,A167,c167,A29,c29) _ _ sA (hm167.pk [0,1,2,7,8,9,10,12,13,11,3,4,5,6]) hM
       ·refine gg 2 rfl ?_;exact hk3 (z108,y19,y22,y25,y28,A108,c108,A20,c20,A23,c23,A26,c26,A29,c29) _ _ sA (hm137.pk [0,1,2,7,8,9,10,12,13,11,3,4,5,6]) hM
    intro j4 hM hk4;refine zB hM (Rn.condD rfl) (fun h169 hM=>?_) (fun h169 hM=>?_)
    ·refine gg 1 rfl ?_;exact hk4 (decide (z50.Point.Kind = 2)) _ _ sA (hm108.pk [0,1,2,3,4,5,6,7,8,9,10,11,12,13]) hM
    ·refine gg 4 rfl ?_;exact hk4 (decide (z50.Point.Kind = 3)) _ _ sA (hm108.pk [0,1,2,3,4,5,6,7,8,9,10,11,12,13]) hM
  intro j2 hM hk2;refine zB hM (Rn.condD rfl) (fun h170 hM=>?_) (fun h170 hM=>?_)
  ·refine gg 5 rfl (Rn.q rfl (V.ldB isAgg3 rfl (hm96.get 13 rfl) rfl) (gg 1 rfl (Rn.q rfl (V.ldB isAgg3 rfl (hm96.get 13 rfl) rfl) (gg 1 rfl ?_))));obtain ⟨p171,e171,hM⟩:=zA4 hM;refine Rn.cq (cK func128) (zE0 (Z0:=All) e171 (zD9 (hm96.get 4 rfl)) :) ?_;rintro _ w171 ⟨F171_0,A171_0,c171_0,rfl,hq171⟩;refine ⟨_,rfl,?_⟩;have hm173:=hm96.callF (flC (zNj) fl0) hq171;replace hm173:=hm173.nq;have hm175:=hm173.freezeRo 24 rfl;obtain ⟨z176,e176,hM⟩:=zA4 hM;refine Rn.appH hm175 1 rfl e176 rfl rfl rfl underlying91 el3 rfl rfl rfl rfl (hm175.src 24 rfl) ?_;intro A176 c176 w176 hm176;replace hm176:=hm176.nq;refine gg 5 rfl (Rn.q rfl (V.ldB isAgg3 rfl (hm176.get 13 rfl) rfl) (gg 1 rfl (Rn.q rfl (V.ldB isAgg3 rfl (hm176.get 13 rfl) rfl) (gg 1 rfl ?_))));obtain ⟨z178,e178,hM⟩:=zA4 hM;refine Rn.pushH (z:=W64 (z50.Point.Time - z50.Point.Start)) (vs:=[iv (W64 (z50.Point.Time - z50.Point.Start))]) hm176 4 rfl e178 rfl rfl rfl rfl underlying91 el3 rfl rfl rfl rfl (fun _=>rfl) (⟨rfl,trivial⟩) ?_;intro A178 c178 w178 u178 hm178;replace hm178:=hm178.nq;refine gg 2 rfl ?_;exact hk2 (z176,z178,A176,c176,A178,c178) _ _ sA (hm178.pk [0,2,3,5,6,7,8,10,11,12,13,1,4]) hM
  ·refine gg 1 rfl ?_;exact hk2 (z94,y16,A94,c94,A17,c17) _ _ sA (hm96.pk [0,2,3,5,6,7,8,10,11,12,13,1,4]) hM
 ·refine gg 1 rfl ?_;exact hk1 (y7,A8,c8) _ _ sA (hm48.pk [1]) hM
theorem zH9 {x0 : Int} {r : UInt64} (hM : zDy x0 = some r)  :
    Calls prog 91 #[iv x0] w fun x w'=>x = .returned (zAo r) ∧ Hp Z0 No w w' []:=by
 have hm0:=Hp.nil Z0 No w;have hc0:=zD1.nil;refine Rn.en func91 ?_;refine gg 13 rfl ?_;refine Rn.jG hm0 hM (G:=UInt64) (fun g=>[(3,zAo g)]) (fun g=>[]) (fun j g=>j g) ?_ ?_
 ·rintro y1 w2 hm2 hM
  try dsimp only at hM
  refine gg 5 rfl ?_
  cases hM
  exact Rn.R1 func91 ⟨rfl,hm2.pk []⟩
 intro j1 hM hk1;refine gg 1 rfl ?_;refine Rn.loopF (G:=UInt64 × Int) (fun g=>[(0,iv x0),(3,zAo (g.1)),(4,iv (g.2))]) (fun g w'=>Hp Z0 No w w' []) (fun n g=>zC7 x0 j1 n g.1 g.2) fuel ((1 : UInt64),0) sA (hm0.pk []) hM (fun _=>rfl) ?_;clear hM;rintro m5 ⟨y3,y4⟩ w5 hm5 hM hn5;replace hM : zC7 x0 j1 (m5 + 1) y3 y4 = some r:=hM;rw [zC7] at hM;refine gg 7 rfl ?_;refine zB hM (Rn.condD rfl) (fun h6 hM=>?_) (fun h6 hM=>?_)
 ·refine gg 5 rfl (Rn.q rfl (V.ari64 (a:=(2 : UInt64)) (b:=y3) rfl rfl _ rfl (zLm _ _)) (gg 8 rfl ?_));exact hn5 (((2 : UInt64) * y3),(W64 (y4 + 1))) _ _ sA (hm5.pk []) hM
 ·refine gg 1 rfl ?_;exact hk1 y3 _ _ sA (hm5.pk []) hM
theorem zK5 {x0 : UInt64} {r : Int} (hM : zEq x0 = some r)  :
    Calls prog 92 #[zAo x0] w fun x w'=>x = .returned (iv r) ∧ Hp Z0 No w w' []:=by
 have hm0:=Hp.nil Z0 No w;have hc0:=zD1.nil;refine Rn.en func92 ?_;refine gg 9 rfl ?_;refine Rn.jG hm0 hM (G:=Unit) (fun g=>[]) (fun g=>[]) (fun j g=>j ()) ?_ ?_
 ·rintro _ w1 hm1 hM
  try dsimp only at hM
  refine gg 4 rfl ?_
  cases hM
  exact Rn.R1 func92 ⟨rfl,hm1.pk []⟩
 intro j1 hM hk1;refine gg 1 rfl ?_;refine Rn.loopF (G:=Int) (fun g=>[(0,zAo x0),(3,iv g)]) (fun g w'=>Hp Z0 No w w' []) (fun n g=>zC3 x0 j1 n g) fuel 0 sA (hm0.pk []) hM (fun _=>rfl) ?_;clear hM;rintro m3 y2 w3 hm3 hM hn3;replace hM : zC3 x0 j1 (m3 + 1) y2 = some r:=hM;rw [zC3] at hM;refine gg 6 rfl ?_;refine zB hM (Rn.condD rfl) (fun h4 hM=>?_) (fun h4 hM=>?_)
 ·refine gg 9 rfl ?_;obtain ⟨p5,e5,hM⟩:=zA4 hM
  refine Rn.c0 (cK func91) (zH9 (Z0:=All) e5  :) hm3 fun w5 _ hm6=>?_
  refine Rn.q rfl (V.lss rfl rfl) (gg 1 rfl ?_);refine zB hM (Rn.condD rfl) (fun h7 hM=>?_) (fun h7 hM=>?_)
  ·refine gg 5 rfl ?_
   cases hM
   exact Rn.R1 func92 ⟨rfl,hm6.pk []⟩
  ·refine gg 7 rfl ?_;exact hn3 (W64 (y2 + 1)) _ _ sA (hm6.pk []) hM
 ·refine gg 1 rfl ?_;exact hk1 () _ _ (sb trivial) (hm3.pk []) hM
theorem zG4 {x0 : UInt64} {r : (List UInt8)} (hM : zDs x0 = some r)  :
    Calls prog 72 #[zAo x0] w fun x w'=>∃ A_0_0 c_0_0,x = .returned (.slice A_0_0 (r).length c_0_0) ∧ Hp Z0 No w w' [zBd 5 A_0_0 c_0_0 zCa r]:=by
 have hm0:=Hp.nil Z0 No w;have hc0:=zD1.nil;refine Rn.en func72 ?_;refine gg 7 rfl ?_;obtain ⟨p1,e1,hM⟩:=zA4 hM
 refine Rn.c0 (cK func92) (zK5 (Z0:=All) e1  :) hm0 fun w1 _ hm2=>?_
 refine gg 11 rfl ?_;refine Rn.jG hm0 hM (G:=UInt64 × (List UInt8) × Option Addr × Nat) (fun g=>[(0,zAo (g.1)),(3,iv p1),(4,.slice (g.2.2.1) ((g.2.1)).length (g.2.2.2))]) (fun g=>[zBd 5 (g.2.2.1) (g.2.2.2) zCa (g.2.1)]) (fun j g=>j g.1 g.2.1) ?_ ?_
 ·rintro ⟨y3,y4,A5,c5⟩ w7 hm7 hM
  try dsimp only at hM
  refine gg 9 rfl ?_;refine Rn.jG hm0 hM (G:=Int) (fun g=>[(0,zAo y3),(3,iv p1),(4,.slice A5 (y4).length c5),(6,iv g)]) (fun g=>[zBd 5 A5 c5 zCa y4]) (fun j g=>j g) ?_ ?_
  ·rintro y8 w9 hm9 hM
   try dsimp only at hM
   refine gg 6 rfl ?_;refine Rn.jG hm0 hM (G:=Int) (fun g=>[(4,.slice A5 (y4).length c5),(6,iv g)]) (fun g=>[zBd 5 A5 c5 zCa y4]) (fun j g=>j g) ?_ ?_
   ·rintro y10 w11 hm11 hM
    try dsimp only at hM
    refine gg 3 rfl (Rn.q rfl (V.cv8 underlying3 underlying5 rfl) (Rn.bslS rfl rfl rfl underlying22 el5 rfl rfl rfl rfl (by first|exact szs rfl|(simp [Value.cells];done)) (by decide) ?_));intro b12 w12 hb12 m12 e12;have hm13:=hm11.addLit (rep:=zCa) (xs:=([toU8 y10] : List UInt8)) (vss:=[[u8v (toU8 y10)]]) hb12 e12 m12 rfl rfl rfl ((zCq (fun _ _=>⟨rfl,trivial⟩) zMs));refine gg 1 rfl ?_;obtain ⟨z15,e15,hM⟩:=zA4 hM;refine Rn.appH hm13 1 rfl e15 rfl rfl rfl underlying22 el5 rfl rfl rfl rfl (hm13.srcO 0 rfl) ?_;intro A15 c15 w15 hm15;refine gg 2 rfl ?_
    cases hM
    exact Rn.R1 func72 ⟨A15,c15,rfl,hm15.pk [1]⟩
   intro j3 hM hk3;refine zB hM (Rn.condD rfl) (fun h17 hM=>?_) (fun h17 hM=>?_)
   ·refine gg 3 rfl (Rn.q rfl (V.cvW underlying35 underlying3 rfl) (gg 3 rfl ?_));exact hk3 (W64 (y8 + (W64 ((y3).toNat : Int)))) _ _ sA (hm9.pk [0]) hM
   ·refine gg 1 rfl ?_;exact hk3 y8 _ _ sA (hm9.pk [0]) hM
  intro j2 hM hk2;refine gg 1 rfl ?_;refine Rn.loopF (G:=Int × Int) (fun g=>[(0,zAo y3),(3,iv p1),(4,.slice A5 (y4).length c5),(6,iv (g.1)),(7,iv (g.2))]) (fun g w'=>Hp Z0 No w w' [zBd 5 A5 c5 zCa y4]) (fun n g=>zCg p1 j2 n g.1 g.2) fuel (0,0) sA (hm7.pk [0]) hM (fun _=>rfl) ?_;clear hM;rintro m20 ⟨y18,y19⟩ w20 hm20 hM hn20;replace hM : zCg p1 j2 (m20 + 1) y18 y19 = some r:=hM;rw [zCg] at hM;refine gg 7 rfl ?_;refine zB hM (Rn.condD rfl) (fun h21 hM=>?_) (fun h21 hM=>?_)
  ·refine gg 6 rfl ?_;obtain ⟨p22,e22,hM⟩:=zA4 hM
   refine Rn.c0 (cK func91) (zH9 (Z0:=All) e22  :) hm20 fun w22 _ hm23=>?_
   refine Rn.q rfl (V.cvW underlying35 underlying3 rfl) ?_;obtain ⟨z24,e24,hM⟩:=zA4 hM;refine Rn.q rfl (V.quoZ rfl rfl e24) (gg 9 rfl ?_);exact hn20 ((W64 (y18 + z24)),(W64 (y19 + 1))) _ _ sA (hm23.pk [0]) hM
  ·refine gg 1 rfl ?_;exact hk2 y18 _ _ sA (hm20.pk [0]) hM
 intro j1 hM hk1;refine gg 1 rfl ?_;have hm30:=hm2.addNil 5 zCa;refine Rn.loopF (G:=UInt64 × (List UInt8) × Int × Option Addr × Nat) (fun g=>[(0,zAo (g.1)),(3,iv p1),(4,.slice (g.2.2.2.1) ((g.2.1)).length (g.2.2.2.2)),(5,iv (g.2.2.1))]) (fun g w'=>Hp Z0 No w w' [zBd 5 (g.2.2.2.1) (g.2.2.2.2) zCa (g.2.1)]) (fun n g=>zCf p1 j1 n g.1 g.2.1 g.2.2.1) fuel (x0,([] : List UInt8),0,none,0) sA (hm30.pk [0]) hM (fun _=>rfl) ?_;clear hM;rintro m32 ⟨y25,y26,y29,A27,c27⟩ w32 hm32 hM hn32;replace hM : zCf p1 j1 (m32 + 1) y25 y26 y29 = some r:=hM;rw [zCf] at hM;refine gg 7 rfl ?_;refine zB hM (Rn.condD rfl) (fun h33 hM=>?_) (fun h33 hM=>?_)
 ·refine gg 6 rfl ?_;obtain ⟨z34,e34,hM⟩:=zA4 hM;refine Rn.q rfl (V.rem64 rfl rfl e34) (Rn.q rfl (V.cv8 underlying35 underlying5 rfl) (Rn.bslS rfl rfl rfl underlying22 el5 rfl rfl rfl rfl (by first|exact szs rfl|(simp [Value.cells];done)) (by decide) ?_));intro b35 w35 hb35 m35 e35;have hm36:=hm32.addLit (rep:=zCa) (xs:=([toU8 ((z34).toNat : Int)] : List UInt8)) (vss:=[[u8v (toU8 ((z34).toNat : Int))]]) hb35 e35 m35 rfl rfl rfl ((zCq (fun _ _=>⟨rfl,trivial⟩) zMs));refine gg 1 rfl ?_;obtain ⟨z38,e38,hM⟩:=zA4 hM;refine Rn.appH hm36 1 rfl e38 rfl rfl rfl underlying22 el5 rfl rfl rfl rfl (hm36.srcO 0 rfl) ?_;intro A38 c38 w38 hm38;refine gg 4 rfl ?_;obtain ⟨z40,e40,hM⟩:=zA4 hM;refine Rn.q rfl (V.quo64 rfl rfl e40) (gg 8 rfl ?_);exact hn32 (z40,z38,(W64 (y29 + 1)),A38,c38) _ _ sA (hm38.pk [1]) hM
 ·refine gg 1 rfl ?_;exact hk1 (y25,y26,A27,c27) _ _ sA (hm32.pk [0]) hM
theorem zL0 {x0 : (List UInt8)} {r : (List UInt8)} (hM : zFn x0 = some r)  :
    Calls prog 71 #[Str (x0)] w fun x w'=>∃ A_0_0 c_0_0,x = .returned (.slice A_0_0 (r).length c_0_0) ∧ Hp Z0 No w w' [zBd 5 A_0_0 c_0_0 zCa r]:=by
 have hm0:=Hp.nil Z0 No w;have hc0:=zD1.nil;refine Rn.en func71 ?_;refine gg 7 rfl (Rn.q rfl (V.lenS underlying9 rfl) (Rn.q rfl (V.cv64 underlying3 underlying35 rfl) ?_));obtain ⟨p1,e1,hM⟩:=zA4 hM
 refine Rn.c2 (cK func72) (zG4 (Z0:=All) e1  :) fun A1_0_0 c1_0_0 w1 hq1=>?_
 have hm3:=hm0.callF (flC (zAl zE9 _ _ _ _) fl0) hq1;refine gg 1 rfl ?_;obtain ⟨z4,e4,hM⟩:=zA4 hM;refine Rn.appSH hm3 0 rfl e4 rfl rfl rfl underlying22 underlying9 el5 rfl rfl rfl ?_;intro A4 c4 w4 hm4;refine gg 2 rfl ?_
 cases hM
 exact Rn.R1 func71 ⟨A4,c4,rfl,hm4.pk [0]⟩
theorem zKn {x0 : (List Int)} {r : (List UInt8)} (hM : zF0 x0 = some r) (f0 : (slR A0 c0 (zDd .i64) x0).H Z0 w) :
    Calls prog 73 #[.slice A0 (x0).length c0] w fun x w'=>∃ A_0_0 c_0_0,x = .returned (.slice A_0_0 (r).length c_0_0) ∧ Hp Z0 No w w' [zBd 5 A_0_0 c_0_0 zCa r]:=by
 have hm0:=Hp.nil Z0 No w;have hc0:=zD1.nil;have hm2:=hm0.know (slR A0 c0 (zDd .i64) x0) (fun _ h=>h) (hm0.in0 hc0 f0);replace hc0:=hc0.snoc (r:=slR A0 c0 (zDd .i64) x0) (fun _ h=>h);refine Rn.en func73 ?_;refine gg 13 rfl ?_;refine Rn.jG hm0 hM (G:=(List UInt8) × Option Addr × Nat) (fun g=>[(3,.slice (g.2.1) ((g.1)).length (g.2.2))]) (fun g=>[zBd 5 (g.2.1) (g.2.2) zCa (g.1)]) (fun j g=>j g.1) ?_ ?_
 ·rintro ⟨y3,A4,c4⟩ w6 hm6 hM
  try dsimp only at hM
  refine gg 5 rfl ?_
  cases hM
  exact Rn.R1 func73 ⟨A4,c4,rfl,hm6.pk [0]⟩
 intro j1 hM hk1;refine gg 1 rfl ?_;have hm11:=hm2.addNil 5 zCa;refine Rn.loopF (G:=(List UInt8) × Int × Option Addr × Nat) (fun g=>[(0,.slice A0 (x0).length c0),(3,.slice (g.2.2.1) ((g.1)).length (g.2.2.2)),(4,iv (g.2.1))]) (fun g w'=>Hp Z0 No w w' [slR A0 c0 (zDd .i64) x0,zBd 5 (g.2.2.1) (g.2.2.2) zCa (g.1)]) (fun n g=>zBw x0 j1 n g.1 g.2.1) fuel (([] : List UInt8),0,none,0) sA (hm11.pk [0,1]) hM (fun _=>rfl) ?_;clear hM;rintro m13 ⟨y7,y10,A8,c8⟩ w13 hm13 hM hn13;replace hM : zBw x0 j1 (m13 + 1) y7 y10 = some r:=hM;rw [zBw] at hM;refine gg 5 rfl (Rn.q rfl (V.lenV underlying91 rfl) (gg 2 rfl ?_));refine zB hM (Rn.condD rfl) (fun h14 hM=>?_) (fun h14 hM=>?_)
 ·refine gg 12 rfl ?_;refine Rn.jG hm0 hM (G:=Int) (fun g=>[(0,.slice A0 (x0).length c0),(3,.slice A8 (y7).length c8),(4,iv y10),(5,iv g)]) (fun g=>[slR A0 c0 (zDd .i64) x0,zBd 5 A8 c8 zCa y7]) (fun j g=>j g) ?_ ?_
  ·rintro y15 w16 hm16 hM
   try dsimp only at hM
   refine gg 3 rfl (Rn.q rfl (V.cv8 underlying3 underlying5 rfl) ?_);obtain ⟨z17,e17,hM⟩:=zA4 hM;refine Rn.pushH (z:=toU8 y15) (vs:=[u8v (toU8 y15)]) hm16 1 rfl e17 rfl rfl rfl rfl underlying22 el5 rfl rfl rfl rfl (fun _=>rfl) (⟨rfl,trivial⟩) ?_;intro A17 c17 w17 u17 hm17;refine gg 8 rfl ?_;exact hn13 (z17,(W64 (y10 + 8)),A17,c17) _ _ sA (hm17.pk [0,1]) hM
  intro j2 hM hk2;refine gg 1 rfl ?_;refine Rn.loopF (G:=Int × Int) (fun g=>[(0,.slice A0 (x0).length c0),(3,.slice A8 (y7).length c8),(4,iv y10),(5,iv (g.1)),(6,iv (g.2))]) (fun g w'=>Hp Z0 No w w' [slR A0 c0 (zDd .i64) x0,zBd 5 A8 c8 zCa y7]) (fun n g=>zC8 x0 y10 j2 n g.1 g.2) fuel (0,0) sA (hm13.pk [0,1]) hM (fun _=>rfl) ?_;clear hM;rintro m21 ⟨y19,y20⟩ w21 hm21 hM hn21;replace hM : zC8 x0 y10 j2 (m21 + 1) y19 y20 = some r:=hM;rw [zC8] at hM;refine gg 6 rfl ?_;refine zB hM (Rn.condD rfl) (fun h22 hM=>?_) (fun h22 hM=>?_)
  ·refine gg 2 rfl ?_;refine Rn.jG hm0 hM (G:=Int) (fun g=>[(0,.slice A0 (x0).length c0),(3,.slice A8 (y7).length c8),(4,iv y10),(5,iv g),(6,iv y20)]) (fun g=>[slR A0 c0 (zDd .i64) x0,zBd 5 A8 c8 zCa y7]) (fun j g=>j g) ?_ ?_
   ·rintro y23 w24 hm24 hM
    try dsimp only at hM
    refine gg 5 rfl ?_;exact hn21 (y23,(W64 (y20 + 1))) _ _ sA (hm24.pk [0,1]) hM
   intro j3 hM hk3;refine gg 13 rfl (Rn.q rfl (V.lenV underlying91 rfl) (gg 2 rfl ?_));refine zB hM (Rn.condD rfl) (fun h25 hM=>?_) (fun h25 hM=>?_)
   ·refine gg 6 rfl ?_;obtain ⟨z26,e26,hM⟩:=zA4 hM;refine Rn.ixH hm21 0 rfl e26 rfl rfl rfl underlying91 sizeOf3 rfl rfl rfl rfl ?_;rintro b26 o26 vs26 ⟨rfl,_⟩ hm26;refine Rn.q rfl (V.ldR0 isAgg3 rfl (hm26.get 2 rfl).2 rfl) (gg 4 rfl ?_);exact hk3 (W64 ((W64 (2 * y19)) + z26)) _ _ sA (hm26.pk [0,1]) hM
   ·refine gg 2 rfl ?_;exact hk3 (W64 (2 * y19)) _ _ sA (hm21.pk [0,1]) hM
  ·refine gg 1 rfl ?_;exact hk2 y19 _ _ sA (hm21.pk [0,1]) hM
 ·refine gg 1 rfl ?_;exact hk1 (y7,A8,c8) _ _ sA (hm13.pk [1]) hM
theorem zH5 {x0 : (List UInt8)} {x1 : (List zA8)} {r : (List UInt8)} (hM : zDb x0 x1 = some r) (f0 : (slR A1 c1 zA8.rep x1).H Z0 w) :
    Calls prog 29 #[Str (x0),.slice A1 (x1).length c1] w fun x w'=>∃ F_0 A_0 c_0,x = .returned (.slice A_0 (r).length c_0) ∧ Hp Z0 No w w' [roR F_0 A_0 c_0 zCa r]:=by
 have hm0:=Hp.nil Z0 No w;have hc0:=zD1.nil;have hm2:=hm0.know (slR A1 c1 zA8.rep x1) (fun _ h=>h) (hm0.in0 hc0 f0);replace hc0:=hc0.snoc (r:=slR A1 c1 zA8.rep x1) (fun _ h=>h);refine Rn.en func29 ?_;refine gg 7 rfl ?_;obtain ⟨p3,e3,hM⟩:=zA4 hM
 refine Rn.c2 (cK func70) (zKv (Z0:=All) e3 (zA1 (hm2.get 0 rfl)) :) fun A3_0_0 c3_0_0 w3 hq3=>?_
 have hm5:=hm2.callF (flC (zAl (zBe _) _ _ _ _) fl0) hq3;refine gg 3 rfl ?_;refine Rn.drawH rfl hm5 ?_;intro w6 hm6;refine dq [0,3] ?_;refine RH.tk 4 rfl (fun w' hDr=>V.lenV underlying24 rfl) ?_;refine RH.tk 5 rfl (fun w' hDr=>V.cv64 underlying3 underlying35 rfl) ?_;refine dq [9] ?_;refine RH.tk 10 rfl (fun w' hDr=>V.lenV underlying91 rfl) ?_;refine RH.tk 11 rfl (fun w' hDr=>V.cv64 underlying3 underlying35 rfl) ?_;refine dq [15] ?_;obtain ⟨p7,e7,hM⟩:=zA4 hM;refine RH.cq (cK func71) 1 (zL0 (Z0:=All) e7  :) ?_;rintro _ w7 ⟨A7_0_0,c7_0_0,rfl,hq7⟩;refine ⟨_,rfl,((Ext.refl _).trans hq7.fr),?_⟩;have hm9:=hm6.callF (flC (zAl zE9 _ _ _ _) fl0) hq7;refine RG.str (S1:=fun w'=>Ext w7 w') (fun _ hh=>((Ext.refl _).trans hq7.fr).trans hh) (Ext.refl _) ?_;refine RH.tk 2 rfl (fun w' hDr=>V.b2s underlying22 underlying9 underlying5 rfl rfl (Own.sl ((hm9.ext hDr).get 2 rfl))) ?_;obtain ⟨p10,e10,hM⟩:=zA4 hM;refine RH.cq (cK func72) 6 (zG4 (Z0:=All) e10  :) ?_;rintro _ w10 ⟨A10_0_0,c10_0_0,rfl,hq10⟩;refine ⟨_,rfl,((Ext.refl _).trans hq10.fr),?_⟩;have hm12:=hm9.callF (flC (zAl zE9 _ _ _ _) fl0) hq10;refine RG.str (S1:=fun w'=>Ext w10 w') (fun _ hh=>((Ext.refl _).trans hq10.fr).trans hh) (Ext.refl _) ?_;refine RH.tk 7 rfl (fun w' hDr=>V.b2s underlying22 underlying9 underlying5 rfl rfl (Own.sl ((hm12.ext hDr).get 3 rfl))) ?_;obtain ⟨z13,e13,hM⟩:=zA4 hM;refine RH.tk 8 rfl (fun w' hDr=>V.catZ rfl rfl e13) ?_;obtain ⟨p14,e14,hM⟩:=zA4 hM;refine RH.cq (cK func72) 12 (zG4 (Z0:=All) e14  :) ?_;rintro _ w14 ⟨A14_0_0,c14_0_0,rfl,hq14⟩;refine ⟨_,rfl,((Ext.refl _).trans hq14.fr),?_⟩;have hm16:=hm12.callF (flC (zAl zE9 _ _ _ _) fl0) hq14;refine RG.str (S1:=fun w'=>Ext w14 w') (fun _ hh=>((Ext.refl _).trans hq14.fr).trans hh) (Ext.refl _) ?_;refine RH.tk 13 rfl (fun w' hDr=>V.b2s underlying22 underlying9 underlying5 rfl rfl (Own.sl ((hm16.ext hDr).get 4 rfl))) ?_;obtain ⟨z17,e17,hM⟩:=zA4 hM;refine RH.tk 14 rfl (fun w' hDr=>V.catZ rfl rfl e17) ?_;obtain ⟨p18,e18,hM⟩:=zA4 hM;refine RH.cq (cK func73) 16 (zKn (Z0:=All) e18 (zD9 (hm16.get 1 rfl)) :) ?_;rintro _ w18 ⟨A18_0_0,c18_0_0,rfl,hq18⟩;refine ⟨_,rfl,((Ext.refl _).trans hq18.fr),?_⟩;have hm20:=hm16.callF (flC (zAl zE9 _ _ _ _) fl0) hq18
 refine RH.here fun hS17=>RH.on 17 rfl (V.b2s underlying22 underlying9 underlying5 rfl rfl (Own.sl (hm20.get 5 rfl))) hS17 ?_
 obtain ⟨z21,e21,hM⟩:=zA4 hM
 refine RH.here fun hS18=>RH.on 18 rfl (V.catZ rfl rfl e21) hS18 ?_
 refine dq [19] ?_;refine RH.doneP (by kernel_rfl) ?_;refine gg 3 rfl ?_;obtain ⟨z22,e22,hM⟩:=zA4 hM;refine Rn.s2bRo hm20 e22 rfl rfl rfl underlying9 underlying22 underlying5 rfl ?_;intro F22 A22 c22 w22 hm22;refine gg 2 rfl ?_
 cases hM
 exact Rn.R1 func29 ⟨F22,A22,c22,rfl,hm22.pk [6]⟩
theorem zLg {x0 : (List UInt8)} {x1 : (List zA8)} {x2 : Int} {x3 : zA8} {r : Int} (hM : zEf x0 x1 x2 x3 = some r) (h3 : zA8.rep.rel Z0 w cs3 x3) (f0 : (slR A1 c1 zA8.rep x1).H Z0 w) :
    Calls prog 16 #[Str (x0),.slice A1 (x1).length c1,iv x2,.agg cs3.toArray] w fun x w'=>x = .returned (iv r) ∧ Hp Z0 No w w' []:=by
 have hm0:=Hp.nil Z0 No w;have hc0:=zD1.nil;obtain ⟨Ar2,cr2,Ar4,cr4,Ar6,cr6,rfl,fs2,fs4,fs6⟩:=zA8.relE h3;have hm8:=hm0.know (slR Ar2 cr2 zA.rep x3.Point.Attrs) (fun _ h=>h) (hm0.in0 hc0 fs2);replace hc0:=hc0.snoc (r:=slR Ar2 cr2 zA.rep x3.Point.Attrs) (fun _ h=>h);have hm9:=hm8.know (slR Ar4 cr4 zAp x3.Point.Hist.Pos.Counts) (fun _ h=>h) (hm8.in0 hc0 fs4);replace hc0:=hc0.snoc (r:=slR Ar4 cr4 zAp x3.Point.Hist.Pos.Counts) (fun _ h=>h);have hm10:=hm9.know (slR Ar6 cr6 zAp x3.Point.Hist.Neg.Counts) (fun _ h=>h) (hm9.in0 hc0 fs6);replace hc0:=hc0.snoc (r:=slR Ar6 cr6 zAp x3.Point.Hist.Neg.Counts) (fun _ h=>h);have hm11:=hm10.know (slR A1 c1 zA8.rep x1) (fun _ h=>h) (hm10.in0 hc0 f0);replace hc0:=hc0.snoc (r:=slR A1 c1 zA8.rep x1) (fun _ h=>h);refine Rn.en func16 ?_;refine gg 2 rfl (Rn.box rfl rfl rfl rfl rfl ?_);intro b12 w12 hb12 m12 e12;have hm14:=(hm11.addBox hb12 e12 m12).nf [_,_,_,_,zAr _ _ [_,_,_,_,_,_,_,_,_,_,_,_,_,_,_,_,_,_]] rfl;refine gg 5 rfl (Rn.q rfl (V.ldBA [_,_,_,_,_,_,_,_,_,_,_,_,_,_,_,_,_] isAgg42 sizeOf42 rfl (hm14.get 4 rfl) rfl rfl) ?_);obtain ⟨p15,e15,hM⟩:=zA4 hM
 refine Rn.c0 (cK func15) (zHw (Z0:=All) e15 (show zA9.rep.rel All _ _ _ from ⟨_,_,rfl,⟨rfl,trivial⟩,⟨_,_,rfl,⟨_,_,rfl,(zA1 (hm14.get 0 rfl)).1,(zA1 (hm14.get 0 rfl)).2.1,(zA1 (hm14.get 0 rfl)).2.2⟩,⟨_,_,rfl,⟨rfl,trivial⟩,⟨_,_,rfl,⟨rfl,trivial⟩,⟨_,_,rfl,⟨rfl,trivial⟩,⟨_,_,rfl,⟨rfl,trivial⟩,⟨_,_,rfl,⟨rfl,trivial⟩,⟨_,_,rfl,⟨rfl,trivial⟩,⟨_,_,rfl,⟨rfl,trivial⟩,⟨_,_,rfl,⟨rfl,trivial⟩,⟨_,_,rfl,⟨_,_,rfl,⟨rfl,trivial⟩,⟨_,_,rfl,⟨rfl,trivial⟩,⟨_,_,rfl,⟨_,_,rfl,⟨rfl,trivial⟩,⟨_,_,rfl,(zA1 (hm14.get 1 rfl)).1,(zA1 (hm14.get 1 rfl)).2.1,(zA1 (hm14.get 1 rfl)).2.2⟩⟩,⟨_,_,rfl,⟨rfl,trivial⟩,⟨_,_,rfl,(zA1 (hm14.get 2 rfl)).1,(zA1 (hm14.get 2 rfl)).2.1,(zA1 (hm14.get 2 rfl)).2.2⟩⟩⟩⟩⟩,⟨rfl,trivial⟩⟩⟩⟩⟩⟩⟩⟩⟩⟩⟩⟩) :) hm14 fun w15 _ hm16=>?_
 refine gg 12 rfl ?_;refine zB hM (Rn.condD rfl) (fun h17 hM=>?_) (fun h17 hM=>?_)
 ·refine gg 5 rfl ?_
  cases hM
  exact Rn.R1 func16 ⟨rfl,hm16.pk []⟩
 ·refine gg 6 rfl (Rn.q rfl (V.neqS rfl rfl) (gg 1 rfl ?_));refine zB hM (Rn.condD rfl) (fun h18 hM=>?_) (fun h18 hM=>?_)
  ·refine gg 4 rfl ?_
   cases hM
   exact Rn.R1 func16 ⟨rfl,hm16.pk []⟩
  ·refine gg 5 rfl (Rn.q rfl (V.ldB isAgg3 rfl (hm16.get 4 rfl) rfl) (gg 2 rfl ?_));refine Rn.cutR [] [(0,Str (x0)),(1,.slice A1 (x1).length c1),(2,iv x2),(7,pt b12 0),(32,.bool (decide ((x3.Ord < 0) ∨ (x3.Ord > 4503599627370496))))] (fun hk19=>?_) ?_
   ·refine Rn.partD (t:=28) rfl (fun h20=>?_) (fun h20=>?_)
    ·refine gg 4 rfl ?_;exact hk19 _ sA
    ·refine gg 1 rfl (Rn.q rfl (V.ldB isAgg3 rfl (hm16.get 4 rfl) rfl) (gg 2 rfl ?_));exact hk19 _ sA
   refine gg 1 rfl ?_;refine zB hM (Rn.condD rfl) (fun h21 hM=>?_) (fun h21 hM=>?_)
   ·refine gg 4 rfl ?_
    cases hM
    exact Rn.R1 func16 ⟨rfl,hm16.pk []⟩
   ·refine gg 5 rfl (Rn.q rfl (V.lenV underlying24 rfl) (gg 3 rfl ?_));refine Rn.jG hm0 hM (G:=Bool) (fun g=>[(0,Str (x0)),(1,.slice A1 (x1).length c1),(2,iv x2),(7,pt b12 0),(47,.bool (g))]) (fun g=>[slR Ar2 cr2 zA.rep x3.Point.Attrs,slR Ar4 cr4 zAp x3.Point.Hist.Pos.Counts,slR Ar6 cr6 zAp x3.Point.Hist.Neg.Counts,slR A1 c1 zA8.rep x1,zAr b12 44 [iv x3.Ord,Str (x3.Point.Name),.slice Ar2 (x3.Point.Attrs).length cr2,iv x3.Point.Kind,iv x3.Point.Temp,.bool (x3.Point.Mono),iv x3.Point.Start,iv x3.Point.Time,iv x3.Point.Int_,zAo x3.Point.Re,zAo x3.Point.Im,iv x3.Point.Hist.Scale,zAo x3.Point.Hist.Zero,iv x3.Point.Hist.Pos.Offset,.slice Ar4 (x3.Point.Hist.Pos.Counts).length cr4,iv x3.Point.Hist.Neg.Offset,.slice Ar6 (x3.Point.Hist.Neg.Counts).length cr6,iv x3.Point.Flags]]) (fun j g=>j g) ?_ ?_
    ·rintro y22 w23 hm23 hM
     try dsimp only at hM
     refine zGt hM (Rn.condS rfl) (fun h24 hM=>?_) (fun h24 hM=>?_)
     ·refine gg 4 rfl ?_
      cases hM
      exact Rn.R1 func16 ⟨rfl,hm23.pk []⟩
     ·refine gg 5 rfl (Rn.q rfl (V.lenV underlying24 rfl) (gg 2 rfl ?_));refine zB hM (Rn.condD rfl) (fun h25 hM=>?_) (fun h25 hM=>?_)
      ·refine gg 4 rfl ?_
       cases hM
       exact Rn.R1 func16 ⟨rfl,hm23.pk []⟩
      ·refine gg 9 rfl ?_;have hm27:=hm23.addNil 44 zA8.rep;obtain ⟨z26,e26,hM⟩:=zA4 hM;refine Rn.appH hm27 5 rfl e26 rfl rfl rfl underlying24 zbi rfl rfl rfl rfl (hm27.src 3 rfl) ?_;intro A26 c26 w26 hm26;refine gg 7 rfl (Rn.q rfl (V.ldBA [_,_,_,_,_,_,_,_,_,_,_,_,_,_,_,_,_,_] isAgg44 sizeOf44 rfl (hm26.get 4 rfl) rfl rfl) ?_);obtain ⟨z30,e30,hM⟩:=zA4 hM;refine Rn.pushH (z:=x3) (vs:=[iv x3.Ord,Str (x3.Point.Name),.slice Ar2 (x3.Point.Attrs).length cr2,iv x3.Point.Kind,iv x3.Point.Temp,.bool (x3.Point.Mono),iv x3.Point.Start,iv x3.Point.Time,iv x3.Point.Int_,zAo x3.Point.Re,zAo x3.Point.Im,iv x3.Point.Hist.Scale,zAo x3.Point.Hist.Zero,iv x3.Point.Hist.Pos.Offset,.slice Ar4 (x3.Point.Hist.Pos.Counts).length cr4,iv x3.Point.Hist.Neg.Offset,.slice Ar6 (x3.Point.Hist.Neg.Counts).length cr6,iv x3.Point.Flags]) hm26 5 rfl e30 rfl rfl rfl rfl underlying24 zbi rfl rfl rfl rfl (fun _=>rfl) (⟨_,_,rfl,⟨rfl,trivial⟩,⟨_,_,rfl,⟨rfl,trivial⟩,⟨_,_,rfl,⟨_,_,rfl,(hm26.get 0 rfl).1,(hm26.get 0 rfl).2.1,(hm26.get 0 rfl).2.2⟩,⟨_,_,rfl,⟨rfl,trivial⟩,⟨_,_,rfl,⟨rfl,trivial⟩,⟨_,_,rfl,⟨rfl,trivial⟩,⟨_,_,rfl,⟨rfl,trivial⟩,⟨_,_,rfl,⟨rfl,trivial⟩,⟨_,_,rfl,⟨rfl,trivial⟩,⟨_,_,rfl,⟨rfl,trivial⟩,⟨_,_,rfl,⟨rfl,trivial⟩,⟨_,_,rfl,⟨_,_,rfl,⟨rfl,trivial⟩,⟨_,_,rfl,⟨rfl,trivial⟩,⟨_,_,rfl,⟨_,_,rfl,⟨rfl,trivial⟩,⟨_,_,rfl,(hm26.get 1 rfl).1,(hm26.get 1 rfl).2.1,(hm26.get 1 rfl).2.2⟩⟩,⟨_,_,rfl,⟨rfl,trivial⟩,⟨_,_,rfl,(hm26.get 2 rfl).1,(hm26.get 2 rfl).2.1,(hm26.get 2 rfl).2.2⟩⟩⟩⟩⟩,⟨rfl,trivial⟩⟩⟩⟩⟩⟩⟩⟩⟩⟩⟩⟩⟩) ?_;intro A30 c30 w30 u30 hm30;obtain ⟨p32,e32,hM⟩:=zA4 hM;refine Rn.cq (cK func29) (zH5 (Z0:=All) e32 (zD9 (hm30.get 5 rfl)) :) ?_;rintro _ w32 ⟨F32_0,A32_0,c32_0,rfl,hq32⟩;refine ⟨_,rfl,?_⟩;have hm34:=hm30.callF (flC (zNj) fl0) hq32;have hm36:=hm34.freezeRo 6 rfl;refine Rn.q rfl (V.lenV underlying22 rfl) (gg 3 rfl ?_);refine zB hM (Rn.condD rfl) (fun h37 hM=>?_) (fun h37 hM=>?_)
       ·refine gg 4 rfl ?_
        cases hM
        exact Rn.R1 func16 ⟨rfl,hm36.pk []⟩
       ·refine gg 5 rfl ?_
        cases hM
        exact Rn.R1 func16 ⟨rfl,hm36.pk []⟩
    intro j1 hM hk1;refine Rn.drawP rfl hm16 ?_;intro w38 hm38;refine dq [0,1,2] ?_;refine zB hM (RH.partD (t:=37) rfl) (fun h39 hM=>?_) (fun h39 hM=>?_)
    ·refine dq [3] ?_;refine RH.takeP 4 (by kernel_rfl) rfl rfl rfl rfl (V.ldB isAgg3 rfl (hm38.get 4 rfl) rfl) ?_;refine dq [5,6,7] ?_;obtain ⟨z40,e40,hM⟩:=zA4 hM;obtain ⟨kk40,ke40,kz40,kl40⟩:=zHf e40;obtain ⟨b40,o40,vs40,hA40,hD40,hR40,hrel40⟩:=Hp.at hm38 3 rfl kz40;obtain ⟨Ar41,cr41,Ar43,cr43,Ar45,cr45,rfl,fs41,fs43,fs45⟩:=zA8.relE hrel40;have hm48:=Hp.knowL [rdR b40 (o40 + kk40 * 18) [iv z40.Ord,Str (z40.Point.Name),.slice Ar41 (z40.Point.Attrs).length cr41,iv z40.Point.Kind,iv z40.Point.Temp,.bool (z40.Point.Mono),iv z40.Point.Start,iv z40.Point.Time,iv z40.Point.Int_,zAo z40.Point.Re,zAo z40.Point.Im,iv z40.Point.Hist.Scale,zAo z40.Point.Hist.Zero,iv z40.Point.Hist.Pos.Offset,.slice Ar43 (z40.Point.Hist.Pos.Counts).length cr43,iv z40.Point.Hist.Neg.Offset,.slice Ar45 (z40.Point.Hist.Neg.Counts).length cr45,iv z40.Point.Flags],slR Ar41 cr41 zA.rep z40.Point.Attrs,slR Ar43 cr43 zAp z40.Point.Hist.Pos.Counts,slR Ar45 cr45 zAp z40.Point.Hist.Neg.Counts] _ hm38 (knC (fun _ h=>h) ⟨fun _=>hD40,hR40⟩ (knC (fun _ h=>h) fs41 (knC (fun _ h=>h) fs43 (knC (fun _ h=>h) fs45 kn0))));refine RH.takeP 8 (by kernel_rfl) rfl rfl rfl rfl (V.ixA' hA40 kk40 underlying24 sizeOf44 rfl rfl ke40 kl40) ?_;refine dq [9] ?_;refine RH.takeP 10 (by kernel_rfl) rfl rfl rfl rfl (V.ldR0 isAgg3 rfl (hm48.get 5 rfl).2 rfl) ?_;refine dq [11,12] ?_;refine RH.doneP (by kernel_rfl) ?_;exact hk1 (decide (x3.Ord ≤ z40.Ord)) _ _ sA (hm48.pk [0,1,2,3,4]) hM
    ·refine dq [3,4,5,6,7,8,9,10,11,12] ?_;refine RH.doneP (by kernel_rfl) ?_;exact hk1 false _ _ sA (hm38.pk [0,1,2,3,4]) hM
theorem zN7 {x0 : zA7} {r : Int} (hM : zHm x0 = some r) (f0 : (fzR (zA7.obj F0 b0 x0)).H Z0 w) :
    Calls prog 26 #[pt b0 0] w fun x w'=>x = .returned (iv r) ∧ Hp Z0 No w w' []:=by
 have hm0:=Hp.nil Z0 No w;have hc0:=zD1.nil;have hm2:=hm0.know (fzR (zA7.obj F0 b0 x0)) (fun _ h=>h) (hm0.in0 hc0 f0);replace hc0:=hc0.snoc (r:=fzR (zA7.obj F0 b0 x0)) (fun _ h=>h);refine Rn.en func26 ?_;refine gg 9 rfl ?_;obtain ⟨_,⟨F3_0,b3_0,F3_1,b3_1,F3_2,b3_2,F3_3,b3_3,F3_4,b3_4,F3_5,b3_5,F3_6,b3_6,F3_7,b3_7,rfl⟩,hm3⟩:=hm2.unfz 0 rfl;replace hm3:=hm3.nq;refine Rn.q rfl (V.ldB isAgg3 rfl (hm3.getz 1 rfl) rfl) (gg 2 rfl ?_)
 cases hM
 exact Rn.R1 func26 ⟨rfl,hm3.pk []⟩
theorem zMw {x0 : zA7} {r : Int} (hM : zH2 x0 = some r) (f0 : (fzR (zA7.obj F0 b0 x0)).H Z0 w) :
    Calls prog 27 #[pt b0 0] w fun x w'=>x = .returned (iv r) ∧ Hp Z0 No w w' []:=by
 have hm0:=Hp.nil Z0 No w;have hc0:=zD1.nil;have hm2:=hm0.know (fzR (zA7.obj F0 b0 x0)) (fun _ h=>h) (hm0.in0 hc0 f0);replace hc0:=hc0.snoc (r:=fzR (zA7.obj F0 b0 x0)) (fun _ h=>h);refine Rn.en func27 ?_;refine gg 9 rfl ?_;obtain ⟨_,⟨F3_0,b3_0,F3_1,b3_1,F3_2,b3_2,F3_3,b3_3,F3_4,b3_4,F3_5,b3_5,F3_6,b3_6,F3_7,b3_7,rfl⟩,hm3⟩:=hm2.unfz 0 rfl;replace hm3:=hm3.nq;refine Rn.q rfl (V.ldB isAgg3 rfl (hm3.getz 1 rfl) rfl) (gg 2 rfl ?_)
 cases hM
 exact Rn.R1 func27 ⟨rfl,hm3.pk []⟩
theorem zN8 {x0 : zA7} {r : (List UInt8)} (hM : zHn x0 = some r) (f0 : (fzR (zA7.obj F0 b0 x0)).H Z0 w) :
    Calls prog 28 #[pt b0 0] w fun x w'=>x = .returned (Str (r)) ∧ Hp Z0 No w w' []:=by
 have hm0:=Hp.nil Z0 No w;have hc0:=zD1.nil;have hm2:=hm0.know (fzR (zA7.obj F0 b0 x0)) (fun _ h=>h) (hm0.in0 hc0 f0);replace hc0:=hc0.snoc (r:=fzR (zA7.obj F0 b0 x0)) (fun _ h=>h);refine Rn.en func28 ?_;refine gg 9 rfl ?_;obtain ⟨_,⟨F3_0,b3_0,F3_1,b3_1,F3_2,b3_2,F3_3,b3_3,F3_4,b3_4,F3_5,b3_5,F3_6,b3_6,F3_7,b3_7,rfl⟩,hm3⟩:=hm2.unfz 0 rfl;replace hm3:=hm3.nq;refine Rn.q rfl (V.ldB isAgg9 rfl (hm3.getz 1 rfl) rfl) (gg 2 rfl ?_)
 cases hM
 exact Rn.R1 func28 ⟨rfl,hm3.pk []⟩
end Go.Proofs.YthjhejgjcdajdaaGreatDoor
