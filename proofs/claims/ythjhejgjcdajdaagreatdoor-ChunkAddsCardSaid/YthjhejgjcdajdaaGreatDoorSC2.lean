import Derived.Test.YthjhejgjcdajdaaGreatDoorRows
import Derived.Test.YthjhejgjcdajdaaGreatDoorVC2
import Derived.Test.YthjhejgjcdajdaaGreatDoorSC1
set_option maxRecDepth 20000
set_option maxHeartbeats 4000000
set_option linter.unusedVariables false
set_option linter.unusedSimpArgs false
namespace Go.Proofs.YthjhejgjcdajdaaGreatDoor
open Go Go.RowKit Go.Wk _root_.Go.Proofs.Tryz
variable {Z0 : Nat → Prop} {w : World} {F0 : Nat → Prop} {F1 : Nat → Prop} {F2 : Nat → Prop} {F3 : Nat → Prop} {F4 : Nat → Prop} {F5 : Nat → Prop} {b0 : Nat} {b1 : Nat} {b2 : Nat} {b3 : Nat} {b4 : Nat} {b5 : Nat} {A0 : Option Addr} {A1 : Option Addr} {A2 : Option Addr} {A3 : Option Addr} {A4 : Option Addr} {A5 : Option Addr} {c0 : Nat} {c1 : Nat} {c2 : Nat} {c3 : Nat} {c4 : Nat} {c5 : Nat} {cs0 : List Value} {cs1 : List Value} {cs2 : List Value} {cs3 : List Value}
theorem m_histbits_Row_Put_sim {x0 : zA6} {x1 : zA0} {x2 : zA2} {r : (Int × zA6 × zA0)} (hM : zEr x0 x1 x2 = some r) (hL : zK8 Z0 w [zA6.obj F0 b0 x0,zA0.obj F1 b1 x1,zSw zA2.rep cs2 x2]) :
    Calls prog 123 #[pt b0 0,pt b1 0,.agg cs2.toArray] w fun x w'=>∃ F_p0 F_p1,x = .returned (iv r.1) ∧ Hp Z0 (LS [zA6.obj F0 b0 x0,zA0.obj F1 b1 x1,zSw zA2.rep cs2 x2]) w w' [zA6.obj F_p0 b0 r.2.1,zA0.obj F_p1 b1 r.2.2]:=by
 have hm0:=hL.start;have h2:=hm0.get 2 rfl;obtain ⟨Ar3,cr3,Ar5,cr5,rfl,fs3,fs5⟩:=zA2.relE h2;have hm8:=Hp.knowL [slR Ar3 cr3 zAp x2.Pos.Counts,slR Ar5 cr5 zAp x2.Neg.Counts] _ hm0 (knC (fun _ h=>h) fs3 (knC (fun _ h=>h) fs5 kn0));refine Rn.en func123 ?_;refine gg 2 rfl (Rn.box rfl rfl rfl rfl rfl ?_);intro b9 w9 hb9 m9 e9;have hm11:=(hm8.addBox hb9 e9 m9).nf [_,_,_,_,_,zAr _ _ [_,_,_,_,_,_]] rfl;refine gg 5 rfl (Rn.q rfl (V.ldBA [_,_,_,_,_,_] isAgg40 sizeOf40 rfl (hm11.get 5 rfl) rfl rfl) ?_);obtain ⟨p12,e12,hM⟩:=zA4 hM
 refine Rn.c0 (cK func113) (zMq (Z0:=All) e12 (show zA2.rep.rel All _ _ _ from ⟨_,_,rfl,⟨rfl,trivial⟩,⟨_,_,rfl,⟨rfl,trivial⟩,⟨_,_,rfl,⟨_,_,rfl,⟨rfl,trivial⟩,⟨_,_,rfl,(zA1 (hm11.get 3 rfl)).1,(zA1 (hm11.get 3 rfl)).2.1,(zA1 (hm11.get 3 rfl)).2.2⟩⟩,⟨_,_,rfl,⟨rfl,trivial⟩,⟨_,_,rfl,(zA1 (hm11.get 4 rfl)).1,(zA1 (hm11.get 4 rfl)).2.1,(zA1 (hm11.get 4 rfl)).2.2⟩⟩⟩⟩⟩) :) hm11 fun w12 _ hm13=>?_
 refine gg 7 rfl ?_;refine zB hM (Rn.condD rfl) (fun h14 hM=>?_) (fun h14 hM=>?_)
 ·refine gg 5 rfl ?_
  cases hM
  exact Rn.R1 func123 ⟨F0,F1,rfl,hm13.pk [0,1]⟩
 ·refine gg 3 rfl ?_;refine Rn.jG hm0 hM (G:=Bool × (Nat → Prop) × (Nat → Prop)) (fun g=>[(0,pt b0 0),(1,pt b1 0),(5,pt b9 0),(34,.bool ((g.1)))]) (fun g=>[zA6.obj (g.2.1) b0 x0,zA0.obj (g.2.2) b1 x1,slR Ar3 cr3 zAp x2.Pos.Counts,slR Ar5 cr5 zAp x2.Neg.Counts,zAr b9 40 [iv x2.Scale,zAo x2.Zero,iv x2.Pos.Offset,.slice Ar3 (x2.Pos.Counts).length cr3,iv x2.Neg.Offset,.slice Ar5 (x2.Neg.Counts).length cr5]]) (fun j g=>j g.1) ?_ ?_
  ·rintro ⟨y17,F15,F16⟩ w18 hm18 hM
   try dsimp only at hM
   refine Rn.jG hm0 hM (G:=zA0 × (Nat → Prop) × (Nat → Prop)) (fun g=>[(0,pt b0 0),(5,pt b9 0)]) (fun g=>[zA6.obj (g.2.1) b0 x0,slR Ar3 cr3 zAp x2.Pos.Counts,slR Ar5 cr5 zAp x2.Neg.Counts,zAr b9 40 [iv x2.Scale,zAo x2.Zero,iv x2.Pos.Offset,.slice Ar3 (x2.Pos.Counts).length cr3,iv x2.Neg.Offset,.slice Ar5 (x2.Neg.Counts).length cr5],zA0.obj (g.2.2) b1 (g.1)]) (fun j g=>j g.1) ?_ ?_
   ·rintro ⟨y20,F19,F20⟩ w21 hm21 hM
    try dsimp only at hM
    refine gg 5 rfl ?_;obtain ⟨_,⟨A22_0,c22_0,A22_1,c22_1,rfl⟩,hm22⟩:=hm21.unf 0 rfl;replace hm22:=hm22.nq;refine Rn.q rfl (V.ldB isAgg3 rfl (hm22.get 4 rfl) rfl) (gg 3 rfl (Rn.sq rfl sizeOf3 rfl rfl (hm22.get 4 rfl) ?_));intro w25 m25 x25;have hm26:=(hm22.st 4 rfl x25 m25).nf [_,_,_,_,zAr _ _ [_,_,_,_,_,_,_],_,_] rfl;refine gg 4 rfl (Rn.q rfl (V.ldBA [_,_,_,_,_,_] isAgg40 sizeOf40 rfl (hm26.get 2 rfl) rfl rfl) ?_);obtain ⟨p27,e27,hM⟩:=zA4 hM;refine Rn.cq (cK func90) (zJw (Z0:=All) e27 (show zA2.rep.rel All _ _ _ from ⟨_,_,rfl,⟨rfl,trivial⟩,⟨_,_,rfl,⟨rfl,trivial⟩,⟨_,_,rfl,⟨_,_,rfl,⟨rfl,trivial⟩,⟨_,_,rfl,(zA1 (hm26.get 0 rfl)).1,(zA1 (hm26.get 0 rfl)).2.1,(zA1 (hm26.get 0 rfl)).2.2⟩⟩,⟨_,_,rfl,⟨rfl,trivial⟩,⟨_,_,rfl,(zA1 (hm26.get 1 rfl)).1,(zA1 (hm26.get 1 rfl)).2.1,(zA1 (hm26.get 1 rfl)).2.2⟩⟩⟩⟩⟩) :) ?_;rintro _ w27 ⟨A27_0_0,c27_0_0,A27_0_1,c27_0_1,rfl,hq27⟩;refine ⟨_,rfl,?_⟩;have hm30:=hm26.callF (flC (zAl zD8 _ _ _ _) (flC (zAl zD8 _ _ _ _) fl0)) hq27;replace hm30:=hm30.nq;refine gg 2 rfl (Rn.sq rfl sizeOf40 rfl rfl (hm30.get 4 rfl) ?_);intro w31 m31 x31;have hm32:=(hm30.st 4 rfl x31 m31).nf [_,_,_,_,zAr _ _ [_,_,_,_,_,_,_],_,_,_,_] rfl;refine gg 5 rfl ?_;have hm34:=hm32.cu [0,1,2,3,5,6] [4,7,8];obtain ⟨F33,hm33⟩:=hm34.fold (zA6.sh b0 ({ n:=W64 (x0.n + 1),last:=p27 } : zA6)) ⟨A27_0_0,c27_0_0,A27_0_1,c27_0_1,rfl⟩
    cases hM
    exact Rn.R1 func123 ⟨F33,F20,rfl,hm33.pk [6,3]⟩
   intro j2 hM hk2;refine zGt hM (Rn.condS rfl) (fun h35 hM=>?_) (fun h35 hM=>?_)
   ·refine gg 3 rfl ?_;obtain ⟨p36,e36,hM⟩:=zA4 hM;have hm37:=hm18.cu [0,2,3,4] [1]
    refine Rn.c1 (cK func176) (m_bitio_Writer_Put_sim e36 hm37.lend :) fun F36_p0 w36 hq36=>?_
    have hm39:=hm37.callAZ hq36;refine gg 6 rfl ?_;obtain ⟨_,⟨A40_0,c40_0,A40_1,c40_1,rfl⟩,hm40⟩:=hm39.unf 0 rfl;replace hm40:=hm40.nq;refine Rn.q rfl (V.ldBA [_,_,_,_,_,_] isAgg40 sizeOf40 rfl (hm40.get 4 rfl) rfl rfl) ?_;obtain ⟨p43,e43,hM⟩:=zA4 hM
    refine Rn.c2 (cK func139) (zHb (Z0:=All) e43 (show zA2.rep.rel All _ _ _ from ⟨_,_,rfl,⟨rfl,trivial⟩,⟨_,_,rfl,⟨rfl,trivial⟩,⟨_,_,rfl,⟨_,_,rfl,⟨rfl,trivial⟩,⟨_,_,rfl,(zD9 (hm40.get 5 rfl)).1,(zD9 (hm40.get 5 rfl)).2.1,(zD9 (hm40.get 5 rfl)).2.2⟩⟩,⟨_,_,rfl,⟨rfl,trivial⟩,⟨_,_,rfl,(zD9 (hm40.get 6 rfl)).1,(zD9 (hm40.get 6 rfl)).2.1,(zD9 (hm40.get 6 rfl)).2.2⟩⟩⟩⟩⟩) :) fun A43_0_0 c43_0_0 w43 hq43=>?_
    have hm45:=hm40.callF (flC (zAl zD8 _ _ _ _) fl0) hq43;refine gg 4 rfl (Rn.q rfl (V.ldBA [_,_,_,_,_,_] isAgg40 sizeOf40 rfl (hm45.get 2 rfl) rfl rfl) ?_);obtain ⟨p46,e46,hM⟩:=zA4 hM
    refine Rn.c2 (cK func139) (zHb (Z0:=All) e46 (show zA2.rep.rel All _ _ _ from ⟨_,_,rfl,⟨rfl,trivial⟩,⟨_,_,rfl,⟨rfl,trivial⟩,⟨_,_,rfl,⟨_,_,rfl,⟨rfl,trivial⟩,⟨_,_,rfl,(zA1 (hm45.get 0 rfl)).1,(zA1 (hm45.get 0 rfl)).2.1,(zA1 (hm45.get 0 rfl)).2.2⟩⟩,⟨_,_,rfl,⟨rfl,trivial⟩,⟨_,_,rfl,(zA1 (hm45.get 1 rfl)).1,(zA1 (hm45.get 1 rfl)).2.1,(zA1 (hm45.get 1 rfl)).2.2⟩⟩⟩⟩⟩) :) fun A46_0_0 c46_0_0 w46 hq46=>?_
    have hm48:=hm45.callF (flC (zAl zD8 _ _ _ _) fl0) hq46;replace hm48:=hm48.nq;refine Rn.q rfl (V.lenV underlying36 rfl) (gg 2 rfl ?_);have hm50:=hm48.cu [0,1,2,3,7,8] [4,5,6];obtain ⟨F49,hm49⟩:=hm50.fold (zA6.sh b0 x0) ⟨A40_0,c40_0,A40_1,c40_1,rfl⟩;refine Rn.jG hm0 hM (G:=zA0 × (Nat → Prop) × (Nat → Prop)) (fun g=>[(0,pt b0 0),(5,pt b9 0)]) (fun g=>[slR Ar3 cr3 zAp x2.Pos.Counts,slR Ar5 cr5 zAp x2.Neg.Counts,zAr b9 40 [iv x2.Scale,zAo x2.Zero,iv x2.Pos.Offset,.slice Ar3 (x2.Pos.Counts).length cr3,iv x2.Neg.Offset,.slice Ar5 (x2.Neg.Counts).length cr5],zBd 35 A43_0_0 c43_0_0 zAp p43,zBd 35 A46_0_0 c46_0_0 zAp p46,zA6.obj (g.2.1) b0 x0,zA0.obj (g.2.2) b1 (g.1)]) (fun j g=>j g.1) ?_ ?_
    ·rintro ⟨y52,F51,F52⟩ w53 hm53 hM
     try dsimp only at hM
     exact hk2 (y52,F51,F52) _ _ sA (hm53.pk [5,0,1,2,6]) hM
    intro j3 hM hk3;refine gg 1 rfl ?_;refine Rn.loopF (G:=Int × zA0 × (Nat → Prop) × (Nat → Prop)) (fun g=>[(0,pt b0 0),(1,pt b1 0),(5,pt b9 0),(8,.slice A43_0_0 (p43).length c43_0_0),(43,.slice A46_0_0 (p46).length c46_0_0),(44,iv (p46.length : Int)),(45,iv (g.1))]) (fun g w'=>Hp Z0 (LS [zA6.obj F0 b0 x0,zA0.obj F1 b1 x1,zSw zA2.rep [iv x2.Scale,zAo x2.Zero,iv x2.Pos.Offset,.slice Ar3 (x2.Pos.Counts).length cr3,iv x2.Neg.Offset,.slice Ar5 (x2.Neg.Counts).length cr5] x2]) w w' [slR Ar3 cr3 zAp x2.Pos.Counts,slR Ar5 cr5 zAp x2.Neg.Counts,zAr b9 40 [iv x2.Scale,zAo x2.Zero,iv x2.Pos.Offset,.slice Ar3 (x2.Pos.Counts).length cr3,iv x2.Neg.Offset,.slice Ar5 (x2.Neg.Counts).length cr5],zBd 35 A43_0_0 c43_0_0 zAp p43,zBd 35 A46_0_0 c46_0_0 zAp p46,zA6.obj (g.2.2.1) b0 x0,zA0.obj (g.2.2.2) b1 (g.2.1)]) (fun n g=>zBm p43 p46 j3 n g.1 g.2.1) fuel (0,p36.2,F49,F36_p0) sA (hm49.pk [0,1,2,4,5,6,3]) hM (fun _=>rfl) ?_;clear hM;rintro m57 ⟨y55,y56,F54,F56⟩ w57 hm57 hM hn57;replace hM : zBm p43 p46 j3 (m57 + 1) y55 y56 = some r:=hM;rw [zBm] at hM;refine gg 5 rfl ?_;refine zB hM (Rn.condD rfl) (fun h58 hM=>?_) (fun h58 hM=>?_)
    ·refine gg 6 rfl ?_;obtain ⟨z59,e59,hM⟩:=zA4 hM;obtain ⟨kk59,ke59,kz59,kl59⟩:=zHf e59;obtain ⟨g59,vs59,hA59,hR59,hrel59⟩:=hm57.ownAt 4 rfl kz59;subst hA59;obtain ⟨rfl,_⟩:=hrel59;refine Rn.q rfl (V.ixE kk59 underlying36 sizeOf35 rfl rfl ke59 kl59) (Rn.q rfl (V.ldR0 isAgg35 rfl hR59 rfl) (gg 8 rfl ?_));obtain ⟨z60,e60,hM⟩:=zA4 hM;obtain ⟨kk60,ke60,kz60,kl60⟩:=zHf e60;obtain ⟨g60,vs60,hA60,hR60,hrel60⟩:=hm57.ownAt 3 rfl kz60;subst hA60;obtain ⟨rfl,_⟩:=hrel60;refine Rn.q rfl (V.ixE kk60 underlying36 sizeOf35 rfl rfl ke60 kl60) (Rn.q rfl (V.ldR0 isAgg35 rfl hR60 rfl) (Rn.q rfl (V.ari64 (a:=z59) (b:=z60) rfl rfl _ rfl (zH4 _ _)) (Rn.q rfl (V.cvW underlying35 underlying3 rfl) ?_)));obtain ⟨p61,e61,hM⟩:=zA4 hM;have hm62:=hm57.cu [0,1,2,3,4,5] [6]
     refine Rn.c1 (cK func174) (m_vary_PutInt_sim e61 hm62.lend :) fun F61_p0 w61 hq61=>?_
     have hm64:=hm62.callAZ hq61;refine gg 6 rfl ?_;exact hn57 ((W64 (y55 + 1)),p61,F54,F61_p0) _ _ sA (hm64.pk [0,1,2,3,4,5,6]) hM
    ·refine gg 1 rfl ?_;exact hk3 (y56,F54,F56) _ _ sA (hm57.pk [0,1,2,3,4,5,6]) hM
   ·refine gg 3 rfl ?_;obtain ⟨p65,e65,hM⟩:=zA4 hM;have hm66:=hm18.cu [0,2,3,4] [1]
    refine Rn.c1 (cK func176) (m_bitio_Writer_Put_sim e65 hm66.lend :) fun F65_p0 w65 hq65=>?_
    have hm68:=hm66.callAZ hq65;refine gg 5 rfl (Rn.q rfl (V.ldB isAgg3 rfl (hm68.get 3 rfl) rfl) (gg 1 rfl (Rn.q rfl (V.cv64 underlying3 underlying35 rfl) ?_)));obtain ⟨p69,e69,hM⟩:=zA4 hM;have hm70:=hm68.cu [0,1,2,3] [4]
    refine Rn.c1 (cK func176) (m_bitio_Writer_Put_sim e69 hm70.lend :) fun F69_p0 w69 hq69=>?_
    have hm72:=hm70.callAZ hq69;refine gg 5 rfl (Rn.q rfl (V.ldBA [_,_] isAgg38 sizeOf38 rfl (hm72.get 3 rfl) rfl rfl) (gg 1 rfl (Rn.q rfl (V.ldBA [_,_] isAgg38 sizeOf38 rfl (hm72.get 3 rfl) rfl rfl) (Rn.bslS rfl rfl rfl underlying236 el38 rfl rfl rfl rfl (by first|exact szs rfl|(simp [Value.cells];done)) (by decide) ?_))));intro b73 w73 hb73 m73 e73;have hm74:=hm72.addLitZ (rep:=zAd.rep) (xs:=([x2.Pos,x2.Neg] : List zAd)) (vss:=[[iv x2.Pos.Offset,.slice Ar3 (x2.Pos.Counts).length cr3],[iv x2.Neg.Offset,.slice Ar5 (x2.Neg.Counts).length cr5]]) hb73 e73 m73 rfl rfl rfl ((zQ (show zAd.rep.rel _ _ _ _ from ⟨_,_,rfl,⟨rfl,trivial⟩,⟨_,_,rfl,(hm72.get 1 rfl).1,(hm72.get 1 rfl).2.1,(hm72.get 1 rfl).2.2⟩⟩) (zQ (show zAd.rep.rel _ _ _ _ from ⟨_,_,rfl,⟨rfl,trivial⟩,⟨_,_,rfl,(hm72.get 2 rfl).1,(hm72.get 2 rfl).2.1,(hm72.get 2 rfl).2.2⟩⟩) zb0)));refine Rn.q rfl (V.lenV underlying236 rfl) (gg 2 rfl ?_);refine Rn.jG hm0 hM (G:=zA0 × (Nat → Prop) × (Nat → Prop)) (fun g=>[(0,pt b0 0),(1,pt b1 0),(5,pt b9 0)]) (fun g=>[zA6.obj (g.2.1) b0 x0,slR Ar3 cr3 zAp x2.Pos.Counts,slR Ar5 cr5 zAp x2.Neg.Counts,zAr b9 40 [iv x2.Scale,zAo x2.Zero,iv x2.Pos.Offset,.slice Ar3 (x2.Pos.Counts).length cr3,iv x2.Neg.Offset,.slice Ar5 (x2.Neg.Counts).length cr5],zBd 38 (some ⟨b73,0,none⟩) 2 zAd.rep ([x2.Pos,x2.Neg] : List zAd),zA0.obj (g.2.2) b1 (g.1)]) (fun j g=>j g.1) ?_ ?_
    ·rintro ⟨y77,F76,F77⟩ w78 hm78 hM
     try dsimp only at hM
     refine gg 2 rfl (Rn.q rfl (V.ldBA [_,_,_,_,_,_] isAgg40 sizeOf40 rfl (hm78.get 3 rfl) rfl rfl) ?_);obtain ⟨p79,e79,hM⟩:=zA4 hM
     refine Rn.c2 (cK func139) (zHb (Z0:=All) e79 (show zA2.rep.rel All _ _ _ from ⟨_,_,rfl,⟨rfl,trivial⟩,⟨_,_,rfl,⟨rfl,trivial⟩,⟨_,_,rfl,⟨_,_,rfl,⟨rfl,trivial⟩,⟨_,_,rfl,(zA1 (hm78.get 1 rfl)).1,(zA1 (hm78.get 1 rfl)).2.1,(zA1 (hm78.get 1 rfl)).2.2⟩⟩,⟨_,_,rfl,⟨rfl,trivial⟩,⟨_,_,rfl,(zA1 (hm78.get 2 rfl)).1,(zA1 (hm78.get 2 rfl)).2.1,(zA1 (hm78.get 2 rfl)).2.2⟩⟩⟩⟩⟩) :) fun A79_0_0 c79_0_0 w79 hq79=>?_
     have hm81:=hm78.callF (flC (zAl zD8 _ _ _ _) fl0) hq79;refine Rn.q rfl (V.lenV underlying36 rfl) (gg 2 rfl ?_);refine Rn.jG hm0 hM (G:=zA0 × (Nat → Prop) × (Nat → Prop)) (fun g=>[(0,pt b0 0),(5,pt b9 0)]) (fun g=>[zA6.obj (g.2.1) b0 x0,slR Ar3 cr3 zAp x2.Pos.Counts,slR Ar5 cr5 zAp x2.Neg.Counts,zAr b9 40 [iv x2.Scale,zAo x2.Zero,iv x2.Pos.Offset,.slice Ar3 (x2.Pos.Counts).length cr3,iv x2.Neg.Offset,.slice Ar5 (x2.Neg.Counts).length cr5],zBd 38 (some ⟨b73,0,none⟩) 2 zAd.rep ([x2.Pos,x2.Neg] : List zAd),zBd 35 A79_0_0 c79_0_0 zAp p79,zA0.obj (g.2.2) b1 (g.1)]) (fun j g=>j g.1) ?_ ?_
     ·rintro ⟨y83,F82,F83⟩ w84 hm84 hM
      try dsimp only at hM
      exact hk2 (y83,F82,F83) _ _ sA (hm84.pk [0,1,2,3,6]) hM
     intro j5 hM hk5;refine gg 1 rfl ?_;refine Rn.loopF (G:=Int × zA0 × (Nat → Prop) × (Nat → Prop)) (fun g=>[(0,pt b0 0),(1,pt b1 0),(5,pt b9 0),(94,.slice A79_0_0 (p79).length c79_0_0),(95,iv (p79.length : Int)),(96,iv (g.1))]) (fun g w'=>Hp Z0 (LS [zA6.obj F0 b0 x0,zA0.obj F1 b1 x1,zSw zA2.rep [iv x2.Scale,zAo x2.Zero,iv x2.Pos.Offset,.slice Ar3 (x2.Pos.Counts).length cr3,iv x2.Neg.Offset,.slice Ar5 (x2.Neg.Counts).length cr5] x2]) w w' [zA6.obj (g.2.2.1) b0 x0,slR Ar3 cr3 zAp x2.Pos.Counts,slR Ar5 cr5 zAp x2.Neg.Counts,zAr b9 40 [iv x2.Scale,zAo x2.Zero,iv x2.Pos.Offset,.slice Ar3 (x2.Pos.Counts).length cr3,iv x2.Neg.Offset,.slice Ar5 (x2.Neg.Counts).length cr5],zBd 38 (some ⟨b73,0,none⟩) 2 zAd.rep ([x2.Pos,x2.Neg] : List zAd),zBd 35 A79_0_0 c79_0_0 zAp p79,zA0.obj (g.2.2.2) b1 (g.2.1)]) (fun n g=>zBl p79 j5 n g.1 g.2.1) fuel (0,y77,F76,F77) sA (hm81.pk [0,1,2,3,4,6,5]) hM (fun _=>rfl) ?_;clear hM;rintro m88 ⟨y86,y87,F85,F87⟩ w88 hm88 hM hn88;replace hM : zBl p79 j5 (m88 + 1) y86 y87 = some r:=hM;rw [zBl] at hM;refine gg 5 rfl ?_;refine zB hM (Rn.condD rfl) (fun h89 hM=>?_) (fun h89 hM=>?_)
     ·refine gg 5 rfl ?_;obtain ⟨z90,e90,hM⟩:=zA4 hM;obtain ⟨kk90,ke90,kz90,kl90⟩:=zHf e90;obtain ⟨g90,vs90,hA90,hR90,hrel90⟩:=hm88.ownAt 5 rfl kz90;subst hA90;obtain ⟨rfl,_⟩:=hrel90;refine Rn.q rfl (V.ixE kk90 underlying36 sizeOf35 rfl rfl ke90 kl90) (Rn.q rfl (V.ldR0 isAgg35 rfl hR90 rfl) (gg 5 rfl ?_));obtain ⟨p91,e91,hM⟩:=zA4 hM;have hm92:=hm88.cu [0,1,2,3,4,5] [6]
      refine Rn.c1 (cK func122) (m_vary_Put_sim e91 hm92.lend :) fun F91_p0 w91 hq91=>?_
      have hm94:=hm92.callAZ hq91;refine gg 6 rfl ?_;exact hn88 ((W64 (y86 + 1)),p91,F85,F91_p0) _ _ sA (hm94.pk [0,1,2,3,4,5,6]) hM
     ·refine gg 1 rfl ?_;exact hk5 (y87,F85,F87) _ _ sA (hm88.pk [0,1,2,3,4,5,6]) hM
    intro j4 hM hk4;refine gg 1 rfl ?_;refine Rn.loopF (G:=Int × zA0 × (Nat → Prop) × (Nat → Prop)) (fun g=>[(0,pt b0 0),(1,pt b1 0),(5,pt b9 0),(72,.slice (some ⟨b73,0,none⟩) (([x2.Pos,x2.Neg] : List zAd)).length 2),(73,iv (([x2.Pos,x2.Neg] : List zAd).length : Int)),(74,iv (g.1))]) (fun g w'=>Hp Z0 (LS [zA6.obj F0 b0 x0,zA0.obj F1 b1 x1,zSw zA2.rep [iv x2.Scale,zAo x2.Zero,iv x2.Pos.Offset,.slice Ar3 (x2.Pos.Counts).length cr3,iv x2.Neg.Offset,.slice Ar5 (x2.Neg.Counts).length cr5] x2]) w w' [zA6.obj (g.2.2.1) b0 x0,slR Ar3 cr3 zAp x2.Pos.Counts,slR Ar5 cr5 zAp x2.Neg.Counts,zAr b9 40 [iv x2.Scale,zAo x2.Zero,iv x2.Pos.Offset,.slice Ar3 (x2.Pos.Counts).length cr3,iv x2.Neg.Offset,.slice Ar5 (x2.Neg.Counts).length cr5],zBd 38 (some ⟨b73,0,none⟩) 2 zAd.rep ([x2.Pos,x2.Neg] : List zAd),zA0.obj (g.2.2.2) b1 (g.2.1)]) (fun n g=>zC4 x2 j4 n g.1 g.2.1) fuel (0,p69.2,F15,F69_p0) sA (hm74.pk [0,1,2,3,5,4]) hM (fun _=>rfl) ?_;clear hM;rintro m98 ⟨y96,y97,F95,F97⟩ w98 hm98 hM hn98;replace hM : zC4 x2 j4 (m98 + 1) y96 y97 = some r:=hM;rw [zC4] at hM;refine gg 5 rfl ?_;refine zB hM (Rn.condD rfl) (fun h99 hM=>?_) (fun h99 hM=>?_)
    ·refine gg 2 rfl ?_;refine Rn.jG hm0 hM (G:=zA0 × (Nat → Prop) × (Nat → Prop)) (fun g=>[(0,pt b0 0),(1,pt b1 0),(5,pt b9 0),(72,.slice (some ⟨b73,0,none⟩) (([x2.Pos,x2.Neg] : List zAd)).length 2),(73,iv (([x2.Pos,x2.Neg] : List zAd).length : Int)),(74,iv y96)]) (fun g=>[zA6.obj (g.2.1) b0 x0,slR Ar3 cr3 zAp x2.Pos.Counts,slR Ar5 cr5 zAp x2.Neg.Counts,zAr b9 40 [iv x2.Scale,zAo x2.Zero,iv x2.Pos.Offset,.slice Ar3 (x2.Pos.Counts).length cr3,iv x2.Neg.Offset,.slice Ar5 (x2.Neg.Counts).length cr5],zBd 38 (some ⟨b73,0,none⟩) 2 zAd.rep ([x2.Pos,x2.Neg] : List zAd),zA0.obj (g.2.2) b1 (g.1)]) (fun j g=>j g.1) ?_ ?_
     ·rintro ⟨y101,F100,F101⟩ w102 hm102 hM
      try dsimp only at hM
      refine gg 4 rfl ?_;exact hn98 ((W64 (y96 + 1)),y101,F100,F101) _ _ sA (hm102.pk [0,1,2,3,4,5]) hM
     intro j6 hM hk6;refine gg 3 rfl ?_;obtain ⟨z103,e103,hM⟩:=zA4 hM;obtain ⟨kk103,ke103,kz103,kl103⟩:=zHf e103;obtain ⟨vs103,hR103,hrel103⟩:=hm98.ownAtL 4 rfl kz103;obtain ⟨Ar104,cr104,rfl,fs104⟩:=zAd.relE hrel103;have hm106:=Hp.knowL [slR Ar104 cr104 zAp z103.Counts] _ hm98 (knC (fun _ h=>h) fs104 kn0);refine Rn.q rfl (V.ixE kk103 underlying236 sizeOf38 rfl rfl ke103 kl103) (Rn.q rfl (V.ldA (vs:=[_,_]) isAgg38 sizeOf38 rfl (Rd.pre hR103 2) rfl) (Rn.als rfl rfl rfl Tryz.zeroValue38 rfl sizeOf38 rfl rfl rfl rfl (by first|exact zN1 rfl|(simp [Value.oneCell'];done)) ?_));intro b107 w107 hb107 m107 e107;have hm109:=(hm106.addBox hb107 e107 m107).nf [_,_,_,_,_,_,_,zAr _ _ [_,_]] rfl;refine gg 5 rfl (Rn.q rfl (V.ldB isAgg36 rfl (hm109.get 7 rfl) rfl) (Rn.q rfl (V.lenV underlying36 rfl) (Rn.q rfl (V.cv64 underlying3 underlying35 rfl) ?_)));obtain ⟨p110,e110,hM⟩:=zA4 hM;have hm111:=hm109.cu [0,1,2,3,4,6,7] [5]
     refine Rn.c1 (cK func176) (m_bitio_Writer_Put_sim e110 hm111.lend :) fun F110_p0 w110 hq110=>?_
     have hm113:=hm111.callAZ hq110;refine gg 4 rfl (Rn.q rfl (V.ldB isAgg36 rfl (hm113.get 6 rfl) rfl) (Rn.q rfl (V.lenV underlying36 rfl) (gg 2 rfl ?_)));refine zB hM (Rn.condD rfl) (fun h114 hM=>?_) (fun h114 hM=>?_)
     ·refine gg 3 rfl (Rn.q rfl (V.ldB isAgg3 rfl (hm113.get 6 rfl) rfl) ?_);obtain ⟨p115,e115,hM⟩:=zA4 hM;have hm116:=hm113.cu [0,1,2,3,4,5,6] [7]
      refine Rn.c1 (cK func174) (m_vary_PutInt_sim e115 hm116.lend :) fun F115_p0 w115 hq115=>?_
      have hm118:=hm116.callAZ hq115;refine gg 2 rfl ?_;exact hk6 (p115,F95,F115_p0) _ _ sA (hm118.pk [0,1,2,3,4,7]) hM
     ·refine gg 2 rfl ?_;exact hk6 (p110.2,F95,F110_p0) _ _ sA (hm113.pk [0,1,2,3,4,7]) hM
    ·refine gg 1 rfl ?_;exact hk4 (y97,F95,F97) _ _ sA (hm98.pk [0,1,2,3,4,5]) hM
  intro j1 hM hk1;refine Rn.drawH rfl hm13 ?_;intro w119 hm119;refine dq [0,1,2] ?_;obtain ⟨_,⟨A120_0,c120_0,A120_1,c120_1,rfl⟩,hm120⟩:=hm119.unf 0 rfl;replace hm120:=hm120.nq
  refine RH.here fun hS3=>RH.on 3 rfl (V.ldB isAgg3 rfl (hm120.get 5 rfl) rfl) hS3 ?_
  refine dq [4,5] ?_;refine zB hM (RH.partD (t:=25) rfl) (fun h123 hM=>?_) (fun h123 hM=>?_)
  ·refine RH.tk 6 rfl (fun w' hDr=>V.ldBA [_,_,_,_,_,_] isAgg40 sizeOf40 rfl ((hm120.ext hDr).get 4 rfl) rfl rfl) ?_;refine dq [8,9,10] ?_;refine RH.tk 11 rfl (fun w' hDr=>V.ldBA [_,_,_,_,_,_] isAgg40 sizeOf40 rfl ((hm120.ext hDr).get 5 rfl) rfl rfl) ?_;obtain ⟨p124,e124,hM⟩:=zA4 hM;refine RH.cq (cK func144) 7 (zM0 (Z0:=All) e124 (show zA2.rep.rel All _ _ _ from ⟨_,_,rfl,⟨rfl,trivial⟩,⟨_,_,rfl,⟨rfl,trivial⟩,⟨_,_,rfl,⟨_,_,rfl,⟨rfl,trivial⟩,⟨_,_,rfl,(zA1 (hm120.get 2 rfl)).1,(zA1 (hm120.get 2 rfl)).2.1,(zA1 (hm120.get 2 rfl)).2.2⟩⟩,⟨_,_,rfl,⟨rfl,trivial⟩,⟨_,_,rfl,(zA1 (hm120.get 3 rfl)).1,(zA1 (hm120.get 3 rfl)).2.1,(zA1 (hm120.get 3 rfl)).2.2⟩⟩⟩⟩⟩) :) ?_;rintro _ w124 ⟨rfl,hq124⟩;refine ⟨_,rfl,((Ext.refl _).trans hq124.fr),?_⟩;have hm125:=hm120.call0 hq124;obtain ⟨p126,e126,hM⟩:=zA4 hM;refine RH.cq (cK func144) 12 (zM0 (Z0:=All) e126 (show zA2.rep.rel All _ _ _ from ⟨_,_,rfl,⟨rfl,trivial⟩,⟨_,_,rfl,⟨rfl,trivial⟩,⟨_,_,rfl,⟨_,_,rfl,⟨rfl,trivial⟩,⟨_,_,rfl,(zD9 (hm125.get 6 rfl)).1,(zD9 (hm125.get 6 rfl)).2.1,(zD9 (hm125.get 6 rfl)).2.2⟩⟩,⟨_,_,rfl,⟨rfl,trivial⟩,⟨_,_,rfl,(zD9 (hm125.get 7 rfl)).1,(zD9 (hm125.get 7 rfl)).2.1,(zD9 (hm125.get 7 rfl)).2.2⟩⟩⟩⟩⟩) :) ?_;rintro _ w126 ⟨rfl,hq126⟩;refine ⟨_,rfl,(((Ext.refl _).trans hq124.fr).trans hq126.fr),?_⟩;have hm127:=hm125.call0 hq126
   refine RH.here fun hS13=>RH.on 13 rfl (V.eqlT Tryz.eqGuardType206 rfl rfl (eq206 _ _)) hS13 ?_
   refine dq [14] ?_;refine RH.doneP (by kernel_rfl) ?_;have hm129:=hm127.cu [0,1,2,3,4] [5,6,7];obtain ⟨F128,hm128⟩:=hm129.fold (zA6.sh b0 x0) ⟨A120_0,c120_0,A120_1,c120_1,rfl⟩;exact hk1 ((decide (p124 = p126)),F128,F1) _ _ sA (hm128.pk [5,0,2,3,4]) hM
  ·refine dq [6,7,8,9,10,11,12,13,14] ?_;refine RH.doneP (by kernel_rfl) ?_;have hm131:=hm120.cu [0,1,2,3,4] [5,6,7];obtain ⟨F130,hm130⟩:=hm131.fold (zA6.sh b0 x0) ⟨A120_0,c120_0,A120_1,c120_1,rfl⟩;exact hk1 (false,F130,F1) _ _ sA (hm130.pk [5,0,2,3,4]) hM
theorem zJf {x0 : UInt64} {r : Int} (hM : zGh x0 = some r)  :
    Calls prog 191 #[zAo x0] w fun x w'=>x = .returned (iv r) ∧ Hp Z0 No w w' []:=by
 have hm0:=Hp.nil Z0 No w;have hc0:=zD1.nil;refine Rn.en func191 ?_;refine gg 8 rfl (Rn.q rfl (V.geq rfl rfl) (gg 1 rfl ?_));refine Rn.jG hm0 hM (G:=UInt64 × Int) (fun g=>[(0,zAo (g.1)),(2,iv (g.2))]) (fun g=>[]) (fun j g=>j g.1 g.2) ?_ ?_
 ·rintro ⟨y1,y2⟩ w3 hm3 hM
  try dsimp only at hM
  refine gg 4 rfl (Rn.q rfl (V.geq rfl rfl) (gg 1 rfl ?_));refine Rn.jG hm0 hM (G:=UInt64 × Int) (fun g=>[(0,zAo (g.1)),(2,iv (g.2))]) (fun g=>[]) (fun j g=>j g.1 g.2) ?_ ?_
  ·rintro ⟨y4,y5⟩ w6 hm6 hM
   try dsimp only at hM
   refine gg 4 rfl (Rn.q rfl (V.geq rfl rfl) (gg 1 rfl ?_));refine Rn.jG hm0 hM (G:=UInt64 × Int) (fun g=>[(0,zAo (g.1)),(2,iv (g.2))]) (fun g=>[]) (fun j g=>j g.1 g.2) ?_ ?_
   ·rintro ⟨y7,y8⟩ w9 hm9 hM
    try dsimp only at hM
    refine gg 4 rfl (Rn.q rfl (V.cv8 underlying35 underlying5 rfl) ?_);obtain ⟨z10,e10,hM⟩:=zA4 hM;refine Rn.q rfl (V.idxSZ underlying9 rfl rfl e10) (Rn.q rfl (V.cv8i (a:=z10) underlying5 underlying3 rfl) (gg 3 rfl ?_))
    cases hM
    exact Rn.R1 func191 ⟨rfl,hm9.pk []⟩
   intro j3 hM hk3;refine zB hM (Rn.condD rfl) (fun h11 hM=>?_) (fun h11 hM=>?_)
   ·refine gg 3 rfl (Rn.q rfl (V.sh64 rfl rfl _ 8 rfl rfl (zMh _ _ _ 8 (by decide))) (gg 7 rfl ?_));exact hk3 ((y4 >>> UInt64.ofNat 8),(W64 (y5 + 8))) _ _ sA (hm6.pk []) hM
   ·refine gg 1 rfl ?_;exact hk3 (y4,y5) _ _ sA (hm6.pk []) hM
  intro j2 hM hk2;refine zB hM (Rn.condD rfl) (fun h12 hM=>?_) (fun h12 hM=>?_)
  ·refine gg 3 rfl (Rn.q rfl (V.sh64 rfl rfl _ 16 rfl rfl (zMh _ _ _ 16 (by decide))) (gg 7 rfl ?_));exact hk2 ((y1 >>> UInt64.ofNat 16),(W64 (y2 + 16))) _ _ sA (hm3.pk []) hM
  ·refine gg 1 rfl ?_;exact hk2 (y1,y2) _ _ sA (hm3.pk []) hM
 intro j1 hM hk1;refine zB hM (Rn.condD rfl) (fun h13 hM=>?_) (fun h13 hM=>?_)
 ·refine gg 3 rfl (Rn.q rfl (V.sh64 rfl rfl _ 32 rfl rfl (zMh _ _ _ 32 (by decide))) (gg 5 rfl ?_));exact hk1 ((x0 >>> UInt64.ofNat 32),32) _ _ sA (hm0.pk []) hM
 ·refine gg 1 rfl ?_;exact hk1 (x0,0) _ _ sA (hm0.pk []) hM
theorem zGk {x0 : UInt64} {r : Int} (hM : zDe x0 = some r)  :
    Calls prog 218 #[zAo x0] w fun x w'=>x = .returned (iv r) ∧ Hp Z0 No w w' []:=by
 have hm0:=Hp.nil Z0 No w;have hc0:=zD1.nil;refine Rn.en func218 ?_;refine gg 7 rfl ?_;obtain ⟨p1,e1,hM⟩:=zA4 hM
 refine Rn.c0 (cK func191) (zJf (Z0:=All) e1  :) hm0 fun w1 _ hm2=>?_
 refine gg 3 rfl ?_
 cases hM
 exact Rn.R1 func218 ⟨rfl,hm2.pk []⟩
theorem zGg {x0 : UInt64} {r : Int} (hM : zD4 x0 = some r) (f0 : (rdR 3 0 gl3).H Z0 w) :
    Calls prog 219 #[zAo x0] w fun x w'=>x = .returned (iv r) ∧ Hp Z0 No w w' []:=by
 have hm0:=Hp.nil Z0 No w;have hc0:=zD1.nil;have hm2:=hm0.know (rdR 3 0 gl3) (fun _ h=>h) (hm0.in0 hc0 f0);replace hc0:=hc0.snoc (r:=rdR 3 0 gl3) (fun _ h=>h);refine Rn.en func219 ?_;refine gg 8 rfl (Rn.q rfl (V.eql rfl rfl) (gg 1 rfl ?_));refine zB hM (Rn.condD rfl) (fun h3 hM=>?_) (fun h3 hM=>?_)
 ·refine gg 4 rfl ?_
  cases hM
  exact Rn.R1 func219 ⟨rfl,hm2.pk []⟩
 ·refine gg 5 rfl (Rn.q rfl (V.neg64U (a:=x0) rfl) (Rn.q rfl (V.o64 rfl rfl x0 (0 - x0) rfl rfl (zQj _ _ _)) (Rn.q rfl (V.ari64 (a:=x0 &&& (0 - x0)) (b:=(285870213051353865 : UInt64)) rfl rfl _ rfl (zLm _ _)) (Rn.q rfl (V.sh64 rfl rfl _ 58 rfl rfl (zMh _ _ _ 58 (by decide))) ?_))));obtain ⟨z4,e4,hM⟩:=zA4 hM;obtain ⟨kk4,ke4,kz4,kl4⟩:=zHf e4;have hm6:=Hp.knowL [rdR 3 (0 + kk4 * 1) [u8v z4]] _ hm2 (knC (fun _ h=>h) (rdT (hm2.get 0 rfl) kz4) kn0);refine Rn.q rfl (V.ixR kk4 underlying270 sizeOf5 rfl rfl ke4 (Nat.lt_of_lt_of_eq kl4 rfl)) (Rn.q rfl (V.ldR0 isAgg5 rfl (hm6.get 1 rfl).2 rfl) (Rn.q rfl (V.cv8i (a:=z4) underlying5 underlying3 rfl) (gg 2 rfl ?_)))
  cases hM
  exact Rn.R1 func219 ⟨rfl,hm6.pk []⟩
theorem zDa {x0 : zBb} {r : Int} (hM : zCj x0 = some r)  :
    Calls prog 182 #[.agg [iv x0.ahead,iv x0.size].toArray] w fun x w'=>x = .returned (iv r) ∧ Hp Z0 No w w' []:=by
 have hm0:=Hp.nil Z0 No w;have hc0:=zD1.nil;refine Rn.en func182 ?_;refine gg 2 rfl (Rn.box rfl rfl rfl rfl rfl ?_);intro b1 w1 hb1 m1 e1;have hm3:=(hm0.addBox hb1 e1 m1).nf [zAr _ _ [_,_]] rfl;refine gg 5 rfl (Rn.q rfl (V.ldB isAgg3 rfl (hm3.get 0 rfl) rfl) (gg 2 rfl (Rn.q rfl (V.ldB isAgg3 rfl (hm3.get 0 rfl) rfl) (gg 3 rfl ?_))))
 cases hM
 exact Rn.R1 func182 ⟨rfl,hm3.pk []⟩
theorem zIs {x0 : zBb} {x1 : UInt64} {r : Bool} (hM : zFv x0 x1 = some r) (f0 : (rdR 1 0 gl1).H Z0 w) (f1 : (rdR 3 0 gl3).H Z0 w) :
    Calls prog 181 #[.agg [iv x0.ahead,iv x0.size].toArray,zAo x1] w fun x w'=>x = .returned (.bool (r)) ∧ Hp Z0 No w w' []:=by
 have hm0:=Hp.nil Z0 No w;have hc0:=zD1.nil;have hm3:=hm0.know (rdR 1 0 gl1) (fun _ h=>h) (hm0.in0 hc0 f0);replace hc0:=hc0.snoc (r:=rdR 1 0 gl1) (fun _ h=>h);have hm4:=hm3.know (rdR 3 0 gl3) (fun _ h=>h) (hm3.in0 hc0 f1);replace hc0:=hc0.snoc (r:=rdR 3 0 gl3) (fun _ h=>h);refine Rn.en func181 ?_;refine gg 2 rfl (Rn.box rfl rfl rfl rfl rfl ?_);intro b5 w5 hb5 m5 e5;have hm7:=(hm4.addBox hb5 e5 m5).nf [_,_,zAr _ _ [_,_]] rfl;refine gg 3 rfl ?_;refine Rn.drawH rfl hm7 ?_;intro w8 hm8;refine RH.tk 0 rfl (fun w' hDr=>V.ldBA [_,_] isAgg188 sizeOf188 rfl ((hm8.ext hDr).get 2 rfl) rfl rfl) ?_
 refine RH.here fun hS1=>RH.on 1 rfl (V.ldA (vs:=[iv 0,iv 0]) isAgg188 sizeOf188 rfl (hm8.get 0 rfl).2 rfl) hS1 ?_
 refine RH.here fun hS2=>RH.on 2 rfl (V.neqT Tryz.eqGuardType188 rfl rfl (zZt _ ({ ahead:=0,size:=0 } : zBb))) hS2 ?_
 refine dq [3] ?_;refine zB hM (RH.partD (t:=8) rfl) (fun h9 hM=>?_) (fun h9 hM=>?_)
 ·refine dq [4,6] ?_;refine RH.tk 7 rfl (fun w' hDr=>V.ldB isAgg3 rfl ((hm8.ext hDr).get 2 rfl) rfl) ?_;obtain ⟨p10,e10,hM⟩:=zA4 hM;refine RH.cq (cK func218) 5 (zGk (Z0:=All) e10  :) ?_;rintro _ w10 ⟨rfl,hq10⟩;refine ⟨_,rfl,((Ext.refl _).trans hq10.fr),?_⟩;have hm11:=hm8.call0 hq10;refine dq [8,9,10] ?_;refine zB hM (RH.partD (t:=15) rfl) (fun h12 hM=>?_) (fun h12 hM=>?_)
  ·refine dq [11] ?_;refine RH.tk 13 rfl (fun w' hDr=>V.ldBA [_,_] isAgg188 sizeOf188 rfl ((hm8.ext hDr).get 2 rfl) rfl rfl) ?_;obtain ⟨p13,e13,hM⟩:=zA4 hM;refine RH.cq (cK func219) 12 (zGg (Z0:=All) e13 (zGf (hm11.get 1 rfl)) :) ?_;rintro _ w13 ⟨rfl,hq13⟩;refine ⟨_,rfl,(((Ext.refl _).trans hq10.fr).trans hq13.fr),?_⟩;have hm14:=hm11.call0 hq13;obtain ⟨p15,e15,hM⟩:=zA4 hM;refine RH.cq (cK func182) 14 (zDa (Z0:=All) e15  :) ?_;rintro _ w15 ⟨rfl,hq15⟩;refine ⟨_,rfl,((((Ext.refl _).trans hq10.fr).trans hq13.fr).trans hq15.fr),?_⟩;have hm16:=hm14.call0 hq15;refine dq [15,16,17] ?_;refine RH.doneP (by kernel_rfl) ?_
   cases hM
   exact Rn.R1 func181 ⟨rfl,hm16.pk []⟩
  ·refine dq [11,12,13,14,15,16,17] ?_;refine RH.doneP (by kernel_rfl) ?_
   cases hM
   exact Rn.R1 func181 ⟨rfl,hm11.pk []⟩
 ·refine dq [4,5,6,7,8,9,10,11,12,13,14,15,16,17] ?_;refine RH.doneP (by kernel_rfl) ?_
  cases hM
  exact Rn.R1 func181 ⟨rfl,hm8.pk []⟩
theorem zMk {x0 : UInt64} {r : zBb} (hM : zJd x0 = some r) (f0 : (rdR 3 0 gl3).H Z0 w) :
    Calls prog 183 #[zAo x0] w fun x w'=>x = .returned (.agg [iv r.ahead,iv r.size].toArray) ∧ Hp Z0 No w w' []:=by
 have hm0:=Hp.nil Z0 No w;have hc0:=zD1.nil;have hm2:=hm0.know (rdR 3 0 gl3) (fun _ h=>h) (hm0.in0 hc0 f0);replace hc0:=hc0.snoc (r:=rdR 3 0 gl3) (fun _ h=>h);refine Rn.en func183 ?_;refine gg 2 rfl (Rn.alloc rfl rfl rfl Tryz.zeroValue188 rfl ?_);intro b3 w3 hb3 m3 e3;have hm5:=(hm2.addBox hb3 e3 m3).nf [_,zAr _ _ [_,_]] rfl;refine gg 4 rfl ?_;obtain ⟨p6,e6,hM⟩:=zA4 hM
 refine Rn.c0 (cK func218) (zGk (Z0:=All) e6  :) hm5 fun w6 _ hm7=>?_
 refine Rn.q rfl (V.mini rfl rfl) (gg 8 rfl ?_);obtain ⟨p8,e8,hM⟩:=zA4 hM
 refine Rn.c0 (cK func219) (zGg (Z0:=All) e8 (zGf (hm7.get 0 rfl)) :) hm7 fun w8 _ hm9=>?_
 refine gg 1 rfl (Rn.q rfl (V.bldS (cs:=[_,_]) zay rfl rfl) (Rn.sq rfl sizeOf188 rfl rfl (hm9.get 1 rfl) ?_));intro w10 m10 x10;have hm11:=(hm9.st 1 rfl x10 m10).nf [_,zAr _ _ [_,_]] rfl;refine gg 1 rfl ?_;refine Rn.retG1 func183 rfl (rvC rfl isAgg188 sizeOf188 (hm11.get 1 rfl) rfl) ?_;obtain rfl:=zFu hM;exact ⟨rfl,hm11.pk []⟩
theorem m_xor_Row_Put_sim {x0 : zAg} {x1 : zA0} {x2 : UInt64} {r : (zA0 × zAg)} (hM : zEb x0 x1 x2 = some r) (hL : zK8 Z0 w [zAr b0 190 [iv x0.n,zAo x0.last,iv x0.win.ahead,iv x0.win.size],zA0.obj F1 b1 x1,rdR 1 0 gl1,rdR 3 0 gl3]) :
    Calls prog 124 #[pt b0 0,pt b1 0,zAo x2] w fun x w'=>∃ F_p1,x = .returned (.tuple #[]) ∧ Hp Z0 (LS [zAr b0 190 [iv x0.n,zAo x0.last,iv x0.win.ahead,iv x0.win.size],zA0.obj F1 b1 x1,rdR 1 0 gl1,rdR 3 0 gl3]) w w' [zA0.obj F_p1 b1 r.1,zAr b0 190 [iv r.2.n,zAo r.2.last,iv r.2.win.ahead,iv r.2.win.size]]:=by
 have hm0:=hL.start;refine Rn.en func124 ?_;refine gg 6 rfl (Rn.q rfl (V.ldB isAgg35 rfl (hm0.get 0 rfl) rfl) (Rn.q rfl (V.o64 rfl rfl x2 x0.last rfl rfl (zRv _ _ _)) (gg 3 rfl ?_)));refine Rn.jG hm0 hM (G:=zA0 × zAg × (Nat → Prop)) (fun g=>[(0,pt b0 0),(2,zAo x2)]) (fun g=>[rdR 1 0 gl1,rdR 3 0 gl3,zA0.obj (g.2.2) b1 (g.1),zAr b0 190 [iv (g.2.1).n,zAo (g.2.1).last,iv (g.2.1).win.ahead,iv (g.2.1).win.size]]) (fun j g=>j g.1 g.2.1) ?_ ?_
 ·rintro ⟨y5,y6,F5⟩ w7 hm7 hM
  try dsimp only at hM
  refine gg 5 rfl (Rn.q rfl (V.ldB isAgg3 rfl (hm7.get 3 rfl) rfl) (gg 3 rfl (Rn.sq rfl sizeOf3 rfl rfl (hm7.get 3 rfl) ?_)));intro w8 m8 x8;have hm9:=(hm7.st 3 rfl x8 m8).nf [_,_,_,zAr _ _ [_,_,_,_]] rfl;refine gg 6 rfl (Rn.sq rfl sizeOf35 rfl rfl (hm9.get 3 rfl) ?_);intro w10 m10 x10;have hm11:=(hm9.st 3 rfl x10 m10).nf [_,_,_,zAr _ _ [_,_,_,_]] rfl;refine gg 1 rfl ?_;refine Rn.end0 func124 rfl ?_;obtain rfl:=zFu hM;exact ⟨F5,rfl,hm11.pk [2,3]⟩
 intro j1 hM hk1;refine gg 6 rfl (Rn.q rfl (V.ldB isAgg3 rfl (hm0.get 0 rfl) rfl) (gg 3 rfl ?_));refine zB hM (Rn.condD rfl) (fun h12 hM=>?_) (fun h12 hM=>?_)
 ·refine gg 3 rfl ?_;obtain ⟨p13,e13,hM⟩:=zA4 hM;have hm14:=hm0.cu [0,2,3] [1]
  refine Rn.c1 (cK func176) (m_bitio_Writer_Put_sim e13 hm14.lend :) fun F13_p0 w13 hq13=>?_
  have hm16:=hm14.callAZ hq13;refine gg 2 rfl ?_;exact hk1 (p13.2,x0,F13_p0) _ _ sA (hm16.pk [1,2,3,0]) hM
 ·refine gg 3 rfl (Rn.q rfl (V.eql rfl rfl) (gg 2 rfl ?_));refine zB hM (Rn.condD rfl) (fun h17 hM=>?_) (fun h17 hM=>?_)
  ·refine gg 2 rfl ?_;obtain ⟨p18,e18,hM⟩:=zA4 hM;have hm19:=hm0.cu [0,2,3] [1]
   refine Rn.c1 (cK func176) (m_bitio_Writer_Put_sim e18 hm19.lend :) fun F18_p0 w18 hq18=>?_
   have hm21:=hm19.callAZ hq18;refine gg 2 rfl ?_;exact hk1 (p18.2,x0,F18_p0) _ _ sA (hm21.pk [1,2,3,0]) hM
  ·refine gg 5 rfl (Rn.q rfl (V.ldBA [_,_] isAgg188 sizeOf188 rfl (hm0.get 0 rfl) rfl rfl) (gg 1 rfl ?_));obtain ⟨p22,e22,hM⟩:=zA4 hM
   refine Rn.c0 (cK func181) (zIs (Z0:=All) e22 (zGf (hm0.get 2 rfl)) (zGf (hm0.get 3 rfl)) :) hm0 fun w22 _ hm23=>?_
   refine gg 2 rfl ?_;refine zGt hM (Rn.condS rfl) (fun h24 hM=>?_) (fun h24 hM=>?_)
   ·refine gg 3 rfl ?_;obtain ⟨p25,e25,hM⟩:=zA4 hM;have hm26:=hm23.cu [0,2,3] [1]
    refine Rn.c1 (cK func176) (m_bitio_Writer_Put_sim e25 hm26.lend :) fun F25_p0 w25 hq25=>?_
    have hm28:=hm26.callAZ hq25;refine gg 1 rfl ?_;refine Rn.drawK 14 rfl hm28 (by kernel_rfl) ?_;intro w29 hm29;refine dq [0,1,2,3,4] ?_;refine RH.tk 5 rfl (fun w' hDr=>V.ldBA [_,_] isAgg188 sizeOf188 rfl ((hm29.ext hDr).get 0 rfl) rfl rfl) ?_;refine dq [9,10,11,12] ?_;refine RH.tk 13 rfl (fun w' hDr=>V.ldB isAgg3 rfl ((hm29.ext hDr).get 0 rfl) rfl) ?_;obtain ⟨p30,e30,hM⟩:=zA4 hM;refine RH.cq (cK func182) 6 (zDa (Z0:=All) e30  :) ?_;rintro _ w30 ⟨rfl,hq30⟩;refine ⟨_,rfl,((Ext.refl _).trans hq30.fr),?_⟩;have hm31:=hm29.call0 hq30
    refine RH.here fun hS7=>RH.on 7 rfl (V.cv64 underlying3 underlying137 rfl) hS7 ?_
    refine RH.here fun hS8=>RH.on 8 rfl (V.shr64 (a:=x2 ^^^ x0.last) (m:=(zAe p30).toNat) rfl rfl) hS8 ?_
    refine RG.tailK (by kernel_rfl) ?_;obtain ⟨p32,e32,hM⟩:=zA4 hM;have hm33:=hm31.cu [0,1,2] [3];refine RH.cq (cK func176) 14 (m_bitio_Writer_Put_sim e32 hm33.lend :) ?_;rintro _ w32 ⟨F32_p0,rfl,hq32⟩;refine ⟨_,rfl,trivial,?_⟩;have hm35:=hm33.callAZ hq32;refine RH.doneP (by kernel_rfl) ?_;refine gg 1 rfl ?_;exact hk1 (p32.2,x0,F32_p0) _ _ sA (hm35.pk [1,2,3,0]) hM
   ·refine gg 4 rfl ?_;obtain ⟨p36,e36,hM⟩:=zA4 hM
    refine Rn.c0 (cK func183) (zMk (Z0:=All) e36 (zGf (hm23.get 3 rfl)) :) hm23 fun w36 _ hm37=>?_
    refine gg 2 rfl (Rn.sq rfl sizeOf188 rfl rfl (hm37.get 0 rfl) ?_);intro w38 m38 x38;have hm39:=(hm37.st 0 rfl x38 m38).nf [zAr _ _ [_,_,_,_],_,_,_] rfl;refine gg 4 rfl ?_;obtain ⟨p40,e40,hM⟩:=zA4 hM;have hm41:=hm39.cu [0,2,3] [1]
    refine Rn.c1 (cK func176) (m_bitio_Writer_Put_sim e40 hm41.lend :) fun F40_p0 w40 hq40=>?_
    have hm43:=hm41.callAZ hq40;refine gg 8 rfl (Rn.q rfl (V.ldB isAgg3 rfl (hm43.get 0 rfl) rfl) (Rn.q rfl (V.cv64 underlying3 underlying35 rfl) ?_));obtain ⟨p44,e44,hM⟩:=zA4 hM;have hm45:=hm43.cu [0,1,2] [3]
    refine Rn.c1 (cK func176) (m_bitio_Writer_Put_sim e44 hm45.lend :) fun F44_p0 w44 hq44=>?_
    have hm47:=hm45.callAZ hq44;refine gg 8 rfl (Rn.q rfl (V.ldB isAgg3 rfl (hm47.get 0 rfl) rfl) (gg 1 rfl (Rn.q rfl (V.cv64 underlying3 underlying35 rfl) ?_)));obtain ⟨p48,e48,hM⟩:=zA4 hM;have hm49:=hm47.cu [0,1,2] [3]
    refine Rn.c1 (cK func176) (m_bitio_Writer_Put_sim e48 hm49.lend :) fun F48_p0 w48 hq48=>?_
    have hm51:=hm49.callAZ hq48;refine gg 1 rfl ?_;have hm55:=(hm51.cutF [0] [3] [1,2] rfl (by decide) ⟨fun _ h=>h,fun _ h=>h,trivial⟩).nf ([_,_,_] ++ [_,_,_]) rfl;refine Rn.drawF rfl hm55 ?_;intro w56 hmo56 hm56;refine dq [0,1,2,3,4] ?_;refine RH.tk 5 rfl (fun w' hDr=>V.ldBA [_,_] isAgg188 sizeOf188 rfl ((hmo56.awayK hDr).get 0 rfl) rfl rfl) ?_;refine dq [9,10,11,12] ?_;refine RH.tk 13 rfl (fun w' hDr=>V.ldB isAgg3 rfl ((hmo56.awayK hDr).get 0 rfl) rfl) ?_;obtain ⟨p57,e57,hM⟩:=zA4 hM;refine RH.cq (cK func182) 6 (zDa (Z0:=All) e57  :) ?_;rintro _ w57 ⟨rfl,hq57⟩;have hm58:=hm56.call0 hq57;refine ⟨_,rfl,hm58.fr,?_⟩
    refine RH.here fun hS7=>RH.on 7 rfl (V.cv64 underlying3 underlying137 rfl) hS7 ?_
    refine RH.here fun hS8=>RH.on 8 rfl (V.shr64 (a:=x2 ^^^ x0.last) (m:=(zAe p57).toNat) rfl rfl) hS8 ?_
    obtain ⟨p59,e59,hM⟩:=zA4 hM;have hm60:=hm58.cu [1,2] [0];refine RH.cq (cK func176) 14 (m_bitio_Writer_Put_sim e59 hm60.lend :) ?_;rintro _ w59 ⟨F59_p0,rfl,hq59⟩;have hm62:=hm60.callAZ hq59;refine ⟨_,rfl,hm62.fr,?_⟩;refine RH.doneP (by kernel_rfl) ?_;have hm63:=hmo56.callAZ hm62;have hm64:=(hm63.pk [0,3,4,5]).nq;refine gg 1 rfl ?_;exact hk1 (p59.2,({ n:=x0.n,last:=x0.last,win:=p36 } : zAg),F59_p0) _ _ sA (hm64.pk [1,2,3,0]) hM
theorem m_chunk_rows_put_sim {F0_ords : Nat → Prop} {b0_ords : Nat} {F0_times : Nat → Prop} {b0_times : Nat} {F0_spans : Nat → Prop} {b0_spans : Nat} {F0_ints : Nat → Prop} {b0_ints : Nat} {F0_re : Nat → Prop} {b0_re : Nat} {F0_im : Nat → Prop} {b0_im : Nat} {F0_hists : Nat → Prop} {b0_hists : Nat} {x0 : zAt} {x1 : zA0} {x2 : Int} {x3 : zA9} {r : (zA5 × zA5 × zA5 × zA5 × zAg × zAg × zA6 × zA0)} (hM : zI3 x0 x1 x2 x3 = some r) (hL : zK8 Z0 w [zA5.obj F0_ords b0_ords x0.ords,zA5.obj F0_times b0_times x0.times,zA5.obj F0_spans b0_spans x0.spans,zA5.obj F0_ints b0_ints x0.ints,zAg.obj F0_re b0_re x0.re,zAg.obj F0_im b0_im x0.im,zA6.obj F0_hists b0_hists x0.hists,zA0.obj F1 b1 x1,rdR 1 0 gl1,rdR 3 0 gl3,zSw zA9.rep cs3 x3]) :
    Calls prog 64 #[.agg [pt b0_ords 0,pt b0_times 0,pt b0_spans 0,pt b0_ints 0,pt b0_re 0,pt b0_im 0,pt b0_hists 0].toArray,pt b1 0,iv x2,.agg cs3.toArray] w fun x w'=>∃ F_p0_ords F_p0_times F_p0_spans F_p0_ints F_p0_re F_p0_im F_p0_hists F_p1,x = .returned (.tuple #[]) ∧ Hp Z0 (LS [zA5.obj F0_ords b0_ords x0.ords,zA5.obj F0_times b0_times x0.times,zA5.obj F0_spans b0_spans x0.spans,zA5.obj F0_ints b0_ints x0.ints,zAg.obj F0_re b0_re x0.re,zAg.obj F0_im b0_im x0.im,zA6.obj F0_hists b0_hists x0.hists,zA0.obj F1 b1 x1,rdR 1 0 gl1,rdR 3 0 gl3,zSw zA9.rep cs3 x3]) w w' [zA5.obj F_p0_ords b0_ords r.1,zA5.obj F_p0_times b0_times r.2.1,zA5.obj F_p0_spans b0_spans r.2.2.1,zA5.obj F_p0_ints b0_ints r.2.2.2.1,zAg.obj F_p0_re b0_re r.2.2.2.2.1,zAg.obj F_p0_im b0_im r.2.2.2.2.2.1,zA6.obj F_p0_hists b0_hists r.2.2.2.2.2.2.1,zA0.obj F_p1 b1 r.2.2.2.2.2.2.2]:=by
 have hm0:=hL.start;have h3:=hm0.get 10 rfl;obtain ⟨Ar9,cr9,Ar11,cr11,Ar13,cr13,rfl,fs9,fs11,fs13⟩:=zA9.relE h3;have hm18:=Hp.knowL [slR Ar9 cr9 zA.rep x3.Attrs,slR Ar11 cr11 zAp x3.Hist.Pos.Counts,slR Ar13 cr13 zAp x3.Hist.Neg.Counts] _ hm0 (knC (fun _ h=>h) fs9 (knC (fun _ h=>h) fs11 (knC (fun _ h=>h) fs13 kn0)));refine Rn.en func64 ?_;refine gg 2 rfl (Rn.box rfl rfl rfl rfl rfl ?_);intro b19 w19 hb19 m19 e19;have hm21:=(hm18.addBox hb19 e19 m19).nf [_,_,_,_,_,_,_,_,_,_,_,_,_,_,zAr _ _ [_,_,_,_,_,_,_]] rfl;refine Rn.box rfl rfl rfl rfl rfl ?_;intro b22 w22 hb22 m22 e22;have hm24:=(hm21.addBox hb22 e22 m22).nf [_,_,_,_,_,_,_,_,_,_,_,_,_,_,_,zAr _ _ [_,_,_,_,_,_,_,_,_,_,_,_,_,_,_,_,_]] rfl;refine gg 4 rfl (Rn.q rfl (V.ldB isAgg76 rfl (hm24.get 14 rfl) rfl) (gg 2 rfl ?_));obtain ⟨_,rfl,hm26⟩:=hm24.unf 0 rfl;replace hm26:=hm26.nq;obtain ⟨p25,e25,hM⟩:=zA4 hM;have hm27:=hm26.cu [0,1,2,3,4,5,7,8,9,10,11,12,13,14] [15,6]
 refine Rn.c1 (cK func121) (m_vary_Row_Put_sim e25 hm27.lend :) fun F25_p1 w25 hq25=>?_
 have hm30:=hm27.callAZ hq25;refine gg 4 rfl (Rn.q rfl (V.ldB isAgg76 rfl (hm30.get 12 rfl) rfl) (gg 2 rfl (Rn.q rfl (V.ldB isAgg3 rfl (hm30.get 13 rfl) rfl) ?_)));obtain ⟨_,rfl,hm32⟩:=hm30.unf 0 rfl;replace hm32:=hm32.nq;obtain ⟨p31,e31,hM⟩:=zA4 hM;have hm33:=hm32.cu [0,1,2,3,4,5,6,7,8,9,10,11,12,14] [15,13]
 refine Rn.c1 (cK func121) (m_vary_Row_Put_sim e31 hm33.lend :) fun F31_p1 w31 hq31=>?_
 have hm36:=hm33.callAZ hq31;refine gg 5 rfl (Rn.q rfl (V.ldB isAgg3 rfl (hm36.get 12 rfl) rfl) (gg 2 rfl ?_));refine Rn.jG hm0 hM (G:=zA5 × zA0 × (Nat → Prop) × (Nat → Prop) × (Nat → Prop) × (Nat → Prop) × (Nat → Prop) × (Nat → Prop)) (fun g=>[(1,pt b1 0),(4,pt b19 0),(7,pt b22 0)]) (fun g=>[zA5.obj (g.2.2.1) b0_ints x0.ints,zAg.obj (g.2.2.2.1) b0_re x0.re,zAg.obj (g.2.2.2.2.1) b0_im x0.im,zA6.obj (g.2.2.2.2.2.1) b0_hists x0.hists,rdR 1 0 gl1,rdR 3 0 gl3,slR Ar9 cr9 zA.rep x3.Attrs,slR Ar11 cr11 zAp x3.Hist.Pos.Counts,slR Ar13 cr13 zAp x3.Hist.Neg.Counts,zAr b19 80 [pt b0_ords 0,pt b0_times 0,pt b0_spans 0,pt b0_ints 0,pt b0_re 0,pt b0_im 0,pt b0_hists 0],zAr b22 42 [Str (x3.Name),.slice Ar9 (x3.Attrs).length cr9,iv x3.Kind,iv x3.Temp,.bool (x3.Mono),iv x3.Start,iv x3.Time,iv x3.Int_,zAo x3.Re,zAo x3.Im,iv x3.Hist.Scale,zAo x3.Hist.Zero,iv x3.Hist.Pos.Offset,.slice Ar11 (x3.Hist.Pos.Counts).length cr11,iv x3.Hist.Neg.Offset,.slice Ar13 (x3.Hist.Neg.Counts).length cr13,iv x3.Flags],zAr b0_ords 186 [iv p25.2.n,zAo p25.2.last,zAo p25.2.step],zAr b0_times 186 [iv p31.2.n,zAo p31.2.last,zAo p31.2.step],zA5.obj (g.2.2.2.2.2.2.1) b0_spans (g.1),zA0.obj (g.2.2.2.2.2.2.2) b1 (g.2.1)]) (fun j g=>j g.1 g.2.1) ?_ ?_
 ·rintro ⟨y41,y42,F37,F38,F39,F40,F41,F42⟩ w43 hm43 hM
  try dsimp only at hM
  refine gg 4 rfl (Rn.q rfl (V.ldB isAgg3 rfl (hm43.get 10 rfl) rfl) (Rn.q rfl (V.cv64 underlying3 underlying35 rfl) ?_));obtain ⟨p44,e44,hM⟩:=zA4 hM;have hm45:=hm43.cu [0,1,2,3,4,5,6,7,8,9,10,11,12,13] [14]
  refine Rn.c1 (cK func122) (m_vary_Put_sim e44 hm45.lend :) fun F44_p0 w44 hq44=>?_
  have hm47:=hm45.callAZ hq44;refine gg 4 rfl (Rn.q rfl (V.ldB isAgg3 rfl (hm47.get 10 rfl) rfl) (gg 7 rfl ?_));refine zB hM (Rn.condD rfl) (fun h48 hM=>?_) (fun h48 hM=>?_)
  ·refine gg 2 rfl (Rn.q rfl (V.ldB isAgg76 rfl (hm47.get 9 rfl) rfl) (gg 2 rfl (Rn.q rfl (V.ldB isAgg3 rfl (hm47.get 10 rfl) rfl) ?_)));obtain ⟨_,rfl,hm50⟩:=hm47.unf 0 rfl;replace hm50:=hm50.nq;obtain ⟨p49,e49,hM⟩:=zA4 hM;have hm51:=hm50.cu [0,1,2,3,4,5,6,7,8,9,10,11,12] [14,13]
   refine Rn.c1 (cK func121) (m_vary_Row_Put_sim e49 hm51.lend :) fun F49_p1 w49 hq49=>?_
   have hm54:=hm51.callAZ hq49;refine gg 2 rfl ?_;have hm56:=hm54.cu [0,1,2,3,4,5,6,7,8,9,11,12,13,14] [10];obtain ⟨F55,hm55⟩:=hm56.fold (zA5.sh b0_ords p25.2) rfl;have hm58:=hm55.cu [0,1,2,3,4,5,6,7,8,9,11,12,13,14] [10];obtain ⟨F57,hm57⟩:=hm58.fold (zA5.sh b0_times p31.2) rfl;have hm60:=hm57.cu [0,1,2,3,4,5,6,7,8,9,10,11,13,14] [12];obtain ⟨F59,hm59⟩:=hm60.fold (zA5.sh b0_ints p49.2) rfl;refine Rn.end0 func64 rfl ?_;obtain rfl:=zFu hM;exact ⟨F55,F57,F41,F59,F38,F39,F40,F49_p1,rfl,hm59.pk [12,13,10,14,0,1,2,11]⟩
  ·refine gg 5 rfl ?_;refine zB hM (Rn.condD rfl) (fun h61 hM=>?_) (fun h61 hM=>?_)
   ·refine gg 2 rfl (Rn.q rfl (V.ldB isAgg78 rfl (hm47.get 9 rfl) rfl) (gg 2 rfl (Rn.q rfl (V.ldBA [_,_,_,_,_,_] isAgg40 sizeOf40 rfl (hm47.get 10 rfl) rfl rfl) ?_)));obtain ⟨p62,e62,hM⟩:=zA4 hM;have hm63:=hm47.know (zSw zA2.rep [iv x3.Hist.Scale,zAo x3.Hist.Zero,iv x3.Hist.Pos.Offset,.slice Ar11 (x3.Hist.Pos.Counts).length cr11,iv x3.Hist.Neg.Offset,.slice Ar13 (x3.Hist.Neg.Counts).length cr13] x3.Hist) (fun _ h=>h) (show zA2.rep.rel _ _ _ _ from ⟨_,_,rfl,⟨rfl,trivial⟩,⟨_,_,rfl,⟨rfl,trivial⟩,⟨_,_,rfl,⟨_,_,rfl,⟨rfl,trivial⟩,⟨_,_,rfl,(hm47.get 7 rfl).1,(hm47.get 7 rfl).2.1,(hm47.get 7 rfl).2.2⟩⟩,⟨_,_,rfl,⟨rfl,trivial⟩,⟨_,_,rfl,(hm47.get 8 rfl).1,(hm47.get 8 rfl).2.1,(hm47.get 8 rfl).2.2⟩⟩⟩⟩⟩);have hm65:=hm63.cu [0,1,2,4,5,6,7,8,9,10,11,12,13] [3,14,15]
    refine Rn.c2 (cK func123) (m_histbits_Row_Put_sim e62 hm65.lend :) fun F62_p0 F62_p1 w62 hq62=>?_
    have hm68:=hm65.callAZ hq62;refine gg 2 rfl ?_;have hm70:=hm68.cu [0,1,2,3,4,5,6,7,8,9,11,12,13,14] [10];obtain ⟨F69,hm69⟩:=hm70.fold (zA5.sh b0_ords p25.2) rfl;have hm72:=hm69.cu [0,1,2,3,4,5,6,7,8,9,11,12,13,14] [10];obtain ⟨F71,hm71⟩:=hm72.fold (zA5.sh b0_times p31.2) rfl;refine Rn.end0 func64 rfl ?_;obtain rfl:=zFu hM;exact ⟨F69,F71,F41,F37,F38,F39,F62_p0,F62_p1,rfl,hm71.pk [13,14,10,0,1,2,11,12]⟩
   ·refine gg 5 rfl ?_;refine zB hM (Rn.condD rfl) (fun h73 hM=>?_) (fun h73 hM=>?_)
    ·refine gg 3 rfl (Rn.q rfl (V.ldB isAgg77 rfl (hm47.get 9 rfl) rfl) (gg 2 rfl (Rn.q rfl (V.ldB isAgg35 rfl (hm47.get 10 rfl) rfl) ?_)));obtain ⟨_,rfl,hm75⟩:=hm47.unf 1 rfl;replace hm75:=hm75.nq;obtain ⟨p74,e74,hM⟩:=zA4 hM;have hm76:=hm75.dup 3 rfl (fun _ h=>h);have hm78:=hm76.dup 4 rfl (fun _ h=>h);have hm80:=hm78.cu [0,1,2,3,4,5,6,7,8,9,10,11,12] [14,13,15,16]
     refine Rn.c1 (cK func124) (m_xor_Row_Put_sim e74 hm80.lend :) fun F74_p1 w74 hq74=>?_
     have hm83:=hm80.callAZ hq74;refine gg 3 rfl (Rn.q rfl (V.ldB isAgg77 rfl (hm83.get 8 rfl) rfl) (gg 2 rfl (Rn.q rfl (V.ldB isAgg35 rfl (hm83.get 9 rfl) rfl) ?_)));obtain ⟨_,rfl,hm85⟩:=hm83.unf 1 rfl;replace hm85:=hm85.nq;obtain ⟨p84,e84,hM⟩:=zA4 hM;have hm86:=hm85.dup 2 rfl (fun _ h=>h);have hm88:=hm86.dup 3 rfl (fun _ h=>h);have hm90:=hm88.cu [0,1,2,3,4,5,6,7,8,9,10,11,13] [14,12,15,16]
     refine Rn.c1 (cK func124) (m_xor_Row_Put_sim e84 hm90.lend :) fun F84_p1 w84 hq84=>?_
     have hm93:=hm90.callAZ hq84;refine gg 2 rfl ?_;have hm95:=hm93.cu [0,1,2,3,4,5,6,7,8,10,11,12,13,14] [9];obtain ⟨F94,hm94⟩:=hm95.fold (zA5.sh b0_ords p25.2) rfl;have hm97:=hm94.cu [0,1,2,3,4,5,6,7,8,10,11,12,13,14] [9];obtain ⟨F96,hm96⟩:=hm97.fold (zA5.sh b0_times p31.2) rfl;have hm99:=hm96.cu [0,1,2,3,4,5,6,7,8,9,11,12,13,14] [10];obtain ⟨F98,hm98⟩:=hm99.fold (zAg.sh b0_re p74.2) rfl;have hm101:=hm98.cu [0,1,2,3,4,5,6,7,8,9,10,12,13,14] [11];obtain ⟨F100,hm100⟩:=hm101.fold (zAg.sh b0_im p84.2) rfl;refine Rn.end0 func64 rfl ?_;obtain rfl:=zFu hM;exact ⟨F94,F96,F41,F37,F98,F100,F40,F84_p1,rfl,hm100.pk [11,12,9,0,13,14,1,10]⟩
    ·refine gg 2 rfl (Rn.q rfl (V.ldB isAgg77 rfl (hm47.get 9 rfl) rfl) (gg 2 rfl (Rn.q rfl (V.ldB isAgg35 rfl (hm47.get 10 rfl) rfl) ?_)));obtain ⟨_,rfl,hm103⟩:=hm47.unf 1 rfl;replace hm103:=hm103.nq;obtain ⟨p102,e102,hM⟩:=zA4 hM;have hm104:=hm103.dup 3 rfl (fun _ h=>h);have hm106:=hm104.dup 4 rfl (fun _ h=>h);have hm108:=hm106.cu [0,1,2,3,4,5,6,7,8,9,10,11,12] [14,13,15,16]
     refine Rn.c1 (cK func124) (m_xor_Row_Put_sim e102 hm108.lend :) fun F102_p1 w102 hq102=>?_
     have hm111:=hm108.callAZ hq102;refine gg 2 rfl ?_;have hm113:=hm111.cu [0,1,2,3,4,5,6,7,8,9,11,12,13,14] [10];obtain ⟨F112,hm112⟩:=hm113.fold (zA5.sh b0_ords p25.2) rfl;have hm115:=hm112.cu [0,1,2,3,4,5,6,7,8,9,11,12,13,14] [10];obtain ⟨F114,hm114⟩:=hm115.fold (zA5.sh b0_times p31.2) rfl;have hm117:=hm114.cu [0,1,2,3,4,5,6,7,8,9,10,11,13,14] [12];obtain ⟨F116,hm116⟩:=hm117.fold (zAg.sh b0_re p102.2) rfl;refine Rn.end0 func64 rfl ?_;obtain rfl:=zFu hM;exact ⟨F112,F114,F41,F37,F116,F39,F40,F102_p1,rfl,hm116.pk [12,13,10,0,14,1,2,11]⟩
 intro j1 hM hk1;refine zB hM (Rn.condD rfl) (fun h118 hM=>?_) (fun h118 hM=>?_)
 ·refine gg 2 rfl (Rn.q rfl (V.ldB isAgg76 rfl (hm36.get 11 rfl) rfl) (gg 2 rfl (Rn.q rfl (V.ldB isAgg3 rfl (hm36.get 12 rfl) rfl) (gg 1 rfl (Rn.q rfl (V.ldB isAgg3 rfl (hm36.get 12 rfl) rfl) (gg 1 rfl ?_))))));obtain ⟨_,rfl,hm120⟩:=hm36.unf 0 rfl;replace hm120:=hm120.nq;obtain ⟨p119,e119,hM⟩:=zA4 hM;have hm121:=hm120.cu [0,1,2,3,4,5,6,7,8,9,10,11,12,14] [15,13]
  refine Rn.c1 (cK func121) (m_vary_Row_Put_sim e119 hm121.lend :) fun F119_p1 w119 hq119=>?_
  have hm124:=hm121.callAZ hq119;refine gg 1 rfl ?_;have hm126:=hm124.cu [0,1,2,3,4,5,6,7,8,9,10,11,12,13,14] [15];obtain ⟨F125,hm125⟩:=hm126.fold (zA5.sh b0_spans p119.2) rfl;exact hk1 (p119.2,p119.1,F0_ints,F0_re,F0_im,F0_hists,F125,F119_p1) _ _ sA (hm125.pk [0,1,2,3,4,5,7,8,9,10,11,12,13,15,14]) hM
 ·refine gg 1 rfl ?_;exact hk1 (x0.spans,p31.1,F0_ints,F0_re,F0_im,F0_hists,F0_spans,F31_p1) _ _ sA (hm36.pk [1,2,3,4,5,6,8,9,10,11,12,13,15,0,14]) hM
theorem zNs  {r : zAb} (hM : zJq  = some r)  :
    Calls prog 125 #[] w fun x w'=>∃ F_0 b_0,x = .returned (pt b_0 0) ∧ Hp Z0 No w w' [zAb.obj F_0 b_0 r]:=by
 have hm0:=Hp.nil Z0 No w;have hc0:=zD1.nil;refine Rn.en func125 ?_;refine gg 6 rfl (Rn.q rfl (V.bldS (cs:=[_]) st179 rfl rfl) (Rn.box rfl rfl rfl rfl rfl ?_));intro b1 w1 hb1 m1 e1;have hm3:=(hm0.addBox hb1 e1 m1).nf [zAr _ _ [_]] rfl;refine gg 2 rfl ?_;have hm4:=hm3.addNil 5 zCa;have hm7:=hm4.cu [] [0,1];obtain ⟨F6,hm6⟩:=hm7.fold (zAb.sh b1 ({ b:=([] : List UInt8) } : zAb)) ⟨none,0,rfl⟩
 cases hM
 exact Rn.R1 func125 ⟨F6,b1,rfl,hm6.pk [0]⟩
theorem zLw {x0 : UInt64} {r : Int} (hM : zIg x0 = some r)  :
    Calls prog 133 #[zAo x0] w fun x w'=>x = .returned (iv r) ∧ Hp Z0 No w w' []:=by
 have hm0:=Hp.nil Z0 No w;have hc0:=zD1.nil;refine Rn.en func133 ?_;refine gg 7 rfl ?_;obtain ⟨p1,e1,hM⟩:=zA4 hM
 refine Rn.c0 (cK func191) (zJf (Z0:=All) e1  :) hm0 fun w1 _ hm2=>?_
 refine gg 8 rfl ?_;refine zB hM (Rn.condD rfl) (fun h3 hM=>?_) (fun h3 hM=>?_)
 ·refine gg 4 rfl ?_
  cases hM
  exact Rn.R1 func133 ⟨rfl,hm2.pk []⟩
 ·refine gg 5 rfl (Rn.q rfl (V.maxi rfl rfl) ?_);obtain ⟨z4,e4,hM⟩:=zA4 hM;refine Rn.q rfl (V.quoZ rfl rfl e4) (gg 2 rfl ?_)
  cases hM
  exact Rn.R1 func133 ⟨rfl,hm2.pk []⟩
theorem m_pack_Writer_Num_sim {x0 : zAb} {x1 : UInt64} {r : zAb} (hM : zF6 x0 x1 = some r) (hL : zK8 Z0 w [zAb.obj F0 b0 x0]) :
    Calls prog 127 #[pt b0 0,zAo x1] w fun x w'=>∃ F_p0,x = .returned (.tuple #[]) ∧ Hp Z0 (LS [zAb.obj F0 b0 x0]) w w' [zAb.obj F_p0 b0 r]:=by
 have hm0:=hL.start;refine Rn.en func127 ?_;refine gg 3 rfl ?_;obtain ⟨p2,e2,hM⟩:=zA4 hM
 refine Rn.c0 (cK func133) (zLw (Z0:=All) e2  :) hm0 fun w2 _ hm3=>?_
 refine gg 6 rfl (Rn.q rfl (V.cv64 underlying3 underlying137 rfl) (Rn.q rfl (V.shl8 (a:=(255 : UInt8)) (m:=(zAe (W64 (8 - p2))).toNat) rfl rfl) (gg 8 rfl ?_)));refine Rn.jG hm0 hM (G:=UInt8 × (Nat → Prop)) (fun g=>[(0,pt b0 0),(1,zAo x1),(4,iv p2),(5,u8v (g.1))]) (fun g=>[zAb.obj (g.2) b0 x0]) (fun j g=>j g.1) ?_ ?_
 ·rintro ⟨y5,F4⟩ w6 hm6 hM
  try dsimp only at hM
  refine gg 6 rfl ?_;obtain ⟨_,⟨A7_0,c7_0,rfl⟩,hm7⟩:=hm6.unf 0 rfl;replace hm7:=hm7.nq;refine Rn.q rfl (V.ldB isAgg22 rfl (hm7.get 0 rfl) rfl) (gg 1 rfl ?_);obtain ⟨z9,e9,hM⟩:=zA4 hM;refine Rn.pushH (z:=y5) (vs:=[u8v y5]) hm7 1 rfl e9 rfl rfl rfl rfl underlying22 el5 rfl rfl rfl rfl (fun _=>rfl) (⟨rfl,trivial⟩) ?_;intro A9 c9 w9 u9 hm9;refine gg 2 rfl (Rn.sq rfl sizeOf22 rfl rfl (hm9.get 0 rfl) ?_);intro w11 m11 x11;have hm12:=(hm9.st 0 rfl x11 m11).nf [zAr _ _ [_],_] rfl;refine gg 1 rfl ?_;have hm14:=hm12.cu [] [0,1];obtain ⟨F13,hm13⟩:=hm14.fold (zAb.sh b0 ({ b:=z9 } : zAb)) ⟨A9,c9,rfl⟩;refine Rn.jG hm0 hM (G:=zAb × (Nat → Prop)) (fun g=>[]) (fun g=>[zAb.obj (g.2) b0 (g.1)]) (fun j g=>j g.1) ?_ ?_
  ·rintro ⟨y15,F15⟩ w16 hm16 hM
   try dsimp only at hM
   refine Rn.end0 func127 rfl ?_;obtain rfl:=zFu hM;exact ⟨F15,rfl,hm16.pk [0]⟩
  intro j2 hM hk2;refine gg 1 rfl ?_;refine Rn.loopF (G:=Int × zAb × (Nat → Prop)) (fun g=>[(0,pt b0 0),(1,zAo x1),(4,iv (g.1))]) (fun g w'=>Hp Z0 (LS [zAb.obj F0 b0 x0]) w w' [zAb.obj (g.2.2) b0 (g.2.1)]) (fun n g=>zD x1 j2 n g.1 g.2.1) fuel (p2,({ b:=z9 } : zAb),F13) sA (hm13.pk [0]) hM (fun _=>rfl) ?_;clear hM;rintro m19 ⟨y17,y18,F18⟩ w19 hm19 hM hn19;replace hM : zD x1 j2 (m19 + 1) y17 y18 = some r:=hM;rw [zD] at hM;refine gg 6 rfl ?_;refine zB hM (Rn.condD rfl) (fun h20 hM=>?_) (fun h20 hM=>?_)
  ·refine gg 8 rfl ?_;obtain ⟨_,⟨A21_0,c21_0,rfl⟩,hm21⟩:=hm19.unf 0 rfl;replace hm21:=hm21.nq;refine Rn.q rfl (V.ldB isAgg22 rfl (hm21.get 0 rfl) rfl) (gg 4 rfl (Rn.q rfl (V.cv64 underlying3 underlying137 rfl) (Rn.q rfl (V.shr64 (a:=x1) (m:=(zAe (W64 ((W64 (8 * y17)) - 8))).toNat) rfl rfl) (Rn.q rfl (V.cv8 underlying35 underlying5 rfl) ?_))));obtain ⟨z23,e23,hM⟩:=zA4 hM;refine Rn.pushH (z:=toU8 ((shr64 x1 ((zAe (W64 ((W64 (8 * y17)) - 8))).toNat)).toNat : Int)) (vs:=[u8v (toU8 ((shr64 x1 ((zAe (W64 ((W64 (8 * y17)) - 8))).toNat)).toNat : Int))]) hm21 1 rfl e23 rfl rfl rfl rfl underlying22 el5 rfl rfl rfl rfl (fun _=>rfl) (⟨rfl,trivial⟩) ?_;intro A23 c23 w23 u23 hm23;refine gg 2 rfl (Rn.sq rfl sizeOf22 rfl rfl (hm23.get 0 rfl) ?_);intro w25 m25 x25;have hm26:=(hm23.st 0 rfl x25 m25).nf [zAr _ _ [_],_] rfl;refine gg 7 rfl ?_;have hm28:=hm26.cu [] [0,1];obtain ⟨F27,hm27⟩:=hm28.fold (zAb.sh b0 ({ b:=z23 } : zAb)) ⟨A23,c23,rfl⟩;exact hn19 ((W64 (y17 - 1)),({ b:=z23 } : zAb),F27) _ _ sA (hm27.pk [0]) hM
  ·refine gg 1 rfl ?_;exact hk2 (y18,F18) _ _ (sb trivial) (hm19.pk [0]) hM
 intro j1 hM hk1;refine zB hM (Rn.condD rfl) (fun h29 hM=>?_) (fun h29 hM=>?_)
 ·refine gg 5 rfl (Rn.q rfl (V.cv64 underlying3 underlying137 rfl) (Rn.q rfl (V.shr64 (a:=x1) (m:=(zAe (W64 (8 * p2))).toNat) rfl rfl) (Rn.q rfl (V.cv8 underlying35 underlying5 rfl) (Rn.q rfl (V.or8 (a:=shl8 (255 : UInt8) ((zAe (W64 (8 - p2))).toNat)) (b:=toU8 ((shr64 x1 ((zAe (W64 (8 * p2))).toNat)).toNat : Int)) rfl rfl) (gg 2 rfl ?_)))));exact hk1 (((shl8 (255 : UInt8) ((zAe (W64 (8 - p2))).toNat)) ||| (toU8 ((shr64 x1 ((zAe (W64 (8 * p2))).toNat)).toNat : Int))),F0) _ _ sA (hm3.pk [0]) hM
 ·refine gg 1 rfl ?_;exact hk1 ((shl8 (255 : UInt8) ((zAe (W64 (8 - p2))).toNat)),F0) _ _ sA (hm3.pk [0]) hM
theorem m_pack_Writer_Text_sim {x0 : zAb} {x1 : (List UInt8)} {r : zAb} (hM : zGy x0 x1 = some r) (hL : zK8 Z0 w [zAb.obj F0 b0 x0]) :
    Calls prog 126 #[pt b0 0,Str (x1)] w fun x w'=>∃ F_p0,x = .returned (.tuple #[]) ∧ Hp Z0 (LS [zAb.obj F0 b0 x0]) w w' [zAb.obj F_p0 b0 r]:=by
 have hm0:=hL.start;refine Rn.en func126 ?_;refine gg 4 rfl (Rn.q rfl (V.lenS underlying9 rfl) (Rn.q rfl (V.cv64 underlying3 underlying35 rfl) ?_));obtain ⟨p2,e2,hM⟩:=zA4 hM;have hm3:=hm0.cu [] [0]
 refine Rn.c1 (cK func127) (m_pack_Writer_Num_sim e2 hm3.lend :) fun F2_p0 w2 hq2=>?_
 have hm5:=hm3.callAZ hq2;refine gg 6 rfl ?_;obtain ⟨_,⟨A6_0,c6_0,rfl⟩,hm6⟩:=hm5.unf 0 rfl;replace hm6:=hm6.nq;refine Rn.q rfl (V.ldB isAgg22 rfl (hm6.get 0 rfl) rfl) (gg 1 rfl ?_);obtain ⟨z8,e8,hM⟩:=zA4 hM;refine Rn.appSH hm6 1 rfl e8 rfl rfl rfl underlying22 underlying9 el5 rfl rfl rfl ?_;intro A8 c8 w8 hm8;refine gg 2 rfl (Rn.sq rfl sizeOf22 rfl rfl (hm8.get 0 rfl) ?_);intro w10 m10 x10;have hm11:=(hm8.st 0 rfl x10 m10).nf [zAr _ _ [_],_] rfl;refine gg 1 rfl ?_;have hm13:=hm11.cu [] [0,1];obtain ⟨F12,hm12⟩:=hm13.fold (zAb.sh b0 ({ b:=z8 } : zAb)) ⟨A8,c8,rfl⟩;refine Rn.end0 func126 rfl ?_;obtain rfl:=zFu hM;exact ⟨F12,rfl,hm12.pk [0]⟩
theorem zIu {x0 : zA7} {r : zAb} (hM : zG0 x0 = some r) (f0 : (fzR (zA7.obj F0 b0 x0)).H Z0 w) :
    Calls prog 66 #[pt b0 0] w fun x w'=>∃ F_0 b_0,x = .returned (pt b_0 0) ∧ Hp Z0 No w w' [zAb.obj F_0 b_0 r]:=by
 have hm0:=Hp.nil Z0 No w;have hc0:=zD1.nil;have hm2:=hm0.know (fzR (zA7.obj F0 b0 x0)) (fun _ h=>h) (hm0.in0 hc0 f0);replace hc0:=hc0.snoc (r:=fzR (zA7.obj F0 b0 x0)) (fun _ h=>h);refine Rn.en func66 ?_;refine gg 6 rfl ?_;obtain ⟨p3,e3,hM⟩:=zA4 hM
 refine Rn.c2 (cK func125) (zNs (Z0:=All) e3  :) fun F3_0 b3_0 w3 hq3=>?_
 have hm5:=hm2.callF (flC ((zAb.oflat _ _ _)) fl0) hq3;refine gg 8 rfl ?_;obtain ⟨_,⟨F6_0,b6_0,F6_1,b6_1,F6_2,b6_2,F6_3,b6_3,F6_4,b6_4,F6_5,b6_5,F6_6,b6_6,F6_7,b6_7,rfl⟩,hm6⟩:=hm5.unfz 0 rfl;replace hm6:=hm6.nq;refine Rn.q rfl (V.ldB isAgg9 rfl (hm6.getz 2 rfl) rfl) ?_;obtain ⟨p16,e16,hM⟩:=zA4 hM;have hm17:=hm6.cu [0,2,3,4,5,6,7,8,9,10] [1]
 refine Rn.c1 (cK func126) (m_pack_Writer_Text_sim e16 hm17.lend :) fun F16_p0 w16 hq16=>?_
 have hm19:=hm17.callAZ hq16;refine gg 7 rfl (Rn.q rfl (V.ldB isAgg3 rfl (hm19.getz 1 rfl) rfl) (Rn.q rfl (V.cv64 underlying3 underlying35 rfl) ?_));obtain ⟨p20,e20,hM⟩:=zA4 hM;have hm21:=hm19.cu [0,1,2,3,4,5,6,7,8,9] [10]
 refine Rn.c1 (cK func127) (m_pack_Writer_Num_sim e20 hm21.lend :) fun F20_p0 w20 hq20=>?_
 have hm23:=hm21.callAZ hq20;refine gg 7 rfl (Rn.q rfl (V.ldB isAgg119 rfl (hm23.getz 1 rfl) rfl) ?_);obtain ⟨p24,e24,hM⟩:=zA4 hM
 refine Rn.c0 (cK func62) (zFo (Z0:=All) e24 (zSp (hm23.get 2 rfl)) :) hm23 fun w24 _ hm25=>?_
 replace hm25:=hm25.nq;refine Rn.q rfl (V.cv64 underlying3 underlying35 rfl) ?_;obtain ⟨p26,e26,hM⟩:=zA4 hM;have hm27:=hm25.cu [0,1,2,3,4,5,6,7,8,9] [10]
 refine Rn.c1 (cK func127) (m_pack_Writer_Num_sim e26 hm27.lend :) fun F26_p0 w26 hq26=>?_
 have hm29:=hm27.callAZ hq26;refine gg 6 rfl ?_
 cases hM
 exact Rn.R1 func66 ⟨F26_p0,b3_0,rfl,hm29.pk [10]⟩
theorem zN3 {x0 : zAb} {r : Int} (hM : zIy x0 = some r) (f0 : (fzR (zAb.obj F0 b0 x0)).H Z0 w) :
    Calls prog 74 #[pt b0 0] w fun x w'=>x = .returned (iv r) ∧ Hp Z0 No w w' []:=by
 have hm0:=Hp.nil Z0 No w;have hc0:=zD1.nil;have hm2:=hm0.know (fzR (zAb.obj F0 b0 x0)) (fun _ h=>h) (hm0.in0 hc0 f0);replace hc0:=hc0.snoc (r:=fzR (zAb.obj F0 b0 x0)) (fun _ h=>h);refine Rn.en func74 ?_;refine gg 9 rfl ?_;obtain ⟨_,⟨A3_0,c3_0,rfl⟩,hm3⟩:=hm2.unfz 0 rfl;replace hm3:=hm3.nq;have hm7:=hm3.fzSl 2 rfl;refine Rn.q rfl (V.ldB isAgg22 rfl (hm7.getz 1 rfl) rfl) (Rn.q rfl (V.lenV underlying22 rfl) (gg 2 rfl ?_))
 cases hM
 exact Rn.R1 func74 ⟨rfl,hm7.pk []⟩
theorem zIv {x0 : zA7} {r : Int} (hM : zG1 x0 = some r) (f0 : (fzR (zA7.obj F0 b0 x0)).H Z0 w) :
    Calls prog 30 #[pt b0 0] w fun x w'=>x = .returned (iv r) ∧ Hp Z0 No w w' []:=by
 have hm0:=Hp.nil Z0 No w;have hc0:=zD1.nil;have hm2:=hm0.know (fzR (zA7.obj F0 b0 x0)) (fun _ h=>h) (hm0.in0 hc0 f0);replace hc0:=hc0.snoc (r:=fzR (zA7.obj F0 b0 x0)) (fun _ h=>h);refine Rn.en func30 ?_;refine gg 5 rfl ?_;obtain ⟨_,⟨F4_0,b4_0,F4_1,b4_1,F4_2,b4_2,F4_3,b4_3,F4_4,b4_4,F4_5,b4_5,F4_6,b4_6,F4_7,b4_7,rfl⟩,hm4⟩:=hm2.unfz 0 rfl;replace hm4:=hm4.nq;refine Rn.drawH rfl hm4 ?_;intro w3 hm3;refine dq [0,3,4,5] ?_;refine RH.tk 6 rfl (fun w' hDr=>V.ldB isAgg119 rfl ((hm3.ext hDr).getz 1 rfl) rfl) ?_;obtain ⟨p14,e14,hM⟩:=zA4 hM;refine RH.cq (cK func66) 1 (zIu (Z0:=All) e14 (zSp (hm3.get 0 rfl)) :) ?_;rintro _ w14 ⟨F14_0,b14_0,rfl,hq14⟩;refine ⟨_,rfl,((Ext.refl _).trans hq14.fr),?_⟩;have hm16:=hm3.callF (flC ((zAb.oflat _ _ _)) fl0) hq14;obtain ⟨p17,e17,hM⟩:=zA4 hM;refine RH.cq (cK func74) 2 (zN3 (Z0:=All) e17 (zD7 (hm16.get 10 rfl)) :) ?_;rintro _ w17 ⟨rfl,hq17⟩;refine ⟨_,rfl,(((Ext.refl _).trans hq14.fr).trans hq17.fr),?_⟩;have hm18:=hm16.call0 hq17;obtain ⟨p19,e19,hM⟩:=zA4 hM;refine RH.cq (cK func62) 7 (zFo (Z0:=All) e19 (zSp (hm18.get 2 rfl)) :) ?_;rintro _ w19 ⟨rfl,hq19⟩;refine ⟨_,rfl,((((Ext.refl _).trans hq14.fr).trans hq17.fr).trans hq19.fr),?_⟩;have hm20:=hm18.call0 hq19;refine dq [8] ?_;obtain ⟨z21,e21,hM⟩:=zA4 hM
 refine RH.here fun hS9=>RH.on 9 rfl (V.quoZ rfl rfl e21) hS9 ?_
 refine dq [10,11] ?_;refine RH.doneP (by kernel_rfl) ?_
 cases hM
 exact Rn.R1 func30 ⟨rfl,hm20.pk []⟩
theorem m_bitio_Writer_Cut_sim {x0 : zA0} {x1 : Int} {r : (Bool × zA0)} (hM : zH3 x0 x1 = some r) (hL : zK8 Z0 w [zA0.obj F0 b0 x0]) :
    Calls prog 65 #[pt b0 0,iv x1] w fun x w'=>∃ F_p0,x = .returned (.bool (r.1)) ∧ Hp Z0 (LS [zA0.obj F0 b0 x0]) w w' [zA0.obj F_p0 b0 r.2]:=by
 have hm0:=hL.start;refine Rn.en func65 ?_;refine gg 10 rfl ?_;refine Rn.jR hm0 hM (G:=Bool × (Nat → Prop)) [] (fun g=>[(0,pt b0 0),(1,iv x1),(15,.bool ((g.1)))]) (fun g=>[zA0.obj (g.2) b0 x0]) (fun j g=>j g.1) ?_ ?_
 ·rintro ⟨y5,F4⟩ w6 hm6 hM
  try dsimp only at hM
  refine gg 1 rfl ?_;refine zGt hM (Rn.condS rfl) (fun h7 hM=>?_) (fun h7 hM=>?_)
  ·refine gg 4 rfl ?_
   cases hM
   exact Rn.R1 func65 ⟨F4,rfl,hm6.pk [0]⟩
  ·refine gg 7 rfl ?_;obtain ⟨_,⟨A8_0,c8_0,rfl⟩,hm8⟩:=hm6.unf 0 rfl;replace hm8:=hm8.nq;refine Rn.q rfl (V.ldB isAgg22 rfl (hm8.get 0 rfl) rfl) (gg 2 rfl ?_);obtain ⟨z10,e10,hM⟩:=zA4 hM;refine Rn.q rfl (V.quoZ rfl rfl e10) ?_;obtain ⟨z11,e11,hM⟩:=zA4 hM;refine Rn.cutOH hm8 1 rfl e11 rfl rfl rfl rfl underlying22 sizeOf5 rfl rfl rfl rfl rfl ?_;intro hm11;have hm13:=hm11.nq;refine gg 2 rfl (Rn.sq rfl sizeOf22 rfl rfl (hm13.get 0 rfl) ?_);intro w14 m14 x14;have hm15:=(hm13.st 0 rfl x14 m14).nf [zAr _ _ [_,_],_] rfl;refine gg 5 rfl ?_;obtain ⟨z16,e16,hM⟩:=zA4 hM;refine Rn.q rfl (V.remZ rfl rfl e16) (gg 7 rfl ?_);have hm18:=hm15.cu [] [0,1];obtain ⟨F17,hm17⟩:=hm18.fold (zA0.sh b0 ({ b:=z11,n:=x0.n } : zA0)) ⟨A8_0,c8_0,rfl⟩;refine Rn.jG hm0 hM (G:=zA0 × (Nat → Prop)) (fun g=>[(0,pt b0 0),(1,iv x1)]) (fun g=>[zA0.obj (g.2) b0 (g.1)]) (fun j g=>j g.1) ?_ ?_
   ·rintro ⟨y19,F19⟩ w20 hm20 hM
    try dsimp only at hM
    refine gg 6 rfl ?_;obtain ⟨_,⟨A21_0,c21_0,rfl⟩,hm21⟩:=hm20.unf 0 rfl;replace hm21:=hm21.nq;refine Rn.sq rfl sizeOf3 rfl rfl (hm21.get 0 rfl) ?_;intro w23 m23 x23;have hm24:=(hm21.st 0 rfl x23 m23).nf [zAr _ _ [_,_],_] rfl;refine gg 5 rfl ?_;have hm26:=hm24.cu [] [0,1];obtain ⟨F25,hm25⟩:=hm26.fold (zA0.sh b0 ({ b:=y19.b,n:=x1 } : zA0)) ⟨A21_0,c21_0,rfl⟩
    cases hM
    exact Rn.R1 func65 ⟨F25,rfl,hm25.pk [0]⟩
   intro j2 hM hk2;refine zB hM (Rn.condD rfl) (fun h27 hM=>?_) (fun h27 hM=>?_)
   ·refine Rn.drawT 18 rfl hm17 (by kernel_rfl) ?_;intro w28 hm28;refine RT.vv 0 rfl (V.mv rfl) ?_;refine RT.vv 1 rfl (V.nil rfl) ?_;refine RT.vv 2 rfl (V.fa underlying172 rfl sizeOf22 rfl rfl) ?_;obtain ⟨_,⟨A29_0,c29_0,rfl⟩,hm29⟩:=hm28.unf 0 rfl;replace hm29:=hm29.nq;refine RT.vv 3 rfl (V.ldB isAgg22 rfl (hm29.get 0 rfl) rfl) ?_;refine RT.vv 4 rfl (V.mv rfl) ?_;refine RT.vv 5 rfl (V.nil rfl) ?_;refine RT.vv 6 rfl (V.fa underlying172 rfl sizeOf22 rfl rfl) ?_;refine RT.vv 7 rfl (V.ldB isAgg22 rfl (hm29.get 0 rfl) rfl) ?_;refine RT.vv 8 rfl (V.lenV underlying22 rfl) ?_;refine RT.vv 9 rfl (V.subW rfl rfl) ?_;obtain ⟨z31,e31,hM⟩:=zA4 hM;obtain ⟨kk31,ke31,kz31,kl31⟩:=zHf e31;obtain ⟨g31,vs31,hA31,hR31,hrel31⟩:=hm29.ownAt 1 rfl kz31;subst hA31;obtain ⟨rfl,_⟩:=hrel31;refine RT.vv 10 rfl (V.ixE kk31 underlying22 sizeOf5 rfl rfl ke31 kl31) ?_;refine RT.vv 11 rfl (V.ldR0 isAgg5 rfl hR31 rfl) ?_;refine RT.vv 12 rfl (V.mv rfl) ?_;refine RT.vv 13 rfl (V.subW rfl rfl) ?_;refine RT.vv 14 rfl (V.cv64 underlying3 underlying137 rfl) ?_;refine RT.vv 15 rfl (V.shl8 (a:=(255 : UInt8)) (m:=(zAe (W64 (8 - z16))).toNat) rfl rfl) ?_;refine RT.vv 16 rfl (V.and8 (a:=z31) (b:=shl8 (255 : UInt8) ((zAe (W64 (8 - z16))).toNat)) rfl rfl) ?_;obtain ⟨z32,e32,hM⟩:=zA4 hM;obtain ⟨kk32,ke32,kz32,kl32⟩:=zHf e32;obtain ⟨vs32,hR32,hrel32⟩:=hm29.ownAtL 1 rfl kz32;obtain ⟨rfl,_⟩:=hrel32;refine RT.vv 17 rfl (V.ixE kk32 underlying22 sizeOf5 rfl rfl ke32 kl32) ?_;refine RT.tail ?_;refine RH.stI 18 (by kernel_rfl) hm29 1 rfl ke32 kl32 rfl rfl sizeOf5 rfl rfl rfl (vs:=[u8v (z31 &&& (shl8 (255 : UInt8) ((zAe (W64 (8 - z16))).toNat)))]) rfl (⟨rfl,trivial⟩) ?_;intro w33 hm33;refine ⟨trivial,?_⟩;refine RH.doneP (by kernel_rfl) ?_;have hm34:=(hm33.reBox 0 rfl (congrArg (fun (n0 : Nat)=>([.slice (some ⟨g31,0,none⟩) n0 c29_0,iv x0.n] : List Value)) (show (z11).length = ((zK9 z11 (W64 ((z11.length : Int) - 1)) (z31 &&& (shl8 (255 : UInt8) ((zAe (W64 (8 - z16))).toNat))))).length from ((zC5 _ _ _)).symm.trans (rfl)))).nf [zAr _ _ [_,_],_] rfl;have hm36:=hm34.cu [] [0,1];obtain ⟨F35,hm35⟩:=hm36.fold (zA0.sh b0 ({ b:=(zK9 z11 (W64 ((z11.length : Int) - 1)) (z31 &&& (shl8 (255 : UInt8) ((zAe (W64 (8 - z16))).toNat)))),n:=x0.n } : zA0)) ⟨(some ⟨g31,0,none⟩),c29_0,rfl⟩;exact hk2 (({ b:=(zK9 z11 (W64 ((z11.length : Int) - 1)) (z31 &&& (shl8 (255 : UInt8) ((zAe (W64 (8 - z16))).toNat)))),n:=x0.n } : zA0),F35) _ _ sA (hm35.pk [0]) hM
   ·refine gg 1 rfl ?_;exact hk2 (({ b:=z11,n:=x0.n } : zA0),F17) _ _ sA (hm17.pk [0]) hM
 intro j1 hM hk1;refine zB hM (Rn.partD (t:=8) rfl) (fun h37 hM=>?_) (fun h37 hM=>?_)
 ·refine gg 7 rfl ?_;exact hk1 (true,F0) _ _ sA (hm0.pk [0]) hM
 ·refine gg 4 rfl ?_;obtain ⟨_,⟨A38_0,c38_0,rfl⟩,hm38⟩:=hm0.unf 0 rfl;replace hm38:=hm38.nq;refine Rn.q rfl (V.ldB isAgg3 rfl (hm38.get 0 rfl) rfl) (gg 2 rfl ?_);have hm41:=hm38.cu [] [0,1];obtain ⟨F40,hm40⟩:=hm41.fold (zA0.sh b0 x0) ⟨A38_0,c38_0,rfl⟩;exact hk1 ((decide (x1 > x0.n)),F40) _ _ sA (hm40.pk [0]) hM
theorem m_chunk_Chunk_Add_sim {x0 : zA7} {x1 : Int} {x2 : zA9} {r : (Int × zA7)} (hM : zF7 x0 x1 x2 = some r) (hL : zK8 Z0 w [zA7.obj F0 b0 x0,rdR 1 0 gl1,rdR 3 0 gl3,zSw zA9.rep cs2 x2]) :
    Calls prog 24 #[pt b0 0,iv x1,.agg cs2.toArray] w fun x w'=>∃ F_p0,x = .returned (iv r.1) ∧ Hp Z0 (LS [zA7.obj F0 b0 x0,rdR 1 0 gl1,rdR 3 0 gl3,zSw zA9.rep cs2 x2]) w w' [zA7.obj F_p0 b0 r.2]:=by
 have hm0:=hL.start;have h2:=hm0.get 3 rfl;obtain ⟨Ar2,cr2,Ar4,cr4,Ar6,cr6,rfl,fs2,fs4,fs6⟩:=zA9.relE h2;have hm11:=Hp.knowL [slR Ar2 cr2 zA.rep x2.Attrs,slR Ar4 cr4 zAp x2.Hist.Pos.Counts,slR Ar6 cr6 zAp x2.Hist.Neg.Counts] _ hm0 (knC (fun _ h=>h) fs2 (knC (fun _ h=>h) fs4 (knC (fun _ h=>h) fs6 kn0)));refine Rn.en func24 ?_;refine gg 2 rfl (Rn.box rfl rfl rfl rfl rfl ?_);intro b12 w12 hb12 m12 e12;have hm14:=(hm11.addBox hb12 e12 m12).nf [_,_,_,_,_,_,_,zAr _ _ [_,_,_,_,_,_,_,_,_,_,_,_,_,_,_,_,_]] rfl;refine gg 4 rfl (Rn.q rfl (V.ldBA [_,_,_,_,_,_,_,_,_,_,_,_,_,_,_,_,_] isAgg42 sizeOf42 rfl (hm14.get 7 rfl) rfl rfl) ?_);obtain ⟨p15,e15,hM⟩:=zA4 hM
 refine Rn.c0 (cK func60) (zN2 (Z0:=All) e15 (show zA9.rep.rel All _ _ _ from ⟨_,_,rfl,⟨rfl,trivial⟩,⟨_,_,rfl,⟨_,_,rfl,(zA1 (hm14.get 4 rfl)).1,(zA1 (hm14.get 4 rfl)).2.1,(zA1 (hm14.get 4 rfl)).2.2⟩,⟨_,_,rfl,⟨rfl,trivial⟩,⟨_,_,rfl,⟨rfl,trivial⟩,⟨_,_,rfl,⟨rfl,trivial⟩,⟨_,_,rfl,⟨rfl,trivial⟩,⟨_,_,rfl,⟨rfl,trivial⟩,⟨_,_,rfl,⟨rfl,trivial⟩,⟨_,_,rfl,⟨rfl,trivial⟩,⟨_,_,rfl,⟨rfl,trivial⟩,⟨_,_,rfl,⟨_,_,rfl,⟨rfl,trivial⟩,⟨_,_,rfl,⟨rfl,trivial⟩,⟨_,_,rfl,⟨_,_,rfl,⟨rfl,trivial⟩,⟨_,_,rfl,(zA1 (hm14.get 5 rfl)).1,(zA1 (hm14.get 5 rfl)).2.1,(zA1 (hm14.get 5 rfl)).2.2⟩⟩,⟨_,_,rfl,⟨rfl,trivial⟩,⟨_,_,rfl,(zA1 (hm14.get 6 rfl)).1,(zA1 (hm14.get 6 rfl)).2.1,(zA1 (hm14.get 6 rfl)).2.2⟩⟩⟩⟩⟩,⟨rfl,trivial⟩⟩⟩⟩⟩⟩⟩⟩⟩⟩⟩⟩) :) hm14 fun w15 _ hm16=>?_
 refine gg 14 rfl ?_;refine zB hM (Rn.condD rfl) (fun h17 hM=>?_) (fun h17 hM=>?_)
 ·refine gg 5 rfl ?_
  cases hM
  exact Rn.R1 func24 ⟨F0,rfl,hm16.pk [0]⟩
 ·refine gg 6 rfl ?_;obtain ⟨_,⟨F18_0,b18_0,F18_1,b18_1,F18_2,b18_2,F18_3,b18_3,F18_4,b18_4,F18_5,b18_5,F18_6,b18_6,F18_7,b18_7,rfl⟩,hm18⟩:=hm16.unf 0 rfl;replace hm18:=hm18.nq;refine Rn.q rfl (V.ldB isAgg9 rfl (hm18.get 7 rfl) rfl) (Rn.q rfl (V.neqS rfl rfl) (gg 2 rfl ?_));refine zB hM (Rn.condD rfl) (fun h27 hM=>?_) (fun h27 hM=>?_)
  ·refine gg 4 rfl ?_;have hm29:=hm18.cu [0,1,2,3,4,5,6] [7,8,9,10,11,12,13,14,15];obtain ⟨F28,hm28⟩:=hm29.fold (zA7.sh b0 x0) ⟨F18_0,b18_0,F18_1,b18_1,F18_2,b18_2,F18_3,b18_3,F18_4,b18_4,F18_5,b18_5,F18_6,b18_6,F18_7,b18_7,rfl⟩
   cases hM
   exact Rn.R1 func24 ⟨F28,rfl,hm28.pk [7]⟩
  ·refine gg 5 rfl ?_;refine Rn.cutR [6] [(0,pt b0 0),(1,iv x1),(5,pt b12 0),(33,.bool (decide ((x1 < 0) ∨ (x1 > 4503599627370496))))] (fun hk30=>?_) ?_
   ·refine Rn.partD (t:=30) rfl (fun h31=>?_) (fun h31=>?_)
    ·refine gg 3 rfl ?_;exact hk30 _ sA
    ·refine gg 3 rfl ?_;exact hk30 _ sA
   refine gg 2 rfl ?_;refine zB hM (Rn.condD rfl) (fun h32 hM=>?_) (fun h32 hM=>?_)
   ·refine gg 4 rfl ?_;have hm34:=hm18.cu [0,1,2,3,4,5,6] [7,8,9,10,11,12,13,14,15];obtain ⟨F33,hm33⟩:=hm34.fold (zA7.sh b0 x0) ⟨F18_0,b18_0,F18_1,b18_1,F18_2,b18_2,F18_3,b18_3,F18_4,b18_4,F18_5,b18_5,F18_6,b18_6,F18_7,b18_7,rfl⟩
    cases hM
    exact Rn.R1 func24 ⟨F33,rfl,hm33.pk [7]⟩
   ·refine gg 6 rfl (Rn.q rfl (V.ldB isAgg3 rfl (hm18.get 7 rfl) rfl) (gg 3 rfl ?_));refine zB hM (Rn.condD rfl) (fun h35 hM=>?_) (fun h35 hM=>?_)
    ·refine gg 4 rfl ?_;have hm37:=hm18.cu [0,1,2,3,4,5,6] [7,8,9,10,11,12,13,14,15];obtain ⟨F36,hm36⟩:=hm37.fold (zA7.sh b0 x0) ⟨F18_0,b18_0,F18_1,b18_1,F18_2,b18_2,F18_3,b18_3,F18_4,b18_4,F18_5,b18_5,F18_6,b18_6,F18_7,b18_7,rfl⟩
     cases hM
     exact Rn.R1 func24 ⟨F36,rfl,hm36.pk [7]⟩
    ·refine gg 5 rfl (Rn.q rfl (V.ldB isAgg3 rfl (hm18.get 7 rfl) rfl) (gg 3 rfl ?_));refine zB hM (Rn.condD rfl) (fun h38 hM=>?_) (fun h38 hM=>?_)
     ·refine gg 4 rfl ?_;have hm40:=hm18.cu [0,1,2,3,4,5,6] [7,8,9,10,11,12,13,14,15];obtain ⟨F39,hm39⟩:=hm40.fold (zA7.sh b0 x0) ⟨F18_0,b18_0,F18_1,b18_1,F18_2,b18_2,F18_3,b18_3,F18_4,b18_4,F18_5,b18_5,F18_6,b18_6,F18_7,b18_7,rfl⟩
      cases hM
      exact Rn.R1 func24 ⟨F39,rfl,hm39.pk [7]⟩
     ·refine gg 3 rfl ?_;have hm42:=hm18.cu [0,1,2,3,4,5,6] [7,8,9,10,11,12,13,14,15];obtain ⟨F41,hm41⟩:=hm42.fold (zA7.sh b0 x0) ⟨F18_0,b18_0,F18_1,b18_1,F18_2,b18_2,F18_3,b18_3,F18_4,b18_4,F18_5,b18_5,F18_6,b18_6,F18_7,b18_7,rfl⟩;refine Rn.jG hm0 hM (G:=Int × zAt × (Nat → Prop) × (Nat → Prop) × Nat) (fun g=>[(0,pt b0 0),(1,iv x1),(5,pt b12 0),(9,iv (g.1)),(10,pt (g.2.2.2.2) 0)]) (fun g=>[rdR 1 0 gl1,rdR 3 0 gl3,slR Ar2 cr2 zA.rep x2.Attrs,slR Ar4 cr4 zAp x2.Hist.Pos.Counts,slR Ar6 cr6 zAp x2.Hist.Neg.Counts,zAr b12 42 [Str (x2.Name),.slice Ar2 (x2.Attrs).length cr2,iv x2.Kind,iv x2.Temp,.bool (x2.Mono),iv x2.Start,iv x2.Time,iv x2.Int_,zAo x2.Re,zAo x2.Im,iv x2.Hist.Scale,zAo x2.Hist.Zero,iv x2.Hist.Pos.Offset,.slice Ar4 (x2.Hist.Pos.Counts).length cr4,iv x2.Hist.Neg.Offset,.slice Ar6 (x2.Hist.Neg.Counts).length cr6,iv x2.Flags],zA7.obj (g.2.2.1) b0 x0,zAt.obj (g.2.2.2.1) (g.2.2.2.2) (g.2.1)]) (fun j g=>j g.1 g.2.1) ?_ ?_
      ·rintro ⟨y44,y45,F43,F45,b45⟩ w47 hm47 hM
       try dsimp only at hM
       refine gg 1 rfl ?_;refine Rn.drawT 7 rfl hm47 (by kernel_rfl) ?_;intro w48 hm48;obtain ⟨_,⟨F49_0,b49_0,F49_1,b49_1,F49_2,b49_2,F49_3,b49_3,F49_4,b49_4,F49_5,b49_5,F49_6,b49_6,rfl⟩,hm49⟩:=hm48.unf 7 rfl;replace hm49:=hm49.nq;refine RT.vv 0 rfl (V.ldBA [_,_,_,_,_,_,_] isAgg80 sizeOf80 rfl (hm49.get 7 rfl) rfl rfl) ?_;refine RT.vv 1 rfl (V.mv rfl) ?_;refine RT.vv 2 rfl (V.nil rfl) ?_;refine RT.vv 3 rfl (V.fa underlying122 rfl sizeOf119 rfl rfl) ?_;obtain ⟨_,⟨F57_0,b57_0,F57_1,b57_1,F57_2,b57_2,F57_3,b57_3,F57_4,b57_4,F57_5,b57_5,F57_6,b57_6,F57_7,b57_7,rfl⟩,hm57⟩:=hm49.unf 6 rfl;replace hm57:=hm57.nq;refine RT.vv 4 rfl (V.ldB isAgg119 rfl (hm57.get 14 rfl) rfl) ?_;refine RT.vv 5 rfl (V.mv rfl) ?_;refine RT.vv 6 rfl (V.ldBA [_,_,_,_,_,_,_,_,_,_,_,_,_,_,_,_,_] isAgg42 sizeOf42 rfl (hm57.get 5 rfl) rfl rfl) ?_;refine RT.tail ?_;obtain ⟨p66,e66,hM⟩:=zA4 hM;have hm67:=hm57.dup 0 rfl (fun _ h=>h);have hm69:=hm67.dup 1 rfl (fun _ h=>h);have hm71:=hm69.know (zSw zA9.rep [Str (x2.Name),.slice Ar2 (x2.Attrs).length cr2,iv x2.Kind,iv x2.Temp,.bool (x2.Mono),iv x2.Start,iv x2.Time,iv x2.Int_,zAo x2.Re,zAo x2.Im,iv x2.Hist.Scale,zAo x2.Hist.Zero,iv x2.Hist.Pos.Offset,.slice Ar4 (x2.Hist.Pos.Counts).length cr4,iv x2.Hist.Neg.Offset,.slice Ar6 (x2.Hist.Neg.Counts).length cr6,iv x2.Flags] x2) (fun _ h=>h) (show zA9.rep.rel _ _ _ _ from ⟨_,_,rfl,⟨rfl,trivial⟩,⟨_,_,rfl,⟨_,_,rfl,(hm69.get 2 rfl).1,(hm69.get 2 rfl).2.1,(hm69.get 2 rfl).2.2⟩,⟨_,_,rfl,⟨rfl,trivial⟩,⟨_,_,rfl,⟨rfl,trivial⟩,⟨_,_,rfl,⟨rfl,trivial⟩,⟨_,_,rfl,⟨rfl,trivial⟩,⟨_,_,rfl,⟨rfl,trivial⟩,⟨_,_,rfl,⟨rfl,trivial⟩,⟨_,_,rfl,⟨rfl,trivial⟩,⟨_,_,rfl,⟨rfl,trivial⟩,⟨_,_,rfl,⟨_,_,rfl,⟨rfl,trivial⟩,⟨_,_,rfl,⟨rfl,trivial⟩,⟨_,_,rfl,⟨_,_,rfl,⟨rfl,trivial⟩,⟨_,_,rfl,(hm69.get 3 rfl).1,(hm69.get 3 rfl).2.1,(hm69.get 3 rfl).2.2⟩⟩,⟨_,_,rfl,⟨rfl,trivial⟩,⟨_,_,rfl,(hm69.get 4 rfl).1,(hm69.get 4 rfl).2.1,(hm69.get 4 rfl).2.2⟩⟩⟩⟩⟩,⟨rfl,trivial⟩⟩⟩⟩⟩⟩⟩⟩⟩⟩⟩⟩);have hm73:=hm71.cu [0,1,2,3,4,5,6,14,16,17,18,19,20,21,22] [7,8,9,10,11,12,13,15,23,24,25];refine RH.cq (cK func64) 7 (m_chunk_rows_put_sim e66 hm73.lend :) ?_;rintro _ w66 ⟨F66_p0_ords,F66_p0_times,F66_p0_spans,F66_p0_ints,F66_p0_re,F66_p0_im,F66_p0_hists,F66_p1,rfl,hq66⟩;refine ⟨_,rfl,trivial,?_⟩;have hm82:=hm73.callAZ hq66;refine RH.doneP (by kernel_rfl) ?_;refine gg 5 rfl (Rn.q rfl (V.ldB isAgg3 rfl (hm82.get 7 rfl) rfl) (gg 3 rfl (Rn.sq rfl sizeOf3 rfl rfl (hm82.get 7 rfl) ?_)));intro w83 m83 x83;have hm84:=(hm82.st 7 rfl x83 m83).nf [_,_,_,_,_,_,_,zAr _ _ [_,_,_,_,_,_,_,_,_,_,_,_],_,_,_,_,_,_,_,_,_,_,_,_,_,_,_] rfl;refine gg 3 rfl ?_;refine Rn.drawH rfl hm84 ?_;intro w85 hm85;refine dq [0,2,3,4] ?_;refine RH.tk 5 rfl (fun w' hDr=>V.ldB isAgg3 rfl ((hm85.ext hDr).get 7 rfl) rfl) ?_;have hm88:=hm85.cu [0,1,2,3,4,5,6,15,16,17,18,19,20,21] [7,22,8,9,10,11,12,13,14];obtain ⟨F87,hm87⟩:=hm88.fold (zA7.sh b0 ({ key:=x0.key,most:=x0.most,n:=W64 (x0.n + 1),last:=x0.last,w:=p66.2.2.2.2.2.2.2,rows:=x0.rows } : zA7)) ⟨F66_p1,b57_0,F57_1,b57_1,F57_2,b57_2,F57_3,b57_3,F57_4,b57_4,F57_5,b57_5,F57_6,b57_6,F57_7,b57_7,rfl⟩;obtain ⟨p86,e86,hM⟩:=zA4 hM;refine RH.cq (cK func30) 1 (zIv (Z0:=All) e86 (zD7 (hm87.get 14 rfl)) :) ?_;rintro _ w86 ⟨rfl,hq86⟩;refine ⟨_,rfl,((Ext.refl _).trans hq86.fr),?_⟩;have hm89:=hm87.call0 hq86;refine dq [6] ?_;refine RH.doneP (by kernel_rfl) ?_;refine zB hM (Rn.condD rfl) (fun h90 hM=>?_) (fun h90 hM=>?_)
       ·refine gg 5 rfl ?_;obtain ⟨_,⟨F91_0,b91_0,F91_1,b91_1,F91_2,b91_2,F91_3,b91_3,F91_4,b91_4,F91_5,b91_5,F91_6,b91_6,F91_7,b91_7,rfl⟩,hm91⟩:=hm89.unf 14 rfl;replace hm91:=hm91.nq;refine Rn.q rfl (V.ldB isAgg3 rfl (hm91.get 14 rfl) rfl) (gg 3 rfl (Rn.sq rfl sizeOf3 rfl rfl (hm91.get 14 rfl) ?_));intro w100 m100 x100;have hm101:=(hm91.st 14 rfl x100 m100).nf [_,_,_,_,_,_,_,_,_,_,_,_,_,_,zAr _ _ [_,_,_,_,_,_,_,_,_,_,_,_],_,_,_,_,_,_,_,_] rfl;refine gg 6 rfl (Rn.q rfl (V.ldB isAgg119 rfl (hm101.get 14 rfl) rfl) (gg 1 rfl ?_));obtain ⟨p102,e102,hM⟩:=zA4 hM;have hm103:=hm101.cu [0,1,2,3,4,5,6,7,8,9,10,11,12,13,14,16,17,18,19,20,21,22] [15]
        refine Rn.c1 (cK func65) (m_bitio_Writer_Cut_sim e102 hm103.lend :) fun F102_p0 w102 hq102=>?_
        have hm105:=hm103.callAZ hq102;refine gg 5 rfl ?_;have hm107:=hm105.cu [0,1,2,3,4,5,6,7,8,9,10,11,12,13] [14,22,15,16,17,18,19,20,21];obtain ⟨F106,hm106⟩:=hm107.fold (zA7.sh b0 ({ key:=x0.key,most:=x0.most,n:=W64 ((W64 (x0.n + 1)) - 1),last:=x0.last,w:=p102.2,rows:=x0.rows } : zA7)) ⟨F102_p0,b91_0,F91_1,b91_1,F91_2,b91_2,F91_3,b91_3,F91_4,b91_4,F91_5,b91_5,F91_6,b91_6,F91_7,b91_7,rfl⟩
        cases hM
        exact Rn.R1 func24 ⟨F106,rfl,hm106.pk [14]⟩
       ·refine gg 5 rfl (Rn.q rfl (V.ldBA [_,_,_,_,_,_,_] isAgg80 sizeOf80 rfl (hm89.get 6 rfl) rfl rfl) (gg 3 rfl ?_));obtain ⟨_,⟨F108_0,b108_0,F108_1,b108_1,F108_2,b108_2,F108_3,b108_3,F108_4,b108_4,F108_5,b108_5,F108_6,b108_6,F108_7,b108_7,rfl⟩,hm108⟩:=hm89.unf 14 rfl;replace hm108:=hm108.nq;refine Rn.sq rfl sizeOf80 rfl rfl (hm108.get 14 rfl) ?_;intro w117 m117 x117;have hm118:=(hm108.st 14 rfl x117 m117).nf [_,_,_,_,_,_,_,_,_,_,_,_,_,_,zAr _ _ [_,_,_,_,_,_,_,_,_,_,_,_],_,_,_,_,_,_,_,_] rfl;refine gg 2 rfl (Rn.sq rfl sizeOf3 rfl rfl (hm118.get 14 rfl) ?_);intro w119 m119 x119;have hm120:=(hm118.st 14 rfl x119 m119).nf [_,_,_,_,_,_,_,_,_,_,_,_,_,_,zAr _ _ [_,_,_,_,_,_,_,_,_,_,_,_],_,_,_,_,_,_,_,_] rfl;refine gg 5 rfl ?_;have hm122:=hm120.cu [0,1,2,3,4,5,6,16,17,18,19,20,21,22] [14,15,7,8,9,10,11,12,13];obtain ⟨F121,hm121⟩:=hm122.fold (zA7.sh b0 ({ key:=x0.key,most:=x0.most,n:=W64 (x0.n + 1),last:=x1,w:=p66.2.2.2.2.2.2.2,rows:=({ ords:=p66.1,times:=p66.2.1,spans:=p66.2.2.1,ints:=p66.2.2.2.1,re:=p66.2.2.2.2.1,im:=p66.2.2.2.2.2.1,hists:=p66.2.2.2.2.2.2.1 } : zAt) } : zA7)) ⟨F108_0,b108_0,F66_p0_ords,b49_0,F66_p0_times,b49_1,F66_p0_spans,b49_2,F66_p0_ints,b49_3,F66_p0_re,b49_4,F66_p0_im,b49_5,F66_p0_hists,b49_6,rfl⟩
        cases hM
        exact Rn.R1 func24 ⟨F121,rfl,hm121.pk [14]⟩
      intro j1 hM hk1;refine Rn.drawH rfl hm41 ?_;intro w123 hm123;refine dq [0,1,2] ?_;obtain ⟨_,⟨F124_0,b124_0,F124_1,b124_1,F124_2,b124_2,F124_3,b124_3,F124_4,b124_4,F124_5,b124_5,F124_6,b124_6,F124_7,b124_7,rfl⟩,hm124⟩:=hm123.unf 7 rfl;replace hm124:=hm124.nq;refine RH.tk 3 rfl (fun w' hDr=>V.ldB isAgg119 rfl ((hm124.ext hDr).get 7 rfl) rfl) ?_;refine dq [5,6,7] ?_;refine RH.tk 8 rfl (fun w' hDr=>V.ldBA [_,_,_,_,_,_,_] isAgg80 sizeOf80 rfl ((hm124.ext hDr).get 7 rfl) rfl rfl) ?_;obtain ⟨p133,e133,hM⟩:=zA4 hM;obtain ⟨p135,e135,hM⟩:=zA4 hM;refine RH.both 4 10 (by kernel_rfl) ?_ ?_
      ·have e149:=e133;refine RB.cl (cK func62) 4 rfl rfl rfl rfl (zFo (Z0:=All) e149 (zD7 (hm124.get 8 rfl)) :) ?_;rintro _ w149 ⟨rfl,hq149⟩;refine ⟨_,rfl,((Ext.refl _).trans hq149.fr),?_⟩;have hm150:=hm124.call0 hq149;refine RG.str (S1:=fun w'=>Ext w149 w') (fun _ hh=>((Ext.refl _).trans hq149.fr).trans hh) (Ext.refl _) ?_;refine RH.both 9 10 (by kernel_rfl) ?_ ?_
       ·have e151:=e135;refine RB.cl (cK func63) 9 rfl rfl rfl rfl (zGw (Z0:=All) e151 (zD7 (hm150.get 9 rfl)) (zD7 (hm150.get 10 rfl)) (zD7 (hm150.get 11 rfl)) (zD7 (hm150.get 12 rfl)) (zD7 (hm150.get 13 rfl)) (zD7 (hm150.get 14 rfl)) (zD7 (hm150.get 15 rfl)) :) ?_;rintro _ w151 ⟨F151_0_0,b151_0_0,F151_0_1,b151_0_1,F151_0_2,b151_0_2,F151_0_3,b151_0_3,F151_0_4,b151_0_4,F151_0_5,b151_0_5,F151_0_6,b151_0_6,rfl,hq151⟩;refine ⟨_,rfl,((Ext.refl _).trans hq151.fr),?_⟩;have hm159:=hm150.callF (flC ((zA5.oflat _ _ _)) (flC ((zA5.oflat _ _ _)) (flC ((zA5.oflat _ _ _)) (flC ((zA5.oflat _ _ _)) (flC ((zAg.oflat _ _ _)) (flC ((zAg.oflat _ _ _)) (flC ((zA6.oflat _ _ _)) fl0))))))) hq151;refine RH.alloc 10 (by kernel_rfl) rfl rfl rfl Tryz.zeroValue80 rfl ?_;intro b160 w160 hb160 m160 e160
        have hfr160 : w149.heap.size ≤ b160:=by have hh:=(((Ext.refl _).trans hq151.fr) : Ext w149 w151).size;omega
        have hm162:=(hm159.addBox hb160 e160 m160).nf [_,_,_,_,_,_,_,_,_,_,_,_,_,_,_,_,_,_,_,_,_,_,_,zAr _ _ [_,_,_,_,_,_,_]] rfl;refine ⟨(((Ext.refl _).trans hq151.fr).trans e160),?_⟩;refine dq [11] ?_;refine RH.st 12 (by kernel_rfl) rfl rfl sizeOf80 rfl rfl rfl rfl (by first|exact zN1 rfl|(simp [Value.oneCell'];done)) (hm162.get 23 rfl) (by first|exact nbl rfl|(simp;done)) ?_;intro w163 m163 x163;have hm164:=(hm162.st 23 rfl x163 m163).nf [_,_,_,_,_,_,_,_,_,_,_,_,_,_,_,_,_,_,_,_,_,_,_,zAr _ _ [_,_,_,_,_,_,_]] rfl;refine ⟨(zO4 (((Ext.refl _).trans hq151.fr).trans e160) x163 hfr160),?_⟩;refine RH.doneP (by kernel_rfl) ?_;have hm166:=hm164.cu [0,1,2,3,4,5,6,16,17,18,19,20,21,22,23] [7,8,9,10,11,12,13,14,15];obtain ⟨F165,hm165⟩:=hm166.fold (zA7.sh b0 x0) ⟨F124_0,b124_0,F124_1,b124_1,F124_2,b124_2,F124_3,b124_3,F124_4,b124_4,F124_5,b124_5,F124_6,b124_6,F124_7,b124_7,rfl⟩;have hm168:=hm165.cu [0,1,2,3,4,5,6,15] [14,7,8,9,10,11,12,13];obtain ⟨F167,hm167⟩:=hm168.fold (zAt.sh b160 p135) ⟨F151_0_0,b151_0_0,F151_0_1,b151_0_1,F151_0_2,b151_0_2,F151_0_3,b151_0_3,F151_0_4,b151_0_4,F151_0_5,b151_0_5,F151_0_6,b151_0_6,rfl⟩;exact hk1 (p133,p135,F165,F167,b160) _ _ sA (hm167.pk [0,1,3,4,5,6,7,8]) hM
       ·refine RB.alloc 10 rfl rfl rfl Tryz.zeroValue80 rfl ?_;intro b169 w169 hb169 m169 e169
        have hfr169 : w149.heap.size ≤ b169:=by have hh:=((Ext.refl _) : Ext w149 w149).size;omega
        have hm171:=(hm150.addBox hb169 e169 m169).nf [_,_,_,_,_,_,_,_,_,_,_,_,_,_,_,_,zAr _ _ [_,_,_,_,_,_,_]] rfl;refine ⟨((Ext.refl _).trans e169),?_⟩;have e172:=e135;refine RH.cq (cK func63) 9 (zGw (Z0:=All) e172 (zD7 (hm171.get 9 rfl)) (zD7 (hm171.get 10 rfl)) (zD7 (hm171.get 11 rfl)) (zD7 (hm171.get 12 rfl)) (zD7 (hm171.get 13 rfl)) (zD7 (hm171.get 14 rfl)) (zD7 (hm171.get 15 rfl)) :) ?_;rintro _ w172 ⟨F172_0_0,b172_0_0,F172_0_1,b172_0_1,F172_0_2,b172_0_2,F172_0_3,b172_0_3,F172_0_4,b172_0_4,F172_0_5,b172_0_5,F172_0_6,b172_0_6,rfl,hq172⟩;refine ⟨_,rfl,(((Ext.refl _).trans e169).trans hq172.fr),?_⟩;have hm180:=hm171.callF (flC ((zA5.oflat _ _ _)) (flC ((zA5.oflat _ _ _)) (flC ((zA5.oflat _ _ _)) (flC ((zA5.oflat _ _ _)) (flC ((zAg.oflat _ _ _)) (flC ((zAg.oflat _ _ _)) (flC ((zA6.oflat _ _ _)) fl0))))))) hq172;refine dq [11] ?_;refine RH.st 12 (by kernel_rfl) rfl rfl sizeOf80 rfl rfl rfl rfl (by first|exact zN1 rfl|(simp [Value.oneCell'];done)) (hm180.get 16 rfl) (by first|exact nbl rfl|(simp;done)) ?_;intro w181 m181 x181;have hm182:=(hm180.st 16 rfl x181 m181).nf [_,_,_,_,_,_,_,_,_,_,_,_,_,_,_,_,zAr _ _ [_,_,_,_,_,_,_],_,_,_,_,_,_,_] rfl;refine ⟨(zO4 (((Ext.refl _).trans e169).trans hq172.fr) x181 hfr169),?_⟩;refine RH.doneP (by kernel_rfl) ?_;have hm184:=hm182.cu [0,1,2,3,4,5,6,16,17,18,19,20,21,22,23] [7,8,9,10,11,12,13,14,15];obtain ⟨F183,hm183⟩:=hm184.fold (zA7.sh b0 x0) ⟨F124_0,b124_0,F124_1,b124_1,F124_2,b124_2,F124_3,b124_3,F124_4,b124_4,F124_5,b124_5,F124_6,b124_6,F124_7,b124_7,rfl⟩;have hm186:=hm183.cu [0,1,2,3,4,5,6,15] [7,8,9,10,11,12,13,14];obtain ⟨F185,hm185⟩:=hm186.fold (zAt.sh b169 p135) ⟨F172_0_0,b172_0_0,F172_0_1,b172_0_1,F172_0_2,b172_0_2,F172_0_3,b172_0_3,F172_0_4,b172_0_4,F172_0_5,b172_0_5,F172_0_6,b172_0_6,rfl⟩;exact hk1 (p133,p135,F183,F185,b169) _ _ sA (hm185.pk [0,1,3,4,5,6,7,8]) hM
      ·refine RB.alloc 10 rfl rfl rfl Tryz.zeroValue80 rfl ?_;intro b187 w187 hb187 m187 e187
       have hfr187 : w123.heap.size ≤ b187:=by have hh:=((Ext.refl _) : Ext w123 w123).size;omega
       have hm189:=(hm124.addBox hb187 e187 m187).nf [_,_,_,_,_,_,_,_,_,_,_,_,_,_,_,_,zAr _ _ [_,_,_,_,_,_,_]] rfl;refine ⟨((Ext.refl _).trans e187),?_⟩;have e190:=e133;refine RH.cq (cK func62) 4 (zFo (Z0:=All) e190 (zD7 (hm189.get 8 rfl)) :) ?_;rintro _ w190 ⟨rfl,hq190⟩;refine ⟨_,rfl,(((Ext.refl _).trans e187).trans hq190.fr),?_⟩;have hm191:=hm189.call0 hq190;have e192:=e135;refine RH.cq (cK func63) 9 (zGw (Z0:=All) e192 (zD7 (hm191.get 9 rfl)) (zD7 (hm191.get 10 rfl)) (zD7 (hm191.get 11 rfl)) (zD7 (hm191.get 12 rfl)) (zD7 (hm191.get 13 rfl)) (zD7 (hm191.get 14 rfl)) (zD7 (hm191.get 15 rfl)) :) ?_;rintro _ w192 ⟨F192_0_0,b192_0_0,F192_0_1,b192_0_1,F192_0_2,b192_0_2,F192_0_3,b192_0_3,F192_0_4,b192_0_4,F192_0_5,b192_0_5,F192_0_6,b192_0_6,rfl,hq192⟩;refine ⟨_,rfl,((((Ext.refl _).trans e187).trans hq190.fr).trans hq192.fr),?_⟩;have hm200:=hm191.callF (flC ((zA5.oflat _ _ _)) (flC ((zA5.oflat _ _ _)) (flC ((zA5.oflat _ _ _)) (flC ((zA5.oflat _ _ _)) (flC ((zAg.oflat _ _ _)) (flC ((zAg.oflat _ _ _)) (flC ((zA6.oflat _ _ _)) fl0))))))) hq192;refine dq [11] ?_;refine RH.st 12 (by kernel_rfl) rfl rfl sizeOf80 rfl rfl rfl rfl (by first|exact zN1 rfl|(simp [Value.oneCell'];done)) (hm200.get 16 rfl) (by first|exact nbl rfl|(simp;done)) ?_;intro w201 m201 x201;have hm202:=(hm200.st 16 rfl x201 m201).nf [_,_,_,_,_,_,_,_,_,_,_,_,_,_,_,_,zAr _ _ [_,_,_,_,_,_,_],_,_,_,_,_,_,_] rfl;refine ⟨(zO4 ((((Ext.refl _).trans e187).trans hq190.fr).trans hq192.fr) x201 hfr187),?_⟩;refine RH.doneP (by kernel_rfl) ?_;have hm204:=hm202.cu [0,1,2,3,4,5,6,16,17,18,19,20,21,22,23] [7,8,9,10,11,12,13,14,15];obtain ⟨F203,hm203⟩:=hm204.fold (zA7.sh b0 x0) ⟨F124_0,b124_0,F124_1,b124_1,F124_2,b124_2,F124_3,b124_3,F124_4,b124_4,F124_5,b124_5,F124_6,b124_6,F124_7,b124_7,rfl⟩;have hm206:=hm203.cu [0,1,2,3,4,5,6,15] [7,8,9,10,11,12,13,14];obtain ⟨F205,hm205⟩:=hm206.fold (zAt.sh b187 p135) ⟨F192_0_0,b192_0_0,F192_0_1,b192_0_1,F192_0_2,b192_0_2,F192_0_3,b192_0_3,F192_0_4,b192_0_4,F192_0_5,b192_0_5,F192_0_6,b192_0_6,rfl⟩;exact hk1 (p133,p135,F203,F205,b187) _ _ sA (hm205.pk [0,1,3,4,5,6,7,8]) hM
theorem zGi {x0 : (List UInt8)} {r : (List UInt8)} (hM : zF1 x0 = some r) (f0 : (slR A0 c0 zCa x0).H Z0 w) :
    Calls prog 75 #[.slice A0 (x0).length c0] w fun x w'=>∃ A_0_0 c_0_0,x = .returned (.slice A_0_0 (r).length c_0_0) ∧ Hp Z0 No w w' [zBd 5 A_0_0 c_0_0 zCa r]:=by
  exact zXy w A0 c0 x0 f0 hM
theorem zM5 {x0 : zA0} {r : (List UInt8)} (hM : zGd x0 = some r) (f0 : (fzR (zA0.obj F0 b0 x0)).H Z0 w) :
    Calls prog 68 #[pt b0 0] w fun x w'=>∃ A_0_0 c_0_0,x = .returned (.slice A_0_0 (r).length c_0_0) ∧ Hp Z0 No w w' [zBd 5 A_0_0 c_0_0 zCa r]:=by
 have hm0:=Hp.nil Z0 No w;have hc0:=zD1.nil;have hm2:=hm0.know (fzR (zA0.obj F0 b0 x0)) (fun _ h=>h) (hm0.in0 hc0 f0);replace hc0:=hc0.snoc (r:=fzR (zA0.obj F0 b0 x0)) (fun _ h=>h);refine Rn.en func68 ?_;refine gg 9 rfl ?_;obtain ⟨_,⟨A3_0,c3_0,rfl⟩,hm3⟩:=hm2.unfz 0 rfl;replace hm3:=hm3.nq;have hm7:=hm3.fzSl 2 rfl;refine Rn.q rfl (V.ldB isAgg22 rfl (hm7.getz 1 rfl) rfl) ?_;obtain ⟨p8,e8,hM⟩:=zA4 hM
 refine Rn.c2 (cK func75) (zGi (Z0:=All) e8 (zA1 (hm7.get 3 rfl)) :) fun A8_0_0 c8_0_0 w8 hq8=>?_
 have hm10:=hm7.callF (flC (zAl zE9 _ _ _ _) fl0) hq8;refine gg 2 rfl ?_
 cases hM
 exact Rn.R1 func68 ⟨A8_0_0,c8_0_0,rfl,hm10.pk [4]⟩
theorem m_pack_Writer_Raw_sim {x0 : zAb} {x1 : (List UInt8)} {r : zAb} (hM : zIx x0 x1 = some r) (hL : zK8 Z0 w [zAb.obj F0 b0 x0,slR A1 c1 zCa x1]) :
    Calls prog 67 #[pt b0 0,.slice A1 (x1).length c1] w fun x w'=>∃ F_p0,x = .returned (.tuple #[]) ∧ Hp Z0 (LS [zAb.obj F0 b0 x0,slR A1 c1 zCa x1]) w w' [zAb.obj F_p0 b0 r]:=by
 have hm0:=hL.start;refine Rn.en func67 ?_;refine gg 5 rfl ?_;obtain ⟨_,⟨A3_0,c3_0,rfl⟩,hm3⟩:=hm0.unf 0 rfl;replace hm3:=hm3.nq;refine Rn.q rfl (V.ldB isAgg22 rfl (hm3.get 1 rfl) rfl) (gg 1 rfl ?_);obtain ⟨z5,e5,hM⟩:=zA4 hM;refine Rn.appH hm3 2 rfl e5 rfl rfl rfl underlying22 el5 rfl rfl rfl rfl (hm3.src 0 rfl) ?_;intro A5 c5 w5 hm5;refine gg 2 rfl (Rn.sq rfl sizeOf22 rfl rfl (hm5.get 1 rfl) ?_);intro w7 m7 x7;have hm8:=(hm5.st 1 rfl x7 m7).nf [_,zAr _ _ [_],_] rfl;refine gg 1 rfl ?_;have hm10:=hm8.cu [0] [1,2];obtain ⟨F9,hm9⟩:=hm10.fold (zAb.sh b0 ({ b:=z5 } : zAb)) ⟨A5,c5,rfl⟩;refine Rn.end0 func67 rfl ?_;obtain rfl:=zFu hM;exact ⟨F9,rfl,hm9.pk [1]⟩
theorem zMd {x0 : zAb} {r : (List UInt8)} (hM : zI4 x0 = some r) (f0 : (fzR (zAb.obj F0 b0 x0)).H Z0 w) :
    Calls prog 69 #[pt b0 0] w fun x w'=>∃ A_0_0 c_0_0,x = .returned (.slice A_0_0 (r).length c_0_0) ∧ Hp Z0 No w w' [zBd 5 A_0_0 c_0_0 zCa r]:=by
 have hm0:=Hp.nil Z0 No w;have hc0:=zD1.nil;have hm2:=hm0.know (fzR (zAb.obj F0 b0 x0)) (fun _ h=>h) (hm0.in0 hc0 f0);replace hc0:=hc0.snoc (r:=fzR (zAb.obj F0 b0 x0)) (fun _ h=>h);refine Rn.en func69 ?_;refine gg 9 rfl ?_;obtain ⟨_,⟨A3_0,c3_0,rfl⟩,hm3⟩:=hm2.unfz 0 rfl;replace hm3:=hm3.nq;have hm7:=hm3.fzSl 2 rfl;refine Rn.q rfl (V.ldB isAgg22 rfl (hm7.getz 1 rfl) rfl) ?_;obtain ⟨p8,e8,hM⟩:=zA4 hM
 refine Rn.c2 (cK func75) (zGi (Z0:=All) e8 (zA1 (hm7.get 3 rfl)) :) fun A8_0_0 c8_0_0 w8 hq8=>?_
 have hm10:=hm7.callF (flC (zAl zE9 _ _ _ _) fl0) hq8;refine gg 2 rfl ?_
 cases hM
 exact Rn.R1 func69 ⟨A8_0_0,c8_0_0,rfl,hm10.pk [4]⟩
theorem zIm {x0 : zA7} {r : (List UInt8)} (hM : zFd x0 = some r) (f0 : (fzR (zA7.obj F0 b0 x0)).H Z0 w) :
    Calls prog 25 #[pt b0 0] w fun x w'=>∃ A_0_0 c_0_0,x = .returned (.slice A_0_0 (r).length c_0_0) ∧ Hp Z0 No w w' [zBd 5 A_0_0 c_0_0 zCa r]:=by
 have hm0:=Hp.nil Z0 No w;have hc0:=zD1.nil;have hm2:=hm0.know (fzR (zA7.obj F0 b0 x0)) (fun _ h=>h) (hm0.in0 hc0 f0);replace hc0:=hc0.snoc (r:=fzR (zA7.obj F0 b0 x0)) (fun _ h=>h);refine Rn.en func25 ?_;refine gg 7 rfl ?_;obtain ⟨p3,e3,hM⟩:=zA4 hM
 refine Rn.c2 (cK func66) (zIu (Z0:=All) e3 (zSp (hm2.get 0 rfl)) :) fun F3_0 b3_0 w3 hq3=>?_
 have hm5:=hm2.callF (flC ((zAb.oflat _ _ _)) fl0) hq3;refine gg 8 rfl ?_;obtain ⟨_,⟨F6_0,b6_0,F6_1,b6_1,F6_2,b6_2,F6_3,b6_3,F6_4,b6_4,F6_5,b6_5,F6_6,b6_6,F6_7,b6_7,rfl⟩,hm6⟩:=hm5.unfz 0 rfl;replace hm6:=hm6.nq;refine Rn.q rfl (V.ldB isAgg119 rfl (hm6.getz 2 rfl) rfl) ?_;obtain ⟨p16,e16,hM⟩:=zA4 hM
 refine Rn.c2 (cK func68) (zM5 (Z0:=All) e16 (zSp (hm6.get 3 rfl)) :) fun A16_0_0 c16_0_0 w16 hq16=>?_
 have hm18:=hm6.callF (flC (zAl zE9 _ _ _ _) fl0) hq16;replace hm18:=hm18.nq;have hm21:=hm18.freeze 11 rfl;obtain ⟨p19,e19,hM⟩:=zA4 hM;have hm22:=hm21.dup 11 rfl (fun _ h=>h);have hm24:=hm22.cu [0,2,3,4,5,6,7,8,9,10,11] [1,12]
 refine Rn.c1 (cK func67) (m_pack_Writer_Raw_sim e19 hm24.lend :) fun F19_p0 w19 hq19=>?_
 have hm26:=hm24.callAZ hq19;refine gg 4 rfl ?_;obtain ⟨p27,e27,hM⟩:=zA4 hM
 refine Rn.c2 (cK func69) (zMd (Z0:=All) e27 (zD7 (hm26.get 11 rfl)) :) fun A27_0_0 c27_0_0 w27 hq27=>?_
 have hm29:=hm26.callF (flC (zAl zE9 _ _ _ _) fl0) hq27;replace hm29:=hm29.nq;refine gg 2 rfl ?_
 cases hM
 exact Rn.R1 func25 ⟨A27_0_0,c27_0_0,rfl,hm29.pk [12]⟩
theorem zPo {x0 : (List zA8)} {r : ((List UInt8) × Int)} (hM : zP9 x0 = some r) (f0 : (slR A0 c0 zA8.rep x0).H Z0 w) (f1 : (rdR 1 0 gl1).H Z0 w) (f2 : (rdR 3 0 gl3).H Z0 w) :
    Calls prog 12 #[.slice A0 (x0).length c0] w fun x w'=>∃ A_0_0 c_0_0,x = .returned (.tuple #[.slice A_0_0 (r.1).length c_0_0,iv r.2]) ∧ Hp Z0 No w w' [zBd 5 A_0_0 c_0_0 zCa r.1]:=by
 have hm0:=Hp.nil Z0 No w;have hc0:=zD1.nil;have hm4:=hm0.know (slR A0 c0 zA8.rep x0) (fun _ h=>h) (hm0.in0 hc0 f0);replace hc0:=hc0.snoc (r:=slR A0 c0 zA8.rep x0) (fun _ h=>h);have hm5:=hm4.know (rdR 1 0 gl1) (fun _ h=>h) (hm4.in0 hc0 f1);replace hc0:=hc0.snoc (r:=rdR 1 0 gl1) (fun _ h=>h);have hm6:=hm5.know (rdR 3 0 gl3) (fun _ h=>h) (hm5.in0 hc0 f2);replace hc0:=hc0.snoc (r:=rdR 3 0 gl3) (fun _ h=>h);refine Rn.en func12 ?_;refine gg 9 rfl (Rn.q rfl (V.lenV underlying24 rfl) (gg 2 rfl ?_));refine zB hM (Rn.condD rfl) (fun h7 hM=>?_) (fun h7 hM=>?_)
 ·cases hM
 ·refine gg 4 rfl ?_;obtain ⟨z8,e8,hM⟩:=zA4 hM;refine Rn.ixH hm6 0 rfl e8 rfl rfl rfl underlying24 sizeOf44 rfl rfl rfl rfl ?_;rintro b8 o8 vs8 hr8 hm8;obtain ⟨Ar9,cr9,Ar11,cr11,Ar13,cr13,rfl,fs9,fs11,fs13⟩:=zA8.relE hr8;have hm16:=Hp.know1 (M:=[slR Ar9 cr9 zA.rep z8.Point.Attrs,slR Ar11 cr11 zAp z8.Point.Hist.Pos.Counts,slR Ar13 cr13 zAp z8.Point.Hist.Neg.Counts]) hm8 (fun _ h=>h) (knC (fun _ h=>h) fs9 (knC (fun _ h=>h) fs11 (knC (fun _ h=>h) fs13 kn0)));refine gg 1 rfl (Rn.q rfl (V.ldA (vs:=[_,_,_,_,_,_,_,_,_,_,_,_,_,_,_,_,_]) isAgg42 sizeOf42 rfl (Rd.sub (hm16.get 3 rfl).2 1 17) rfl) ?_);obtain ⟨p17,e17,hM⟩:=zA4 hM
  refine Rn.c2 (cK func23) (zN6 (Z0:=All) e17 (show zA9.rep.rel All _ _ _ from ⟨_,_,rfl,⟨rfl,trivial⟩,⟨_,_,rfl,⟨_,_,rfl,(zA1 (hm16.get 4 rfl)).1,(zA1 (hm16.get 4 rfl)).2.1,(zA1 (hm16.get 4 rfl)).2.2⟩,⟨_,_,rfl,⟨rfl,trivial⟩,⟨_,_,rfl,⟨rfl,trivial⟩,⟨_,_,rfl,⟨rfl,trivial⟩,⟨_,_,rfl,⟨rfl,trivial⟩,⟨_,_,rfl,⟨rfl,trivial⟩,⟨_,_,rfl,⟨rfl,trivial⟩,⟨_,_,rfl,⟨rfl,trivial⟩,⟨_,_,rfl,⟨rfl,trivial⟩,⟨_,_,rfl,⟨_,_,rfl,⟨rfl,trivial⟩,⟨_,_,rfl,⟨rfl,trivial⟩,⟨_,_,rfl,⟨_,_,rfl,⟨rfl,trivial⟩,⟨_,_,rfl,(zA1 (hm16.get 5 rfl)).1,(zA1 (hm16.get 5 rfl)).2.1,(zA1 (hm16.get 5 rfl)).2.2⟩⟩,⟨_,_,rfl,⟨rfl,trivial⟩,⟨_,_,rfl,(zA1 (hm16.get 6 rfl)).1,(zA1 (hm16.get 6 rfl)).2.1,(zA1 (hm16.get 6 rfl)).2.2⟩⟩⟩⟩⟩,⟨rfl,trivial⟩⟩⟩⟩⟩⟩⟩⟩⟩⟩⟩⟩) :) fun F17_0 b17_0 w17 hq17=>?_
  have hm19:=hm16.callF (flC (zSh fun _=>(zA7.oflat _ _ _)) fl0) hq17;refine gg 12 rfl ?_;refine zB hM (Rn.condD rfl) (fun h20 hM=>?_) (fun h20 hM=>?_)
  ·cases hM
  ·refine gg 5 rfl (Rn.q rfl (V.lenV underlying24 rfl) (gg 2 rfl ?_));refine Rn.jG hm0 hM (G:=(Option zA7) × (Nat → Prop)) (fun g=>[(4,.pointer (zUt b17_0 (g.1)))]) (fun g=>[rdR 1 0 gl1,rdR 3 0 gl3,zUs (g.1) (fun z=>zA7.obj (g.2) b17_0 z)]) (fun j g=>j g.1) ?_ ?_
   ·rintro ⟨y21,F21⟩ w22 hm22 hM
    try dsimp only at hM
    refine gg 3 rfl ?_;obtain ⟨z24,e24,hM⟩:=zA4 hM;have hm25:=hm22.optSome 2 rfl e24;refine Rn.say (t:=39) (pt b17_0 0) rfl (by rw [e24];rfl) ?_;obtain ⟨p23,e23,hM⟩:=zA4 hM
    refine Rn.c2 (cK func25) (zIm (Z0:=All) e23 (zD7 (hm25.get 2 rfl)) :) fun A23_0_0 c23_0_0 w23 hq23=>?_
    have hm27:=hm25.callF (flC (zAl zE9 _ _ _ _) fl0) hq23;refine gg 3 rfl ?_
    cases hM
    exact Rn.R2 func12 ⟨A23_0_0,c23_0_0,rfl,hm27.pk [3]⟩
   intro j1 hM hk1;refine gg 1 rfl ?_;refine Rn.loopF (G:=Int × (Option zA7) × (Nat → Prop)) (fun g=>[(4,.pointer (zUt b17_0 (g.2.1))),(23,.slice A0 (x0).length c0),(24,iv (x0.length : Int)),(25,iv (g.1))]) (fun g w'=>Hp Z0 No w w' [slR A0 c0 zA8.rep x0,rdR 1 0 gl1,rdR 3 0 gl3,zUs (g.2.1) (fun z=>zA7.obj (g.2.2) b17_0 z)]) (fun n g=>zHe x0 j1 n g.1 g.2.1) fuel (0,p17.1,F17_0) sA (hm19.pk [0,1,2,7]) hM (fun _=>rfl) ?_;clear hM;rintro m30 ⟨y28,y29,F29⟩ w30 hm30 hM hn30;replace hM : zHe x0 j1 (m30 + 1) y28 y29 = some r:=hM;rw [zHe] at hM;refine gg 5 rfl ?_;refine zB hM (Rn.condD rfl) (fun h31 hM=>?_) (fun h31 hM=>?_)
   ·refine gg 5 rfl ?_;obtain ⟨z32,e32,hM⟩:=zA4 hM;refine Rn.ixH hm30 0 rfl e32 rfl rfl rfl underlying24 sizeOf44 rfl rfl rfl rfl ?_;rintro b32 o32 vs32 hr32 hm32;obtain ⟨Ar33,cr33,Ar35,cr35,Ar37,cr37,rfl,fs33,fs35,fs37⟩:=zA8.relE hr32;have hm40:=Hp.know1 (M:=[slR Ar33 cr33 zA.rep z32.Point.Attrs,slR Ar35 cr35 zAp z32.Point.Hist.Pos.Counts,slR Ar37 cr37 zAp z32.Point.Hist.Neg.Counts]) hm32 (fun _ h=>h) (knC (fun _ h=>h) fs33 (knC (fun _ h=>h) fs35 (knC (fun _ h=>h) fs37 kn0)));refine Rn.q rfl (V.ldA (vs:=[_,_,_,_,_,_,_,_,_,_,_,_,_,_,_,_,_,_]) isAgg44 sizeOf44 rfl (Rd.pre (hm40.get 4 rfl).2 18) rfl) (Rn.als rfl rfl rfl Tryz.zeroValue44 rfl sizeOf44 rfl rfl rfl rfl (by first|exact zN1 rfl|(simp [Value.oneCell'];done)) ?_);intro b41 w41 hb41 m41 e41;have hm43:=(hm40.addBox hb41 e41 m41).nf [_,_,_,_,_,_,_,_,zAr _ _ [_,_,_,_,_,_,_,_,_,_,_,_,_,_,_,_,_,_]] rfl;refine gg 5 rfl (Rn.q rfl (V.ldB isAgg3 rfl (hm43.get 8 rfl) rfl) (gg 1 rfl (Rn.q rfl (V.ldBA [_,_,_,_,_,_,_,_,_,_,_,_,_,_,_,_,_] isAgg42 sizeOf42 rfl (hm43.get 8 rfl) rfl rfl) ?_)));obtain ⟨z45,e45,hM⟩:=zA4 hM;have hm46:=hm43.optSome 3 rfl e45;refine Rn.say (t:=29) (pt b17_0 0) rfl (by rw [e45];rfl) ?_;obtain ⟨p44,e44,hM⟩:=zA4 hM;have hm47:=hm46.dup 1 rfl (fun _ h=>h);have hm49:=hm47.dup 2 rfl (fun _ h=>h);have hm51:=hm49.know (zSw zA9.rep [Str (z32.Point.Name),.slice Ar33 (z32.Point.Attrs).length cr33,iv z32.Point.Kind,iv z32.Point.Temp,.bool (z32.Point.Mono),iv z32.Point.Start,iv z32.Point.Time,iv z32.Point.Int_,zAo z32.Point.Re,zAo z32.Point.Im,iv z32.Point.Hist.Scale,zAo z32.Point.Hist.Zero,iv z32.Point.Hist.Pos.Offset,.slice Ar35 (z32.Point.Hist.Pos.Counts).length cr35,iv z32.Point.Hist.Neg.Offset,.slice Ar37 (z32.Point.Hist.Neg.Counts).length cr37,iv z32.Point.Flags] z32.Point) (fun _ h=>h) (show zA9.rep.rel _ _ _ _ from ⟨_,_,rfl,⟨rfl,trivial⟩,⟨_,_,rfl,⟨_,_,rfl,(hm49.get 5 rfl).1,(hm49.get 5 rfl).2.1,(hm49.get 5 rfl).2.2⟩,⟨_,_,rfl,⟨rfl,trivial⟩,⟨_,_,rfl,⟨rfl,trivial⟩,⟨_,_,rfl,⟨rfl,trivial⟩,⟨_,_,rfl,⟨rfl,trivial⟩,⟨_,_,rfl,⟨rfl,trivial⟩,⟨_,_,rfl,⟨rfl,trivial⟩,⟨_,_,rfl,⟨rfl,trivial⟩,⟨_,_,rfl,⟨rfl,trivial⟩,⟨_,_,rfl,⟨_,_,rfl,⟨rfl,trivial⟩,⟨_,_,rfl,⟨rfl,trivial⟩,⟨_,_,rfl,⟨_,_,rfl,⟨rfl,trivial⟩,⟨_,_,rfl,(hm49.get 6 rfl).1,(hm49.get 6 rfl).2.1,(hm49.get 6 rfl).2.2⟩⟩,⟨_,_,rfl,⟨rfl,trivial⟩,⟨_,_,rfl,(hm49.get 7 rfl).1,(hm49.get 7 rfl).2.1,(hm49.get 7 rfl).2.2⟩⟩⟩⟩⟩,⟨rfl,trivial⟩⟩⟩⟩⟩⟩⟩⟩⟩⟩⟩⟩);have hm53:=hm51.cu [0,1,2,4,5,6,7,8] [3,9,10,11]
    refine Rn.c1 (cK func24) (m_chunk_Chunk_Add_sim e44 hm53.lend :) fun F44_p0 w44 hq44=>?_
    have hm55:=hm53.callAZ hq44;refine gg 7 rfl ?_;refine zB hM (Rn.condD rfl) (fun h56 hM=>?_) (fun h56 hM=>?_)
    ·cases hM
    ·refine gg 6 rfl ?_;refine Rn.say (t:=4) (pt b17_0 0) rfl (by rw [e45];rfl) ?_;have hm57:=hm55.toSome (R:=(fun z=>zA7.obj F44_p0 b17_0 z)) 8 rfl;exact hn30 ((W64 (y28 + 1)),(some p44.2),F44_p0) _ _ sA (hm57.pk [0,1,2,8]) hM
   ·refine gg 1 rfl ?_;exact hk1 (y29,F29) _ _ sA (hm30.pk [1,2,3]) hM
theorem zNt {x0 : (List UInt8)} {r : zAa} (hM : zMn x0 = some r) (f0 : (slR A0 c0 zCa x0).H Z0 w) :
    Calls prog 31 #[.slice A0 (x0).length c0] w fun x w'=>∃ F_0 b_0,x = .returned (pt b_0 0) ∧ Hp Z0 No w w' [zAa.obj F_0 b_0 r]:=by
 have hm0:=Hp.nil Z0 No w;have hc0:=zD1.nil;have hm2:=hm0.know (slR A0 c0 zCa x0) (fun _ h=>h) (hm0.in0 hc0 f0);replace hc0:=hc0.snoc (r:=slR A0 c0 zCa x0) (fun _ h=>h);refine Rn.en func31 ?_;refine gg 7 rfl ?_;obtain ⟨p3,e3,hM⟩:=zA4 hM
 refine Rn.c2 (cK func75) (zGi (Z0:=All) e3 (zA1 (hm2.get 0 rfl)) :) fun A3_0_0 c3_0_0 w3 hq3=>?_
 have hm5:=hm2.callF (flC (zAl zE9 _ _ _ _) fl0) hq3;refine Rn.q rfl (V.bldS (cs:=[_,_,_]) st134 rfl rfl) (Rn.box rfl rfl rfl rfl rfl ?_);intro b6 w6 hb6 m6 e6;have hm8:=(hm5.addBox hb6 e6 m6).nf [_,_,zAr _ _ [_,_,_]] rfl;refine gg 2 rfl ?_;have hm10:=hm8.freeze 1 rfl;have hm11:=hm10.dup 1 rfl (fun _ h=>h);have hm14:=hm11.cu [0,1] [2,3];obtain ⟨F13,hm13⟩:=hm14.fold (zAa.sh b6 ({ b:=p3,at_:=0,e:=0 } : zAa)) ⟨A3_0_0,c3_0_0,rfl⟩
 cases hM
 exact Rn.R1 func31 ⟨F13,b6,rfl,hm13.pk [2]⟩
theorem zFi {x0 : zAa} {r : Int} (hM : zFx x0 = some r) (f0 : (fzR (zAa.obj F0 b0 x0)).H Z0 w) :
    Calls prog 78 #[pt b0 0] w fun x w'=>x = .returned (iv r) ∧ Hp Z0 No w w' []:=by
 have hm0:=Hp.nil Z0 No w;have hc0:=zD1.nil;have hm2:=hm0.know (fzR (zAa.obj F0 b0 x0)) (fun _ h=>h) (hm0.in0 hc0 f0);replace hc0:=hc0.snoc (r:=fzR (zAa.obj F0 b0 x0)) (fun _ h=>h);refine Rn.en func78 ?_;refine gg 5 rfl ?_;obtain ⟨_,⟨A4_0,c4_0,rfl⟩,hm4⟩:=hm2.unfz 0 rfl;replace hm4:=hm4.nq;have hm8:=hm4.fzS 2 rfl;refine Rn.drawP rfl hm8 ?_;intro w3 hm3;refine dq [0,1,2] ?_;refine RH.takeP 3 (by kernel_rfl) rfl rfl rfl rfl (V.ldB isAgg22 rfl (hm3.getz 1 rfl) rfl) ?_;refine RH.takeP 4 (by kernel_rfl) rfl rfl rfl rfl (V.lenV underlying22 rfl) ?_;refine dq [5,6,7] ?_;refine RH.takeP 8 (by kernel_rfl) rfl rfl rfl rfl (V.ldB isAgg3 rfl (hm3.getz 1 rfl) rfl) ?_;refine dq [9,10] ?_;refine RH.doneP (by kernel_rfl) ?_
 cases hM
 exact Rn.R1 func78 ⟨rfl,hm3.pk []⟩
theorem zNu {x0 : UInt8} {r : Int} (hM : zMo x0 = some r)  :
    Calls prog 190 #[u8v x0] w fun x w'=>x = .returned (iv r) ∧ Hp Z0 No w w' []:=by
 have hm0:=Hp.nil Z0 No w;have hc0:=zD1.nil;refine Rn.en func190 ?_;refine gg 7 rfl ?_;obtain ⟨z1,e1,hM⟩:=zA4 hM;refine Rn.q rfl (V.idxSZ underlying9 rfl rfl e1) (Rn.q rfl (V.cv8i (a:=z1) underlying5 underlying3 rfl) (gg 2 rfl ?_))
 cases hM
 exact Rn.R1 func190 ⟨rfl,hm0.pk []⟩
theorem zJr {x0 : UInt8} {r : Int} (hM : zHv x0 = some r)  :
    Calls prog 132 #[u8v x0] w fun x w'=>x = .returned (iv r) ∧ Hp Z0 No w w' []:=by
 have hm0:=Hp.nil Z0 No w;have hc0:=zD1.nil;refine Rn.en func132 ?_;refine gg 7 rfl ?_;obtain ⟨p1,e1,hM⟩:=zA4 hM
 refine Rn.c0 (cK func190) (zNu (Z0:=All) e1  :) hm0 fun w1 _ hm2=>?_
 refine gg 3 rfl ?_
 cases hM
 exact Rn.R1 func132 ⟨rfl,hm2.pk []⟩
theorem m_pack_Reader_fail_sim {x0 : zAa} {x1 : Int} {r : zAa} (hM : zL8 x0 x1 = some r) (hL : zK8 Z0 w [zAa.obj F0 b0 x0]) :
    Calls prog 77 #[pt b0 0,iv x1] w fun x w'=>∃ F_p0,x = .returned (.tuple #[]) ∧ Hp Z0 (LS [zAa.obj F0 b0 x0]) w w' [zAa.obj F_p0 b0 r]:=by
 have hm0:=hL.start;refine Rn.en func77 ?_;refine gg 5 rfl ?_;obtain ⟨_,⟨A2_0,c2_0,rfl⟩,hm2⟩:=hm0.unf 0 rfl;replace hm2:=hm2.nq;refine Rn.q rfl (V.ldB isAgg25 rfl (hm2.get 0 rfl) rfl) (gg 2 rfl ?_);refine zB hM (Rn.condD rfl) (fun h4 hM=>?_) (fun h4 hM=>?_)
 ·refine gg 5 rfl (Rn.sq rfl sizeOf25 rfl rfl (hm2.get 0 rfl) ?_);intro w5 m5 x5;have hm6:=(hm2.st 0 rfl x5 m5).nf [zAr _ _ [_,_,_],_] rfl;refine gg 1 rfl ?_;have hm7:=hm6.dup 1 rfl (fun _ h=>h);have hm10:=hm7.cu [1] [0,2];obtain ⟨F9,hm9⟩:=hm10.fold (zAa.sh b0 ({ b:=x0.b,at_:=x0.at_,e:=x1 } : zAa)) ⟨A2_0,c2_0,rfl⟩;refine Rn.end0 func77 rfl ?_;obtain rfl:=zFu hM;exact ⟨F9,rfl,hm9.pk [1]⟩
 ·refine gg 1 rfl ?_;have hm11:=hm2.dup 1 rfl (fun _ h=>h);have hm14:=hm11.cu [1] [0,2];obtain ⟨F13,hm13⟩:=hm14.fold (zAa.sh b0 x0) ⟨A2_0,c2_0,rfl⟩;refine Rn.end0 func77 rfl ?_;obtain rfl:=zFu hM;exact ⟨F13,rfl,hm13.pk [1]⟩
theorem m_pack_Reader_Num_sim {x0 : zAa} {r : (UInt64 × zAa)} (hM : zLx x0 = some r) (hL : zK8 Z0 w [zAa.obj F0 b0 x0]) :
    Calls prog 76 #[pt b0 0] w fun x w'=>∃ F_p0,x = .returned (zAo r.1) ∧ Hp Z0 (LS [zAa.obj F0 b0 x0]) w w' [zAa.obj F_p0 b0 r.2]:=by
 have hm0:=hL.start;refine Rn.en func76 ?_;refine gg 5 rfl ?_;obtain ⟨j1,hj1,hM⟩:=jnE hM;refine Rn.joinL (r:=r) (G:=(Nat → Prop)) 0 rfl (fun g=>[(0,pt b0 0)]) (fun g w'=>Hp Z0 (LS [zAa.obj F0 b0 x0]) w w' [zAa.obj g b0 x0]) (fun g=>j1 ()) ?_ ?_
 ·subst hj1;clear hM;rintro F2 w3 hm3 hM
  try dsimp only at hM
  refine gg 3 rfl ?_;obtain ⟨p4,e4,hM⟩:=zA4 hM;have hm5:=hm3.cu [] [0]
  refine Rn.c1 (cK func77) (m_pack_Reader_fail_sim e4 hm5.lend :) fun F4_p0 w4 hq4=>?_
  have hm7:=hm5.callAZ hq4;refine gg 5 rfl ?_
  cases hM
  exact Rn.R1 func76 ⟨F4_p0,rfl,hm7.pk [0]⟩
 intro hk1;clear hj1;refine gg 14 rfl ?_;obtain ⟨_,⟨A8_0,c8_0,rfl⟩,hm8⟩:=hm0.unf 0 rfl;replace hm8:=hm8.nq;refine Rn.q rfl (V.ldB isAgg25 rfl (hm8.get 0 rfl) rfl) (gg 2 rfl ?_);refine zB hM (Rn.condD rfl) (fun h10 hM=>?_) (fun h10 hM=>?_)
 ·cases hM
 ·refine gg 5 rfl ?_;have hm12:=hm8.dup 1 rfl (fun _ h=>h);have hm15:=hm12.cu [1] [0,2];obtain ⟨F14,hm14⟩:=hm15.fold (zAa.sh b0 x0) ⟨A8_0,c8_0,rfl⟩;obtain ⟨p11,e11,hM⟩:=zA4 hM
  refine Rn.c0 (cK func78) (zFi (Z0:=All) e11 (zD7 (hm14.get 1 rfl)) :) hm14 fun w11 _ hm16=>?_
  refine gg 2 rfl ?_;refine zB hM (Rn.condD rfl) (fun h17 hM=>?_) (fun h17 hM=>?_)
  ·cases hM
  ·refine gg 2 rfl ?_;refine Rn.drawH rfl hm16 ?_;intro w18 hm18;refine dq [0,1,2] ?_;obtain ⟨_,⟨A19_0,c19_0,rfl⟩,hm19⟩:=hm18.unf 1 rfl;replace hm19:=hm19.nq;refine RH.tk 3 rfl (fun w' hDr=>V.ldB isAgg22 rfl ((hm19.ext hDr).get 1 rfl) rfl) ?_;refine dq [4,5,6] ?_
   refine RH.here fun hS7=>RH.on 7 rfl (V.ldB isAgg3 rfl (hm19.get 1 rfl) rfl) hS7 ?_
   obtain ⟨z21,e21,hM⟩:=zA4 hM;obtain ⟨kk21,ke21,kz21,kl21⟩:=zHf e21;obtain ⟨b21,o21,vs21,hA21,hD21,hR21,hrel21⟩:=Hp.at hm19 2 rfl kz21;obtain ⟨rfl,_⟩:=hrel21;have hm23:=Hp.knowL [rdR b21 (o21 + kk21 * 1) [u8v z21]] _ hm19 (knC (fun _ h=>h) ⟨fun _=>hD21,hR21⟩ kn0)
   refine RH.here fun hS8=>RH.on 8 rfl (V.ixA' hA21 kk21 underlying22 sizeOf5 rfl rfl ke21 kl21) hS8 ?_
   refine RH.here fun hS9=>RH.on 9 rfl (V.ldR0 isAgg5 rfl (hm23.get 3 rfl).2 rfl) hS9 ?_
   refine RH.here fun hS10=>RH.on 10 rfl (V.com8 (a:=z21) rfl) hS10 ?_
   obtain ⟨p24,e24,hM⟩:=zA4 hM;refine RH.cq (cK func132) 11 (zJr (Z0:=All) e24  :) ?_;rintro _ w24 ⟨rfl,hq24⟩;refine ⟨_,rfl,((Ext.refl _).trans hq24.fr),?_⟩;have hm25:=hm23.call0 hq24;refine dq [12] ?_;refine RH.doneP (by kernel_rfl) ?_;refine gg 5 rfl ?_;have hm27:=hm25.dup 2 rfl (fun _ h=>h);have hm30:=hm27.cu [0,2,3] [1,4];obtain ⟨F29,hm29⟩:=hm30.fold (zAa.sh b0 x0) ⟨A19_0,c19_0,rfl⟩;obtain ⟨p26,e26,hM⟩:=zA4 hM
   refine Rn.c0 (cK func78) (zFi (Z0:=All) e26 (zD7 (hm29.get 3 rfl)) :) hm29 fun w26 _ hm31=>?_
   refine gg 2 rfl ?_;refine zB hM (Rn.condD rfl) (fun h32 hM=>?_) (fun h32 hM=>?_)
   ·cases hM
   ·refine gg 7 rfl ?_;refine zB hM (Rn.condD rfl) (fun h33 hM=>?_) (fun h33 hM=>?_)
    ·refine Rn.drawP rfl hm31 ?_;intro w34 hm34;refine dq [0,1,2] ?_;obtain ⟨_,⟨A35_0,c35_0,rfl⟩,hm35⟩:=hm34.unf 3 rfl;replace hm35:=hm35.nq;refine RH.takeP 3 (by kernel_rfl) rfl rfl rfl rfl (V.ldB isAgg22 rfl (hm35.get 3 rfl) rfl) ?_;refine dq [4,5,6] ?_;refine RH.takeP 7 (by kernel_rfl) rfl rfl rfl rfl (V.ldB isAgg3 rfl (hm35.get 3 rfl) rfl) ?_;obtain ⟨z37,e37,hM⟩:=zA4 hM;obtain ⟨kk37,ke37,kz37,kl37⟩:=zHf e37;obtain ⟨b37,o37,vs37,hA37,hD37,hR37,hrel37⟩:=Hp.at hm35 4 rfl kz37;obtain ⟨rfl,_⟩:=hrel37;have hm39:=Hp.knowL [rdR b37 (o37 + kk37 * 1) [u8v z37]] _ hm35 (knC (fun _ h=>h) ⟨fun _=>hD37,hR37⟩ kn0);refine RH.takeP 8 (by kernel_rfl) rfl rfl rfl rfl (V.ixA' hA37 kk37 underlying22 sizeOf5 rfl rfl ke37 kl37) ?_;refine RH.takeP 9 (by kernel_rfl) rfl rfl rfl rfl (V.ldR0 isAgg5 rfl (hm39.get 5 rfl).2 rfl) ?_;refine dq [10] ?_;refine RH.takeP 11 (by kernel_rfl) rfl rfl rfl rfl (V.cv64 underlying3 underlying137 rfl) ?_;refine RH.takeP 12 (by kernel_rfl) rfl rfl rfl rfl (V.shr8 (a:=(127 : UInt8)) (m:=(zAe p24).toNat) rfl rfl) ?_;refine RH.takeP 13 (by kernel_rfl) rfl rfl rfl rfl (V.and8 (a:=z37) (b:=shr8 (127 : UInt8) ((zAe p24).toNat)) rfl rfl) ?_;refine RH.takeP 14 (by kernel_rfl) rfl rfl rfl rfl (V.cv64 underlying5 underlying35 rfl) ?_;refine dq [15] ?_;refine RH.doneP (by kernel_rfl) ?_;refine gg 2 rfl ?_;refine Rn.drawP rfl hm39 ?_;intro w40 hm40;refine dq [0,1,2] ?_;refine RH.takeP 3 (by kernel_rfl) rfl rfl rfl rfl (V.ldB isAgg22 rfl (hm40.get 3 rfl) rfl) ?_;refine dq [4,5,6] ?_;refine RH.takeP 7 (by kernel_rfl) rfl rfl rfl rfl (V.ldB isAgg3 rfl (hm40.get 3 rfl) rfl) ?_;refine dq [8,9,10,11] ?_;refine RH.takeP 12 (by kernel_rfl) rfl rfl rfl rfl (V.ldB isAgg3 rfl (hm40.get 3 rfl) rfl) ?_;refine dq [13,14,15] ?_;obtain ⟨z41,e41,hM⟩:=zA4 hM;refine RH.cutH 16 (by kernel_rfl) hm40 4 rfl e41 rfl rfl rfl underlying22 sizeOf5 rfl rfl rfl rfl rfl ?_;intro A41 c41 hm41;refine RH.takeP 17 (by kernel_rfl) rfl rfl rfl rfl (V.lenV underlying22 rfl) ?_;refine dq [18] ?_;refine RH.doneP (by kernel_rfl) ?_;have hm43:=hm41.dup 4 rfl (fun _ h=>h);have hm46:=hm43.cu [0,1,2,4,5,6] [3,7];obtain ⟨F45,hm45⟩:=hm46.fold (zAa.sh b0 x0) ⟨A35_0,c35_0,rfl⟩;refine Rn.jG hm0 hM (G:=UInt64 × (Nat → Prop)) (fun g=>[(0,pt b0 0),(3,iv p24),(4,zAo (g.1))]) (fun g=>[zAa.obj (g.2) b0 x0]) (fun j g=>j g.1) ?_ ?_
     ·rintro ⟨y48,F47⟩ w49 hm49 hM
      try dsimp only at hM
      refine gg 4 rfl ?_;obtain ⟨p50,e50,hM⟩:=zA4 hM
      refine Rn.c0 (cK func133) (zLw (Z0:=All) e50  :) hm49 fun w50 _ hm51=>?_
      refine gg 3 rfl ?_;refine zB hM (Rn.condD rfl) (fun h52 hM=>?_) (fun h52 hM=>?_)
      ·cases hM
      ·refine gg 6 rfl ?_;obtain ⟨_,⟨A53_0,c53_0,rfl⟩,hm53⟩:=hm51.unf 0 rfl;replace hm53:=hm53.nq;refine Rn.q rfl (V.ldB isAgg3 rfl (hm53.get 0 rfl) rfl) (gg 5 rfl (Rn.sq rfl sizeOf3 rfl rfl (hm53.get 0 rfl) ?_));intro w55 m55 x55;have hm56:=(hm53.st 0 rfl x55 m55).nf [zAr _ _ [_,_,_],_] rfl;refine gg 7 rfl ?_;have hm57:=hm56.dup 1 rfl (fun _ h=>h);have hm60:=hm57.cu [1] [0,2];obtain ⟨F59,hm59⟩:=hm60.fold (zAa.sh b0 ({ b:=x0.b,at_:=W64 (x0.at_ + (W64 (1 + p24))),e:=x0.e } : zAa)) ⟨A53_0,c53_0,rfl⟩
       cases hM
       exact Rn.R1 func76 ⟨F59,rfl,hm59.pk [1]⟩
     intro j2 hM hk2;refine gg 1 rfl ?_;refine Rn.loopF (G:=UInt64 × Int × (Nat → Prop)) (fun g=>[(0,pt b0 0),(3,iv p24),(4,zAo (g.1)),(64,.slice A41 (z41).length c41),(65,iv (z41.length : Int)),(66,iv (g.2.1))]) (fun g w'=>Hp Z0 (LS [zAa.obj F0 b0 x0]) w w' [slR A41 c41 zCa z41,zAa.obj (g.2.2) b0 x0]) (fun n g=>zGa z41 j2 n g.1 g.2.1) fuel ((zAe ((z37 &&& (shr8 (127 : UInt8) ((zAe p24).toNat))).toNat : Int)),0,F45) sA (hm45.pk [5,6]) hM (fun _=>rfl) ?_;clear hM;rintro m64 ⟨y62,y63,F61⟩ w64 hm64 hM hn64;replace hM : zGa z41 j2 (m64 + 1) y62 y63 = some r:=hM;rw [zGa] at hM;refine gg 5 rfl ?_;refine zB hM (Rn.condD rfl) (fun h65 hM=>?_) (fun h65 hM=>?_)
     ·cases hM
     ·refine gg 1 rfl ?_;exact hk2 (y62,F61) _ _ sA (hm64.pk [1]) hM
    ·cases hM
theorem m_pack_Reader_Count_sim {x0 : zAa} {x1 : Int} {r : (Int × zAa)} (hM : zGo x0 x1 = some r) (hL : zK8 Z0 w [zAa.obj F0 b0 x0]) :
    Calls prog 33 #[pt b0 0,iv x1] w fun x w'=>∃ F_p0,x = .returned (iv r.1) ∧ Hp Z0 (LS [zAa.obj F0 b0 x0]) w w' [zAa.obj F_p0 b0 r.2]:=by
 have hm0:=hL.start;refine Rn.en func33 ?_;refine gg 9 rfl ?_;obtain ⟨_,⟨A2_0,c2_0,rfl⟩,hm2⟩:=hm0.unf 0 rfl;replace hm2:=hm2.nq;refine Rn.q rfl (V.ldB isAgg3 rfl (hm2.get 0 rfl) rfl) (gg 5 rfl ?_);have hm5:=hm2.dup 1 rfl (fun _ h=>h);have hm8:=hm5.cu [1] [0,2];obtain ⟨F7,hm7⟩:=hm8.fold (zAa.sh b0 x0) ⟨A2_0,c2_0,rfl⟩;obtain ⟨p4,e4,hM⟩:=zA4 hM;have hm9:=hm7.cu [0] [1]
 refine Rn.c1 (cK func76) (m_pack_Reader_Num_sim e4 hm9.lend :) fun F4_p0 w4 hq4=>?_
 have hm11:=hm9.callAZ hq4;refine gg 8 rfl ?_;obtain ⟨_,⟨A12_0,c12_0,rfl⟩,hm12⟩:=hm11.unf 1 rfl;replace hm12:=hm12.nq;refine Rn.q rfl (V.ldB isAgg25 rfl (hm12.get 1 rfl) rfl) (gg 2 rfl ?_);refine Rn.cutR [] [(0,pt b0 0),(5,iv x0.at_),(6,zAo p4.1),(27,.bool (decide ((p4.2.e = 0) ∧ ((x1 < 0) ∨ (((p4.1).toNat : Int) > ((zAe x1).toNat : Int))))))] (fun hk14=>?_) ?_
 ·refine Rn.partD (t:=18) rfl (fun h15=>?_) (fun h15=>?_)
  ·refine gg 3 rfl ?_;refine Rn.cutR [14] [(0,pt b0 0),(5,iv x0.at_),(6,zAo p4.1),(18,.bool true),(26,.bool (decide ((x1 < 0) ∨ (((p4.1).toNat : Int) > ((zAe x1).toNat : Int)))))] (fun hk16=>?_) ?_
   ·refine Rn.partD (t:=21) rfl (fun h17=>?_) (fun h17=>?_)
    ·refine gg 5 rfl ?_;exact hk16 _ sA
    ·refine gg 2 rfl (Rn.q rfl (V.cv64 underlying3 underlying35 rfl) (Rn.q rfl (V.gtr rfl rfl) (gg 1 rfl ?_)));exact hk16 _ sA
   refine gg 1 rfl ?_;exact hk14 _ sA
  ·refine gg 9 rfl ?_;exact hk14 _ sA
 refine gg 1 rfl ?_;refine zB hM (Rn.condD rfl) (fun h18 hM=>?_) (fun h18 hM=>?_)
 ·cases hM
 ·refine gg 4 rfl (Rn.q rfl (V.cvW underlying35 underlying3 rfl) (gg 2 rfl ?_));have hm19:=hm12.dup 2 rfl (fun _ h=>h);have hm22:=hm19.cu [0,2] [1,3];obtain ⟨F21,hm21⟩:=hm22.fold (zAa.sh b0 p4.2) ⟨A12_0,c12_0,rfl⟩
  cases hM
  exact Rn.R1 func33 ⟨F21,rfl,hm21.pk [2]⟩
theorem m_pack_Reader_Raw_sim {x0 : zAa} {x1 : Int} {r : ((List UInt8) × zAa)} (hM : zIz x0 x1 = some r) (hL : zK8 Z0 w [zAa.obj F0 b0 x0]) :
    Calls prog 34 #[pt b0 0,iv x1] w fun x w'=>∃ A_0_0 c_0_0 F_p0,x = .returned (.slice A_0_0 (r.1).length c_0_0) ∧ Hp Z0 (LS [zAa.obj F0 b0 x0]) w w' [zBd 5 A_0_0 c_0_0 zCa r.1,zAa.obj F_p0 b0 r.2]:=by
 have hm0:=hL.start;refine Rn.en func34 ?_;refine gg 11 rfl ?_;obtain ⟨_,⟨A2_0,c2_0,rfl⟩,hm2⟩:=hm0.unf 0 rfl;replace hm2:=hm2.nq;refine Rn.q rfl (V.ldB isAgg25 rfl (hm2.get 0 rfl) rfl) (gg 3 rfl ?_);refine zB hM (Rn.condD rfl) (fun h4 hM=>?_) (fun h4 hM=>?_)
 ·cases hM
 ·refine gg 6 rfl ?_;refine zB hM (Rn.condD rfl) (fun h5 hM=>?_) (fun h5 hM=>?_)
  ·cases hM
  ·refine gg 4 rfl ?_;have hm7:=hm2.dup 1 rfl (fun _ h=>h);have hm10:=hm7.cu [1] [0,2];obtain ⟨F9,hm9⟩:=hm10.fold (zAa.sh b0 x0) ⟨A2_0,c2_0,rfl⟩;obtain ⟨p6,e6,hM⟩:=zA4 hM
   refine Rn.c0 (cK func78) (zFi (Z0:=All) e6 (zD7 (hm9.get 1 rfl)) :) hm9 fun w6 _ hm11=>?_
   refine gg 3 rfl ?_;refine zB hM (Rn.condD rfl) (fun h12 hM=>?_) (fun h12 hM=>?_)
   ·cases hM
   ·refine gg 7 rfl ?_;obtain ⟨_,⟨A13_0,c13_0,rfl⟩,hm13⟩:=hm11.unf 1 rfl;replace hm13:=hm13.nq;refine Rn.q rfl (V.ldB isAgg3 rfl (hm13.get 1 rfl) rfl) (gg 4 rfl (Rn.sq rfl sizeOf3 rfl rfl (hm13.get 1 rfl) ?_));intro w15 m15 x15;have hm16:=(hm13.st 1 rfl x15 m15).nf [_,zAr _ _ [_,_,_],_] rfl;refine gg 2 rfl ?_;refine Rn.drawH rfl hm16 ?_;intro w17 hm17;refine dq [0,1,2] ?_;refine RH.tk 3 rfl (fun w' hDr=>V.ldB isAgg22 rfl ((hm17.ext hDr).get 1 rfl) rfl) ?_;refine dq [4,5,6] ?_;refine RH.tk 7 rfl (fun w' hDr=>V.ldB isAgg3 rfl ((hm17.ext hDr).get 1 rfl) rfl) ?_;refine dq [8,9,10,11,12] ?_
    refine RH.here fun hS13=>RH.on 13 rfl (V.ldB isAgg3 rfl (hm17.get 1 rfl) rfl) hS13 ?_
    obtain ⟨z18,e18,hM⟩:=zA4 hM;refine RH.cutH 14 (by kernel_rfl) hm17 2 rfl e18 rfl rfl rfl underlying22 sizeOf5 rfl rfl rfl rfl rfl ?_;intro A18 c18 hm18;obtain ⟨p20,e20,hM⟩:=zA4 hM;refine RH.cq (cK func75) 15 (zGi (Z0:=All) e20 (zA1 (hm18.get 3 rfl)) :) ?_;rintro _ w20 ⟨A20_0_0,c20_0_0,rfl,hq20⟩;refine ⟨_,rfl,((Ext.refl _).trans hq20.fr),?_⟩;have hm22:=hm18.callF (flC (zAl zE9 _ _ _ _) fl0) hq20;refine dq [16] ?_;refine RH.doneP (by kernel_rfl) ?_;have hm23:=hm22.dup 2 rfl (fun _ h=>h);have hm26:=hm23.cu [0,2,3,4] [1,5];obtain ⟨F25,hm25⟩:=hm26.fold (zAa.sh b0 ({ b:=x0.b,at_:=W64 (x0.at_ + x1),e:=x0.e } : zAa)) ⟨A13_0,c13_0,rfl⟩
    cases hM
    exact Rn.R1 func34 ⟨A20_0_0,c20_0_0,F25,rfl,hm25.pk [3,4]⟩
theorem m_pack_Reader_Text_sim {x0 : zAa} {x1 : Int} {r : ((List UInt8) × zAa)} (hM : zL9 x0 x1 = some r) (hL : zK8 Z0 w [zAa.obj F0 b0 x0]) :
    Calls prog 32 #[pt b0 0,iv x1] w fun x w'=>∃ F_p0,x = .returned (Str (r.1)) ∧ Hp Z0 (LS [zAa.obj F0 b0 x0]) w w' [zAa.obj F_p0 b0 r.2]:=by
 have hm0:=hL.start;refine Rn.en func32 ?_;refine gg 9 rfl ?_;obtain ⟨_,⟨A2_0,c2_0,rfl⟩,hm2⟩:=hm0.unf 0 rfl;replace hm2:=hm2.nq;refine Rn.q rfl (V.ldB isAgg3 rfl (hm2.get 0 rfl) rfl) (gg 7 rfl ?_);have hm5:=hm2.dup 1 rfl (fun _ h=>h);have hm8:=hm5.cu [1] [0,2];obtain ⟨F7,hm7⟩:=hm8.fold (zAa.sh b0 x0) ⟨A2_0,c2_0,rfl⟩;obtain ⟨p4,e4,hM⟩:=zA4 hM;have hm9:=hm7.cu [0] [1]
 refine Rn.c1 (cK func33) (m_pack_Reader_Count_sim e4 hm9.lend :) fun F4_p0 w4 hq4=>?_
 have hm11:=hm9.callAZ hq4;obtain ⟨p12,e12,hM⟩:=zA4 hM;have hm13:=hm11.cu [0] [1];refine Rn.cq (cK func34) (m_pack_Reader_Raw_sim e12 hm13.lend :) ?_;rintro _ w12 ⟨A12_0_0,c12_0_0,F12_p0,rfl,hq12⟩;refine ⟨_,rfl,?_⟩;have hm16:=hm13.callAZ hq12;refine gg 8 rfl ?_;obtain ⟨_,⟨A17_0,c17_0,rfl⟩,hm17⟩:=hm16.unf 2 rfl;replace hm17:=hm17.nq;refine Rn.q rfl (V.ldB isAgg25 rfl (hm17.get 2 rfl) rfl) (gg 2 rfl ?_);refine zB hM (Rn.condD rfl) (fun h19 hM=>?_) (fun h19 hM=>?_)
 ·cases hM
 ·refine gg 4 rfl (Rn.q rfl (V.b2s underlying22 underlying9 underlying5 rfl rfl (Own.sl (hm17.get 1 rfl))) (gg 2 rfl ?_));have hm20:=hm17.dup 3 rfl (fun _ h=>h);have hm23:=hm20.cu [0,1,3] [2,4];obtain ⟨F22,hm22⟩:=hm23.fold (zAa.sh b0 p12.2) ⟨A17_0,c17_0,rfl⟩
  cases hM
  exact Rn.R1 func32 ⟨F22,rfl,hm22.pk [3]⟩
theorem zMu {x0 : zAa} {r : Int} (hM : zLa x0 = some r) (f0 : (fzR (zAa.obj F0 b0 x0)).H Z0 w) :
    Calls prog 35 #[pt b0 0] w fun x w'=>x = .returned (iv r) ∧ Hp Z0 No w w' []:=by
 have hm0:=Hp.nil Z0 No w;have hc0:=zD1.nil;have hm2:=hm0.know (fzR (zAa.obj F0 b0 x0)) (fun _ h=>h) (hm0.in0 hc0 f0);replace hc0:=hc0.snoc (r:=fzR (zAa.obj F0 b0 x0)) (fun _ h=>h);refine Rn.en func35 ?_;refine gg 10 rfl ?_;obtain ⟨_,⟨A3_0,c3_0,rfl⟩,hm3⟩:=hm2.unfz 0 rfl;replace hm3:=hm3.nq;have hm7:=hm3.fzS 2 rfl;refine Rn.q rfl (V.ldB isAgg25 rfl (hm7.getz 1 rfl) rfl) (gg 2 rfl ?_);refine Rn.jR hm0 hM (G:=Bool) [] (fun g=>[(0,pt b0 0),(12,.bool (g))]) (fun g=>[fzR (zAa.obj F0 b0 x0),fzR (zAr b0 134 [.slice A3_0 (x0.b).length c3_0,iv x0.at_,iv x0.e]),slR A3_0 c3_0 zCa x0.b]) (fun j g=>j g) ?_ ?_
 ·rintro y8 w9 hm9 hM
  try dsimp only at hM
  refine gg 1 rfl ?_;refine zGt hM (Rn.condS rfl) (fun h10 hM=>?_) (fun h10 hM=>?_)
  ·cases hM
  ·refine gg 6 rfl (Rn.q rfl (V.ldB isAgg25 rfl (hm9.getz 1 rfl) rfl) (gg 2 rfl ?_))
   cases hM
   exact Rn.R1 func35 ⟨rfl,hm9.pk []⟩
 intro j1 hM hk1;refine zB hM (Rn.partD (t:=8) rfl) (fun h11 hM=>?_) (fun h11 hM=>?_)
 ·refine gg 1 rfl ?_;obtain ⟨p12,e12,hM⟩:=zA4 hM
  refine Rn.c0 (cK func78) (zFi (Z0:=All) e12 (zSp (hm7.get 0 rfl)) :) hm7 fun w12 _ hm13=>?_
  refine gg 2 rfl ?_;exact hk1 (decide (p12 > 0)) _ _ sA (hm13.pk [0,1,3]) hM
 ·cases hM
theorem zI1 {x0 : (List UInt8)} {x1 : UInt8} {r : Int} (hM : zG7 x0 x1 = some r)  :
    Calls prog 204 #[Str (x0),u8v x1] w fun x w'=>x = .returned (iv r) ∧ Hp Z0 No w w' []:=by
 have hm0:=Hp.nil Z0 No w;have hc0:=zD1.nil;refine Rn.en func204 ?_;refine gg 8 rfl (Rn.q rfl (V.indexByte (s:=x0) (c:=x1) func228 (by kernel_rfl) (by kernel_rfl) (by kernel_rfl) (by kernel_rfl) rfl) (gg 2 rfl ?_))
 cases hM
 exact Rn.R1 func204 ⟨rfl,hm0.pk []⟩
theorem zIp {x0 : (List UInt8)} {x1 : (List UInt8)} {r : Int} (hM : zH x0 x1 = some r)  :
    Calls prog 161 #[Str (x0),Str (x1)] w fun x w'=>x = .returned (iv r) ∧ Hp Z0 No w w' []:=by
 have hm0:=Hp.nil Z0 No w;have hc0:=zD1.nil;refine Rn.en func161 ?_;refine gg 7 rfl (Rn.q rfl (V.lenS underlying9 rfl) (gg 9 rfl ?_));refine Rn.cutR [7] [(0,Str (x0)),(1,Str (x1)),(5,iv (x1.length : Int)),(23,.bool (decide (((x1.length : Int) = 0) ∨ (x1 = x0))))] (fun hk1=>?_) ?_
 ·refine Rn.partD (t:=19) rfl (fun h2=>?_) (fun h2=>?_)
  ·refine gg 4 rfl ?_;exact hk1 _ sA
  ·refine gg 2 rfl (Rn.q rfl (V.eqlS rfl rfl) (gg 1 rfl ?_));exact hk1 _ sA
 refine gg 2 rfl ?_;refine zB hM (Rn.condD rfl) (fun h3 hM=>?_) (fun h3 hM=>?_)
 ·cases hM
 ·refine gg 6 rfl ?_;refine zB hM (Rn.condD rfl) (fun h4 hM=>?_) (fun h4 hM=>?_)
  ·refine gg 4 rfl ?_;obtain ⟨z5,e5,hM⟩:=zA4 hM;refine Rn.q rfl (V.idxSZ underlying9 rfl rfl e5) ?_;obtain ⟨p6,e6,hM⟩:=zA4 hM
   refine Rn.c0 (cK func204) (zI1 (Z0:=All) e6  :) hm0 fun w6 _ hm7=>?_
   refine gg 2 rfl ?_
   cases hM
   exact Rn.R1 func161 ⟨rfl,hm7.pk []⟩
  ·cases hM
theorem zJk {x0 : (List UInt8)} {x1 : (List UInt8)} {r : ((List UInt8) × (List UInt8) × Bool)} (hM : zHs x0 x1 = some r)  :
    Calls prog 102 #[Str (x0),Str (x1)] w fun x w'=>x = .returned (.tuple #[Str (r.1),Str (r.2.1),.bool (r.2.2)]) ∧ Hp Z0 No w w' []:=by
 have hm0:=Hp.nil Z0 No w;have hc0:=zD1.nil;refine Rn.en func102 ?_;refine gg 11 rfl ?_;obtain ⟨p1,e1,hM⟩:=zA4 hM
 refine Rn.c0 (cK func161) (zIp (Z0:=All) e1  :) hm0 fun w1 _ hm2=>?_
 refine gg 7 rfl ?_;refine zB hM (Rn.condD rfl) (fun h3 hM=>?_) (fun h3 hM=>?_)
 ·refine gg 1 rfl ?_;refine Rn.drawP rfl hm2 ?_;intro w4 hm4;refine dq [0,1] ?_;obtain ⟨z5,e5,hM⟩:=zA4 hM;refine RH.takeP 2 (by kernel_rfl) rfl rfl rfl rfl (V.cutSZ underlying9 rfl e5 rfl rfl) ?_;refine dq [3,4,5] ?_;refine RH.takeP 6 (by kernel_rfl) rfl rfl rfl rfl (V.lenS underlying9 rfl) ?_;refine dq [7] ?_;obtain ⟨z6,e6,hM⟩:=zA4 hM;refine RH.takeP 8 (by kernel_rfl) rfl rfl rfl rfl (V.cutSZ underlying9 rfl e6 rfl rfl) ?_;refine dq [9,10,11] ?_;refine RH.doneP (by kernel_rfl) ?_;refine Rn.retG3 func102 rfl (rvT rfl) (rvT rfl) (rvT rfl) ?_;obtain rfl:=zFu hM;exact ⟨rfl,hm4.pk []⟩
 ·refine gg 8 rfl ?_;refine Rn.retG3 func102 rfl (rvT rfl) (rvT rfl) (rvT rfl) ?_;obtain rfl:=zFu hM;exact ⟨rfl,hm2.pk []⟩
theorem zLv {x0 : (List UInt8)} {x1 : (List UInt8)} {r : ((List UInt8) × (List UInt8) × Bool)} (hM : zMa x0 x1 = some r)  :
    Calls prog 55 #[Str (x0),Str (x1)] w fun x w'=>x = .returned (.tuple #[Str (r.1),Str (r.2.1),.bool (r.2.2)]) ∧ Hp Z0 No w w' []:=by
 have hm0:=Hp.nil Z0 No w;have hc0:=zD1.nil;refine Rn.en func55 ?_;refine gg 10 rfl ?_;obtain ⟨p1,e1,hM⟩:=zA4 hM
 refine Rn.c0 (cK func102) (zJk (Z0:=All) e1  :) hm0 fun w1 _ hm2=>?_
 refine gg 7 rfl ?_;refine Rn.retG3 func55 rfl (rvT rfl) (rvT rfl) (rvT rfl) ?_;obtain rfl:=zFu hM;exact ⟨rfl,hm2.pk []⟩
theorem zOy {x0 : (List UInt8)} {r : ((List UInt8) × (List zA) × Int × Int)} (hM : zOl x0 = some r)  :
    Calls prog 56 #[Str (x0)] w fun x w'=>∃ A_1_0 c_1_0,x = .returned (.tuple #[Str (r.1),.slice A_1_0 (r.2.1).length c_1_0,iv r.2.2.1,iv r.2.2.2]) ∧ Hp Z0 No w w' [zBd 118 A_1_0 c_1_0 zA.rep r.2.1]:=by
 have hm0:=Hp.nil Z0 No w;have hc0:=zD1.nil;refine Rn.en func56 ?_;refine gg 10 rfl ?_;obtain ⟨p1,e1,hM⟩:=zA4 hM
 refine Rn.c0 (cK func55) (zLv (Z0:=All) e1  :) hm0 fun w1 _ hm2=>?_
 refine gg 12 rfl ?_;obtain ⟨p3,e3,hM⟩:=zA4 hM
 refine Rn.c0 (cK func103) (zIh (Z0:=All) e3  :) hm2 fun w3 _ hm4=>?_
 refine Rn.q rfl (V.notB rfl) (gg 1 rfl ?_);refine zGt hM (Rn.condS rfl) (fun h5 hM=>?_) (fun h5 hM=>?_)
 ·cases hM
 ·refine gg 5 rfl (Rn.q rfl (V.lenS underlying9 rfl) (gg 3 rfl ?_));refine Rn.jG hm0 hM (G:=(List zA) × Option Addr × Nat) (fun g=>[(2,Str (p1.1)),(3,.slice (g.2.1) ((g.1)).length (g.2.2))]) (fun g=>[zBd 118 (g.2.1) (g.2.2) zA.rep (g.1)]) (fun j g=>j g.1) ?_ ?_
  ·rintro ⟨y6,A7,c7⟩ w9 hm9 hM
   try dsimp only at hM
   refine gg 9 rfl ?_;refine Rn.retG4 func56 rfl (rvT rfl) (rvT rfl) (rvT rfl) (rvT rfl) ?_;obtain rfl:=zFu hM;exact ⟨A7,c7,rfl,hm9.pk [0]⟩
  intro j1 hM hk1;refine gg 1 rfl ?_;have hm16:=hm4.addNil 118 zA.rep;refine Rn.loopF (G:=(List zA) × Int × (List UInt8) × Bool × Option Addr × Nat) (fun g=>[(2,Str (p1.1)),(3,.slice (g.2.2.2.2.1) ((g.1)).length (g.2.2.2.2.2)),(4,iv (g.2.1)),(6,Str ((g.2.2.1))),(7,.bool ((g.2.2.2.1)))]) (fun g w'=>Hp Z0 No w w' [zBd 118 (g.2.2.2.2.1) (g.2.2.2.2.2) zA.rep (g.1)]) (fun n g=>zI2 j1 n g.1 g.2.1 g.2.2.1 g.2.2.2.1) fuel (([] : List zA),(W64 ((p1.1.length : Int) + 1)),p1.2.1,p1.2.2,none,0) sA (hm16.pk [0]) hM (fun _=>rfl) ?_;clear hM;rintro m18 ⟨y10,y13,y14,y15,A11,c11⟩ w18 hm18 hM hn18;replace hM : zI2 j1 (m18 + 1) y10 y13 y14 y15 = some r:=hM;rw [zI2] at hM;refine gg 5 rfl ?_;refine zGt hM (Rn.condS rfl) (fun h19 hM=>?_) (fun h19 hM=>?_)
  ·cases hM
  ·refine gg 1 rfl ?_;exact hk1 (y10,A11,c11) _ _ sA (hm18.pk [0]) hM
theorem zOm {x0 : (List UInt8)} {r : (zA9 × Int)} (hM : zO2 x0 = some r)  :
    Calls prog 18 #[Str (x0)] w fun x w'=>∃ A_0_0 c_0_0 A_0_1 c_0_1 A_0_2 c_0_2,x = .returned (.tuple #[.agg [Str (r.1.Name),.slice A_0_0 (r.1.Attrs).length c_0_0,iv r.1.Kind,iv r.1.Temp,.bool (r.1.Mono),iv r.1.Start,iv r.1.Time,iv r.1.Int_,zAo r.1.Re,zAo r.1.Im,iv r.1.Hist.Scale,zAo r.1.Hist.Zero,iv r.1.Hist.Pos.Offset,.slice A_0_1 (r.1.Hist.Pos.Counts).length c_0_1,iv r.1.Hist.Neg.Offset,.slice A_0_2 (r.1.Hist.Neg.Counts).length c_0_2,iv r.1.Flags].toArray,iv r.2]) ∧ Hp Z0 No w w' [slR A_0_0 c_0_0 zA.rep r.1.Attrs,slR A_0_1 c_0_1 zAp r.1.Hist.Pos.Counts,slR A_0_2 c_0_2 zAp r.1.Hist.Neg.Counts]:=by
 have hm0:=Hp.nil Z0 No w;have hc0:=zD1.nil;refine Rn.en func18 ?_;refine gg 2 rfl (Rn.alloc rfl rfl rfl Tryz.zeroValue42 rfl ?_);intro b1 w1 hb1 m1 e1;have hm3:=(hm0.addBox hb1 e1 m1).nf [zAr _ _ [_,_,_,_,_,_,_,_,_,_,_,_,_,_,_,_,_]] rfl;refine gg 5 rfl ?_;obtain ⟨p4,e4,hM⟩:=zA4 hM
 refine Rn.c0 (cK func55) (zLv (Z0:=All) e4  :) hm3 fun w4 _ hm5=>?_
 refine gg 11 rfl ?_;obtain ⟨p6,e6,hM⟩:=zA4 hM
 refine Rn.c2 (cK func56) (zOy (Z0:=All) e6  :) fun A6_1_0 c6_1_0 w6 hq6=>?_
 have hm8:=hm5.callF (flC (zAl zA.flat _ _ _ _) fl0) hq6;refine gg 14 rfl (Rn.q rfl (V.notB rfl) (gg 1 rfl ?_));refine Rn.cutR [6,7,8,9,10,11,12,13,14,15,16,17,18,19,20] [(2,pt b1 0),(5,Str (p4.2.1)),(7,Str (p6.1)),(8,.slice A6_1_0 (p6.2.1).length c6_1_0),(31,.bool (decide (((!p4.2.2) = true) ∨ (p6.2.2.2 ≠ 0))))] (fun hk9=>?_) ?_
 ·refine Rn.part (t:=28) rfl (fun h10=>?_) (fun h10=>?_)
  ·refine gg 3 rfl ?_;exact hk9 _ sA
  ·refine gg 3 rfl ?_;exact hk9 _ sA
 refine gg 1 rfl ?_;refine Rn.cutR [11,12,13,14,15,16,17,18,19,20] [(2,pt b1 0),(5,Str (p4.2.1)),(7,Str (p6.1)),(8,.slice A6_1_0 (p6.2.1).length c6_1_0),(36,.bool (decide ((((!p4.2.2) = true) ∨ (p6.2.2.2 ≠ 0)) ∨ ((p4.2.1.length : Int) ≠ 3))))] (fun hk11=>?_) ?_
 ·refine Rn.partD (t:=32) rfl (fun h12=>?_) (fun h12=>?_)
  ·refine gg 4 rfl ?_;exact hk11 _ sA
  ·refine gg 1 rfl (Rn.q rfl (V.lenS underlying9 rfl) (gg 2 rfl ?_));exact hk11 _ sA
 refine gg 1 rfl ?_;refine Rn.jR hm0 hM (G:=Bool) [] (fun g=>[(2,pt b1 0),(5,Str (p4.2.1)),(7,Str (p6.1)),(8,.slice A6_1_0 (p6.2.1).length c6_1_0),(46,.bool (g))]) (fun g=>[zAr b1 42 [Str (([] : List UInt8)),.slice none 0 0,iv 0,iv 0,.bool false,iv 0,iv 0,iv 0,zAo (0 : UInt64),zAo (0 : UInt64),iv 0,zAo (0 : UInt64),iv 0,.slice none 0 0,iv 0,.slice none 0 0,iv 0],zBd 118 A6_1_0 c6_1_0 zA.rep p6.2.1]) (fun j g=>j g) ?_ ?_
 ·rintro y13 w14 hm14 hM
  try dsimp only at hM
  refine gg 1 rfl ?_;refine zGt hM (Rn.condS rfl) (fun h15 hM=>?_) (fun h15 hM=>?_)
  ·cases hM
  ·refine gg 2 rfl ?_;refine Rn.drawH rfl hm14 ?_;intro w16 hm16;refine dq [0,1,2] ?_;obtain ⟨z17,e17,hM⟩:=zA4 hM;refine RH.tk 3 rfl (fun w' hDr=>V.idxSZ underlying9 rfl rfl e17) ?_;refine RH.tk 4 rfl (fun w' hDr=>V.cv8i (a:=z17) underlying5 underlying3 rfl) ?_;refine dq [5,6] ?_;obtain ⟨z18,e18,hM⟩:=zA4 hM;refine RH.tk 7 rfl (fun w' hDr=>V.idxSZ underlying9 rfl rfl e18) ?_;refine RH.tk 8 rfl (fun w' hDr=>V.cv8i (a:=z18) underlying5 underlying3 rfl) ?_;refine dq [9,10] ?_;obtain ⟨z19,e19,hM⟩:=zA4 hM;refine RH.tk 11 rfl (fun w' hDr=>V.idxSZ underlying9 rfl rfl e19) ?_;refine RH.tk 12 rfl (fun w' hDr=>V.eql rfl rfl) ?_;refine RH.tk 13 rfl (fun w' hDr=>V.bldS (cs:=[_,_,_,_,_,_,_,_,_,_,_,_,_,_,_,_,_]) st42 rfl rfl) ?_;refine RH.alloc 14 (by kernel_rfl) rfl rfl rfl Tryz.zeroValue42 rfl ?_;intro b20 w20 hb20 m20 e20
   have hfr20 : w16.heap.size ≤ b20:=by have hh:=((Ext.refl _) : Ext w16 w16).size;omega
   have hm22:=(hm16.addBox hb20 e20 m20).nf [_,_,zAr _ _ [_,_,_,_,_,_,_,_,_,_,_,_,_,_,_,_,_]] rfl;refine ⟨((Ext.refl _).trans e20),?_⟩;refine RH.st 15 (by kernel_rfl) rfl rfl sizeOf42 rfl rfl rfl rfl (by first|exact zN1 rfl|(simp [Value.oneCell'];done)) (hm22.get 2 rfl) (by first|exact nbl rfl|(simp;done)) ?_;intro w23 m23 x23;have hm24:=(hm22.st 2 rfl x23 m23).nf [_,_,zAr _ _ [_,_,_,_,_,_,_,_,_,_,_,_,_,_,_,_,_]] rfl;refine ⟨(zO4 ((Ext.refl _).trans e20) x23 hfr20),?_⟩;refine RH.doneP (by kernel_rfl) ?_;refine gg 2 rfl (Rn.q rfl (V.ldBA [_,_,_,_,_,_,_,_,_,_,_,_,_,_,_,_,_] isAgg42 sizeOf42 rfl (hm24.get 2 rfl) rfl rfl) ?_);have hm26:=hm24.freeze 1 rfl;refine Rn.als rfl rfl rfl Tryz.zeroValue42 rfl sizeOf42 rfl rfl rfl rfl (by first|exact zN1 rfl|(simp [Value.oneCell'];done)) ?_;intro b27 w27 hb27 m27 e27;have hm29:=(hm26.addBox hb27 e27 m27).nf [_,_,_,zAr _ _ [_,_,_,_,_,_,_,_,_,_,_,_,_,_,_,_,_]] rfl;refine gg 5 rfl (Rn.sq rfl sizeOf3 rfl rfl (hm29.get 3 rfl) ?_);intro w30 m30 x30;have hm31:=(hm29.st 3 rfl x30 m30).nf [_,_,_,zAr _ _ [_,_,_,_,_,_,_,_,_,_,_,_,_,_,_,_,_]] rfl;refine gg 4 rfl (Rn.q rfl (V.ldB isAgg3 rfl (hm31.get 3 rfl) rfl) (gg 2 rfl ?_));refine zB hM (Rn.condD rfl) (fun h32 hM=>?_) (fun h32 hM=>?_)
   ·refine gg 2 rfl (Rn.sq rfl sizeOf3 rfl rfl (hm31.get 3 rfl) ?_);intro w33 m33 x33;have hm34:=(hm31.st 3 rfl x33 m33).nf [_,_,_,zAr _ _ [_,_,_,_,_,_,_,_,_,_,_,_,_,_,_,_,_]] rfl;refine gg 4 rfl (Rn.q rfl (V.ldBA [_,_,_,_,_,_,_,_,_,_,_,_,_,_,_,_,_] isAgg42 sizeOf42 rfl (hm34.get 3 rfl) rfl rfl) ?_);obtain ⟨p35,e35,hM⟩:=zA4 hM
    refine Rn.c0 (cK func57) (zIw (Z0:=All) e35 (show zA9.rep.rel All _ _ _ from ⟨_,_,rfl,⟨rfl,trivial⟩,⟨_,_,rfl,⟨_,_,rfl,(zA1 (hm34.get 1 rfl)).1,(zA1 (hm34.get 1 rfl)).2.1,(zA1 (hm34.get 1 rfl)).2.2⟩,⟨_,_,rfl,⟨rfl,trivial⟩,⟨_,_,rfl,⟨rfl,trivial⟩,⟨_,_,rfl,⟨rfl,trivial⟩,⟨_,_,rfl,⟨rfl,trivial⟩,⟨_,_,rfl,⟨rfl,trivial⟩,⟨_,_,rfl,⟨rfl,trivial⟩,⟨_,_,rfl,⟨rfl,trivial⟩,⟨_,_,rfl,⟨rfl,trivial⟩,⟨_,_,rfl,⟨_,_,rfl,⟨rfl,trivial⟩,⟨_,_,rfl,⟨rfl,trivial⟩,⟨_,_,rfl,⟨_,_,rfl,⟨rfl,trivial⟩,⟨none,0,rfl,Nat.le_refl _,Nat.zero_le _,Sl.nil _ _ _ _⟩⟩,⟨_,_,rfl,⟨rfl,trivial⟩,⟨none,0,rfl,Nat.le_refl _,Nat.zero_le _,Sl.nil _ _ _ _⟩⟩⟩⟩⟩,⟨rfl,trivial⟩⟩⟩⟩⟩⟩⟩⟩⟩⟩⟩⟩) :) hm34 fun w35 _ hm36=>?_
    refine gg 2 rfl ?_;refine zB hM (Rn.condD rfl) (fun h37 hM=>?_) (fun h37 hM=>?_)
    ·cases hM
    ·refine gg 3 rfl (Rn.q rfl (V.ldBA [_,_,_,_,_,_,_,_,_,_,_,_,_,_,_,_,_] isAgg42 sizeOf42 rfl (hm36.get 2 rfl) rfl rfl) (Rn.sq rfl sizeOf42 rfl rfl (hm36.get 0 rfl) ?_));intro w38 m38 x38;have hm39:=(hm36.st 0 rfl x38 m38).nf [zAr _ _ [_,_,_,_,_,_,_,_,_,_,_,_,_,_,_,_,_],_,_,_] rfl;refine gg 2 rfl ?_;have hm40:=hm39.addNil 35 zAp;have hm43:=hm40.freeze 4 rfl;have hm44:=hm43.addNil 35 zAp;have hm47:=hm44.freeze 5 rfl;refine Rn.retG2 func18 rfl (rvC rfl isAgg42 sizeOf42 (hm39.get 0 rfl) rfl) (rvT rfl) ?_;obtain rfl:=zFu hM;exact ⟨A6_1_0,c6_1_0,none,0,none,0,rfl,hm47.pk [1,4,5]⟩
   ·cases hM
 intro j1 hM hk1;refine zB hM (Rn.partD (t:=37) rfl) (fun h48 hM=>?_) (fun h48 hM=>?_)
 ·cases hM
 ·refine gg 1 rfl ?_;obtain ⟨z49,e49,hM⟩:=zA4 hM;refine Rn.q rfl (V.idxSZ underlying9 rfl rfl e49) (Rn.q rfl (V.neq rfl rfl) (gg 1 rfl ?_));refine Rn.jR hm0 hM (G:=Bool) [20] (fun g=>[(2,pt b1 0),(5,Str (p4.2.1)),(7,Str (p6.1)),(8,.slice A6_1_0 (p6.2.1).length c6_1_0),(37,.bool false),(45,.bool (g))]) (fun g=>[zAr b1 42 [Str (([] : List UInt8)),.slice none 0 0,iv 0,iv 0,.bool false,iv 0,iv 0,iv 0,zAo (0 : UInt64),zAo (0 : UInt64),iv 0,zAo (0 : UInt64),iv 0,.slice none 0 0,iv 0,.slice none 0 0,iv 0],zBd 118 A6_1_0 c6_1_0 zA.rep p6.2.1]) (fun j g=>j g) ?_ ?_
  ·rintro y50 w51 hm51 hM
   try dsimp only at hM
   refine gg 1 rfl ?_;exact hk1 y50 _ _ sA (hm51.pk [0,1]) hM
  intro j2 hM hk2;refine zB hM (Rn.partD (t:=41) rfl) (fun h52 hM=>?_) (fun h52 hM=>?_)
  ·cases hM
  ·refine gg 4 rfl ?_;exact hk2 false _ _ sA (hm8.pk [0,1]) hM
theorem zNa {x0 : (List UInt8)} {x1 : Int} {r : (zA3 × Int)} (hM : zM6 x0 x1 = some r) (f0 : (slR A0 c0 zCa x0).H Z0 w) :
    Calls prog 36 #[.slice A0 (x0).length c0,iv x1] w fun x w'=>∃ F_0 b_0,x = .returned (.tuple #[pt b_0 0,iv r.2]) ∧ Hp Z0 No w w' [zA3.obj F_0 b_0 r.1]:=by
 have hm0:=Hp.nil Z0 No w;have hc0:=zD1.nil;have hm2:=hm0.know (slR A0 c0 zCa x0) (fun _ h=>h) (hm0.in0 hc0 f0);replace hc0:=hc0.snoc (r:=slR A0 c0 zCa x0) (fun _ h=>h);refine Rn.en func36 ?_;refine gg 13 rfl ?_;refine zB hM (Rn.condD rfl) (fun h3 hM=>?_) (fun h3 hM=>?_)
 ·cases hM
 ·refine gg 3 rfl (Rn.q rfl (V.lenV underlying22 rfl) (gg 1 rfl ?_));obtain ⟨z4,e4,hM⟩:=zA4 hM;refine Rn.q rfl (V.quoZ rfl rfl e4) (gg 2 rfl ?_);refine Rn.jR hm0 hM (G:=Bool) [17] (fun g=>[(0,.slice A0 (x0).length c0),(1,iv x1),(26,.bool (g))]) (fun g=>[slR A0 c0 zCa x0]) (fun j g=>j g) ?_ ?_
  ·rintro y5 w6 hm6 hM
   try dsimp only at hM
   refine gg 2 rfl ?_;refine zGt hM (Rn.condS rfl) (fun h7 hM=>?_) (fun h7 hM=>?_)
   ·cases hM
   ·refine gg 3 rfl (Rn.q rfl (V.lenV underlying22 rfl) (gg 2 rfl ?_));obtain ⟨z8,e8,hM⟩:=zA4 hM;refine Rn.q rfl (V.quoZ rfl rfl e8) (gg 3 rfl ?_);refine zB hM (Rn.condD rfl) (fun h9 hM=>?_) (fun h9 hM=>?_)
    ·cases hM
    ·refine gg 3 rfl ?_;obtain ⟨z10,e10,hM⟩:=zA4 hM;refine Rn.q rfl (V.remZ rfl rfl e10) (gg 2 rfl ?_);refine Rn.jR hm0 hM (G:=Bool) [15] (fun g=>[(0,.slice A0 (x0).length c0),(1,iv x1),(49,.bool (g))]) (fun g=>[slR A0 c0 zCa x0]) (fun j g=>j g) ?_ ?_
     ·rintro y11 w12 hm12 hM
      try dsimp only at hM
      refine gg 2 rfl ?_;refine zGt hM (Rn.condS rfl) (fun h13 hM=>?_) (fun h13 hM=>?_)
      ·cases hM
      ·refine gg 5 rfl ?_;obtain ⟨p14,e14,hM⟩:=zA4 hM
       refine Rn.c2 (cK func75) (zGi (Z0:=All) e14 (zA1 (hm12.get 0 rfl)) :) fun A14_0_0 c14_0_0 w14 hq14=>?_
       have hm16:=hm12.callF (flC (zAl zE9 _ _ _ _) fl0) hq14;refine gg 1 rfl (Rn.q rfl (V.bldS (cs:=[_,_,_]) st139 rfl rfl) (Rn.box rfl rfl rfl rfl rfl ?_));intro b17 w17 hb17 m17 e17;have hm19:=(hm16.addBox hb17 e17 m17).nf [_,_,zAr _ _ [_,_,_]] rfl;refine gg 3 rfl ?_;have hm21:=hm19.freeze 1 rfl;have hm22:=hm21.dup 1 rfl (fun _ h=>h);have hm25:=hm22.cu [0,1] [2,3];obtain ⟨F24,hm24⟩:=hm25.fold (zA3.sh b17 ({ b:=p14,n:=x1,at_:=0 } : zA3)) ⟨A14_0_0,c14_0_0,rfl⟩
       cases hM
       exact Rn.R2 func36 ⟨F24,b17,rfl,hm24.pk [2]⟩
     intro j2 hM hk2;refine zB hM (Rn.partD (t:=38) rfl) (fun h26 hM=>?_) (fun h26 hM=>?_)
     ·refine gg 2 rfl ?_;obtain ⟨z27,e27,hM⟩:=zA4 hM;refine Rn.q rfl (V.quoZ rfl rfl e27) ?_;obtain ⟨z28,e28,hM⟩:=zA4 hM;refine Rn.ixH hm6 0 rfl e28 rfl rfl rfl underlying22 sizeOf5 rfl rfl rfl rfl ?_;rintro b28 o28 vs28 ⟨rfl,_⟩ hm28;refine Rn.q rfl (V.ldR0 isAgg5 rfl (hm28.get 1 rfl).2 rfl) (gg 1 rfl ?_);obtain ⟨z30,e30,hM⟩:=zA4 hM;refine Rn.q rfl (V.remZ rfl rfl e30) (Rn.q rfl (V.cv64 underlying3 underlying137 rfl) (Rn.q rfl (V.shl8 (a:=z28) (m:=(zAe z30).toNat) rfl rfl) (Rn.q rfl (V.neq rfl rfl) (gg 1 rfl ?_))));exact hk2 (decide (((shl8 z28 ((zAe z30).toNat)).toNat : Int) ≠ 0)) _ _ sA (hm28.pk [0]) hM
     ·cases hM
  intro j1 hM hk1;refine zB hM (Rn.partD (t:=15) rfl) (fun h31 hM=>?_) (fun h31 hM=>?_)
  ·cases hM
  ·refine gg 1 rfl (Rn.q rfl (V.lenV underlying22 rfl) (gg 1 rfl ?_));obtain ⟨z32,e32,hM⟩:=zA4 hM;refine Rn.q rfl (V.quoZ rfl rfl e32) (gg 2 rfl ?_);refine Rn.jR hm0 hM (G:=Bool) [16,17] (fun g=>[(0,.slice A0 (x0).length c0),(1,iv x1),(15,.bool false),(25,.bool (g))]) (fun g=>[slR A0 c0 zCa x0]) (fun j g=>j g) ?_ ?_
   ·rintro y33 w34 hm34 hM
    try dsimp only at hM
    refine gg 1 rfl ?_;exact hk1 y33 _ _ sA (hm34.pk [0]) hM
   intro j3 hM hk3;refine zB hM (Rn.partD (t:=21) rfl) (fun h35 hM=>?_) (fun h35 hM=>?_)
   ·cases hM
   ·refine gg 4 rfl ?_;exact hk3 false _ _ sA (hm2.pk [0]) hM
theorem zOx {x0 : zA9} {r : zA9} (hM : zOj x0 = some r) (h0 : zA9.rep.rel Z0 w cs0 x0) :
    Calls prog 39 #[.agg cs0.toArray] w fun x w'=>∃ A_0_0 c_0_0 A_0_1 c_0_1 A_0_2 c_0_2,x = .returned (.agg [Str (r.Name),.slice A_0_0 (r.Attrs).length c_0_0,iv r.Kind,iv r.Temp,.bool (r.Mono),iv r.Start,iv r.Time,iv r.Int_,zAo r.Re,zAo r.Im,iv r.Hist.Scale,zAo r.Hist.Zero,iv r.Hist.Pos.Offset,.slice A_0_1 (r.Hist.Pos.Counts).length c_0_1,iv r.Hist.Neg.Offset,.slice A_0_2 (r.Hist.Neg.Counts).length c_0_2,iv r.Flags].toArray) ∧ Hp Z0 No w w' [zBd 118 A_0_0 c_0_0 zA.rep r.Attrs,zBd 35 A_0_1 c_0_1 zAp r.Hist.Pos.Counts,zBd 35 A_0_2 c_0_2 zAp r.Hist.Neg.Counts]:=by
 have hm0:=Hp.nil Z0 No w;have hc0:=zD1.nil;obtain ⟨Ar1,cr1,Ar3,cr3,Ar5,cr5,rfl,fs1,fs3,fs5⟩:=zA9.relE h0;have hm7:=hm0.know (slR Ar1 cr1 zA.rep x0.Attrs) (fun _ h=>h) (hm0.in0 hc0 fs1);replace hc0:=hc0.snoc (r:=slR Ar1 cr1 zA.rep x0.Attrs) (fun _ h=>h);have hm8:=hm7.know (slR Ar3 cr3 zAp x0.Hist.Pos.Counts) (fun _ h=>h) (hm7.in0 hc0 fs3);replace hc0:=hc0.snoc (r:=slR Ar3 cr3 zAp x0.Hist.Pos.Counts) (fun _ h=>h);have hm9:=hm8.know (slR Ar5 cr5 zAp x0.Hist.Neg.Counts) (fun _ h=>h) (hm8.in0 hc0 fs5);replace hc0:=hc0.snoc (r:=slR Ar5 cr5 zAp x0.Hist.Neg.Counts) (fun _ h=>h);refine Rn.en func39 ?_;refine gg 2 rfl (Rn.box rfl rfl rfl rfl rfl ?_);intro b10 w10 hb10 m10 e10;have hm12:=(hm9.addBox hb10 e10 m10).nf [_,_,_,zAr _ _ [_,_,_,_,_,_,_,_,_,_,_,_,_,_,_,_,_]] rfl;refine Rn.alloc rfl rfl rfl Tryz.zeroValue42 rfl ?_;intro b13 w13 hb13 m13 e13;have hm15:=(hm12.addBox hb13 e13 m13).nf [_,_,_,_,zAr _ _ [_,_,_,_,_,_,_,_,_,_,_,_,_,_,_,_,_]] rfl;refine gg 4 rfl (Rn.q rfl (V.ldB isAgg34 rfl (hm15.get 3 rfl) rfl) ?_);obtain ⟨p16,e16,hM⟩:=zA4 hM
 refine Rn.c2 (cK func89) (zF5 (Z0:=All) e16 (zA1 (hm15.get 0 rfl)) :) fun A16_0_0 c16_0_0 w16 hq16=>?_
 have hm18:=hm15.callF (flC (zAl zA.flat _ _ _ _) fl0) hq16;refine gg 1 rfl (Rn.sq rfl sizeOf34 rfl rfl (hm18.get 3 rfl) ?_);intro w19 m19 x19;have hm20:=(hm18.st 3 rfl x19 m19).nf [_,_,_,zAr _ _ [_,_,_,_,_,_,_,_,_,_,_,_,_,_,_,_,_],_,_] rfl;refine gg 4 rfl (Rn.q rfl (V.ldBA [_,_,_,_,_,_] isAgg40 sizeOf40 rfl (hm20.get 3 rfl) rfl rfl) ?_);obtain ⟨p21,e21,hM⟩:=zA4 hM;refine Rn.cq (cK func90) (zJw (Z0:=All) e21 (show zA2.rep.rel All _ _ _ from ⟨_,_,rfl,⟨rfl,trivial⟩,⟨_,_,rfl,⟨rfl,trivial⟩,⟨_,_,rfl,⟨_,_,rfl,⟨rfl,trivial⟩,⟨_,_,rfl,(zA1 (hm20.get 1 rfl)).1,(zA1 (hm20.get 1 rfl)).2.1,(zA1 (hm20.get 1 rfl)).2.2⟩⟩,⟨_,_,rfl,⟨rfl,trivial⟩,⟨_,_,rfl,(zA1 (hm20.get 2 rfl)).1,(zA1 (hm20.get 2 rfl)).2.1,(zA1 (hm20.get 2 rfl)).2.2⟩⟩⟩⟩⟩) :) ?_;rintro _ w21 ⟨A21_0_0,c21_0_0,A21_0_1,c21_0_1,rfl,hq21⟩;refine ⟨_,rfl,?_⟩;have hm24:=hm20.callF (flC (zAl zD8 _ _ _ _) (flC (zAl zD8 _ _ _ _) fl0)) hq21;refine gg 1 rfl (Rn.sq rfl sizeOf40 rfl rfl (hm24.get 3 rfl) ?_);intro w25 m25 x25;have hm26:=(hm24.st 3 rfl x25 m25).nf [_,_,_,zAr _ _ [_,_,_,_,_,_,_,_,_,_,_,_,_,_,_,_,_],_,_,_,_] rfl;refine gg 3 rfl (Rn.q rfl (V.ldBA [_,_,_,_,_,_,_,_,_,_,_,_,_,_,_,_,_] isAgg42 sizeOf42 rfl (hm26.get 3 rfl) rfl rfl) (Rn.sq rfl sizeOf42 rfl rfl (hm26.get 4 rfl) ?_));intro w27 m27 x27;have hm28:=(hm26.st 4 rfl x27 m27).nf [_,_,_,_,zAr _ _ [_,_,_,_,_,_,_,_,_,_,_,_,_,_,_,_,_],_,_,_] rfl;refine gg 1 rfl ?_;refine Rn.retG1 func39 rfl (rvC rfl isAgg42 sizeOf42 (hm28.get 4 rfl) rfl) ?_;obtain rfl:=zFu hM;exact ⟨A16_0_0,c16_0_0,A21_0_0,c21_0_0,A21_0_1,c21_0_1,rfl,hm28.pk [5,6,7]⟩
theorem zF2 {x0 : zA3} {r : Int} (hM : zFe x0 = some r) (f0 : (fzR (zA3.obj F0 b0 x0)).H Z0 w) :
    Calls prog 40 #[pt b0 0] w fun x w'=>x = .returned (iv r) ∧ Hp Z0 No w w' []:=by
 have hm0:=Hp.nil Z0 No w;have hc0:=zD1.nil;have hm2:=hm0.know (fzR (zA3.obj F0 b0 x0)) (fun _ h=>h) (hm0.in0 hc0 f0);replace hc0:=hc0.snoc (r:=fzR (zA3.obj F0 b0 x0)) (fun _ h=>h);refine Rn.en func40 ?_;refine gg 5 rfl ?_;obtain ⟨_,⟨A4_0,c4_0,rfl⟩,hm4⟩:=hm2.unfz 0 rfl;replace hm4:=hm4.nq;have hm8:=hm4.fzS 2 rfl;refine Rn.drawP rfl hm8 ?_;intro w3 hm3;refine dq [0,1,2] ?_;refine RH.takeP 3 (by kernel_rfl) rfl rfl rfl rfl (V.ldB isAgg3 rfl (hm3.getz 1 rfl) rfl) ?_;refine dq [4,5,6] ?_;refine RH.takeP 7 (by kernel_rfl) rfl rfl rfl rfl (V.ldB isAgg3 rfl (hm3.getz 1 rfl) rfl) ?_;refine dq [8,9] ?_;refine RH.doneP (by kernel_rfl) ?_
 cases hM
 exact Rn.R1 func40 ⟨rfl,hm3.pk []⟩
theorem zGr {x0 : zA3} {x1 : Int} {r : (UInt64 × Bool)} (hM : zGs x0 x1 = some r) (f0 : (fzR (zA3.obj F0 b0 x0)).H Z0 w) :
    Calls prog 194 #[pt b0 0,iv x1] w fun x w'=>x = .returned (.tuple #[zAo r.1,.bool (r.2)]) ∧ Hp Z0 No w w' []:=by
 have hm0:=Hp.nil Z0 No w;have hc0:=zD1.nil;have hm2:=hm0.know (fzR (zA3.obj F0 b0 x0)) (fun _ h=>h) (hm0.in0 hc0 f0);replace hc0:=hc0.snoc (r:=fzR (zA3.obj F0 b0 x0)) (fun _ h=>h);refine Rn.en func194 ?_;refine gg 11 rfl ?_;refine Rn.cutR [6,7,8,9,10,11] [(0,pt b0 0),(1,iv x1),(16,.bool (decide ((x1 < 0) ∨ (x1 > 64))))] (fun hk3=>?_) ?_
 ·refine Rn.partD (t:=13) rfl (fun h4=>?_) (fun h4=>?_)
  ·refine gg 3 rfl ?_;exact hk3 _ sA
  ·refine gg 3 rfl ?_;exact hk3 _ sA
 refine gg 1 rfl ?_;refine Rn.jR hm0 hM (G:=Bool) [] (fun g=>[(0,pt b0 0),(1,iv x1),(22,.bool (g))]) (fun g=>[fzR (zA3.obj F0 b0 x0)]) (fun j g=>j g) ?_ ?_
 ·rintro y5 w6 hm6 hM
  try dsimp only at hM
  refine gg 1 rfl ?_;refine zGt hM (Rn.condS rfl) (fun h7 hM=>?_) (fun h7 hM=>?_)
  ·cases hM
  ·refine gg 11 rfl ?_;obtain ⟨_,⟨A8_0,c8_0,rfl⟩,hm8⟩:=hm6.unfz 0 rfl;replace hm8:=hm8.nq;have hm12:=hm8.fzS 2 rfl;refine Rn.q rfl (V.ldB isAgg3 rfl (hm12.getz 1 rfl) rfl) (gg 2 rfl ?_);refine Rn.jG hm0 hM (G:=UInt64) (fun g=>[(6,zAo g)]) (fun g=>[]) (fun j g=>j g) ?_ ?_
   ·rintro y13 w14 hm14 hM
    try dsimp only at hM
    refine gg 6 rfl ?_
    cases hM
    exact Rn.R2 func194 ⟨rfl,hm14.pk []⟩
   intro j2 hM hk2;refine gg 1 rfl ?_;refine Rn.loopF (G:=Int × UInt64 × Int) (fun g=>[(0,pt b0 0),(1,iv (g.1)),(6,zAo (g.2.1)),(7,iv (g.2.2))]) (fun g w'=>Hp Z0 No w w' [fzR (zA3.obj F0 b0 x0),fzR (zAr b0 139 [.slice A8_0 (x0.b).length c8_0,iv x0.n,iv x0.at_]),slR A8_0 c8_0 zCa x0.b]) (fun n g=>zE7 x0 j2 n g.1 g.2.1 g.2.2) fuel (x1,(0 : UInt64),x0.at_) sA (hm12.pk [0,1,3]) hM (fun _=>rfl) ?_;clear hM;rintro m18 ⟨y15,y16,y17⟩ w18 hm18 hM hn18;replace hM : zE7 x0 j2 (m18 + 1) y15 y16 y17 = some r:=hM;rw [zE7] at hM;refine gg 6 rfl ?_;refine zB hM (Rn.condD rfl) (fun h19 hM=>?_) (fun h19 hM=>?_)
   ·refine gg 5 rfl ?_;obtain ⟨z20,e20,hM⟩:=zA4 hM;refine Rn.q rfl (V.remZ rfl rfl e20) (gg 7 rfl (Rn.q rfl (V.mini rfl rfl) (gg 7 rfl (Rn.q rfl (V.ldB isAgg22 rfl (hm18.getz 1 rfl) rfl) (gg 1 rfl ?_)))));obtain ⟨z21,e21,hM⟩:=zA4 hM;refine Rn.q rfl (V.quoZ rfl rfl e21) ?_;obtain ⟨z22,e22,hM⟩:=zA4 hM;refine Rn.ixH hm18 2 rfl e22 rfl rfl rfl underlying22 sizeOf5 rfl rfl rfl rfl ?_;rintro b22 o22 vs22 ⟨rfl,_⟩ hm22;refine Rn.q rfl (V.ldR0 isAgg5 rfl (hm22.get 3 rfl).2 rfl) (gg 3 rfl (Rn.q rfl (V.cv64 underlying3 underlying137 rfl) (Rn.q rfl (V.shr8 (a:=z22) (m:=(zAe (W64 ((W64 (8 - z20)) - (min y15 (W64 (8 - z20)))))).toNat) rfl rfl) (gg 1 rfl (Rn.q rfl (V.cv64 underlying3 underlying137 rfl) (Rn.q rfl (V.shl8 (a:=(1 : UInt8)) (m:=(zAe (min y15 (W64 (8 - z20)))).toNat) rfl rfl) (Rn.q rfl (V.ari8 (a:=shl8 (1 : UInt8) ((zAe (min y15 (W64 (8 - z20)))).toNat)) (b:=(1 : UInt8)) rfl rfl _ rfl (zX0 _ _)) (Rn.q rfl (V.and8 (a:=shr8 z22 ((zAe (W64 ((W64 (8 - z20)) - (min y15 (W64 (8 - z20)))))).toNat)) (b:=(shl8 (1 : UInt8) ((zAe (min y15 (W64 (8 - z20)))).toNat)) - (1 : UInt8)) rfl rfl) (gg 6 rfl (Rn.q rfl (V.cv64 underlying3 underlying137 rfl) (Rn.q rfl (V.shl64 (a:=y16) (m:=(zAe (min y15 (W64 (8 - z20)))).toNat) rfl rfl) (gg 1 rfl (Rn.q rfl (V.cv64 underlying5 underlying35 rfl) (Rn.q rfl (V.o64 rfl rfl (shl64 y16 ((zAe (min y15 (W64 (8 - z20)))).toNat)) (zAe (((shr8 z22 ((zAe (W64 ((W64 (8 - z20)) - (min y15 (W64 (8 - z20)))))).toNat)) &&& ((shl8 (1 : UInt8) ((zAe (min y15 (W64 (8 - z20)))).toNat)) - (1 : UInt8))).toNat : Int)) rfl rfl (zYx _ _ _)) (gg 16 rfl ?_)))))))))))))));exact hn18 ((W64 (y15 - (min y15 (W64 (8 - z20))))),((shl64 y16 ((zAe (min y15 (W64 (8 - z20)))).toNat)) ||| (zAe (((shr8 z22 ((zAe (W64 ((W64 (8 - z20)) - (min y15 (W64 (8 - z20)))))).toNat)) &&& ((shl8 (1 : UInt8) ((zAe (min y15 (W64 (8 - z20)))).toNat)) - (1 : UInt8))).toNat : Int))),(W64 (y17 + (min y15 (W64 (8 - z20)))))) _ _ sA (hm22.pk [0,1,2]) hM
   ·refine gg 1 rfl ?_;exact hk2 y16 _ _ sA (hm18.pk []) hM
 intro j1 hM hk1;refine zB hM (Rn.partD (t:=17) rfl) (fun h24 hM=>?_) (fun h24 hM=>?_)
 ·cases hM
 ·refine gg 2 rfl ?_;obtain ⟨p25,e25,hM⟩:=zA4 hM
  refine Rn.c0 (cK func40) (zF2 (Z0:=All) e25 (zSp (hm2.get 0 rfl)) :) hm2 fun w25 _ hm26=>?_
  refine gg 2 rfl ?_;exact hk1 (decide (x1 > p25)) _ _ sA (hm26.pk [0]) hM
theorem m_bitio_Reader_Skip_sim {x0 : zA3} {x1 : Int} {r : (Bool × zA3)} (hM : zI6 x0 x1 = some r) (hL : zK8 Z0 w [zA3.obj F0 b0 x0]) :
    Calls prog 145 #[pt b0 0,iv x1] w fun x w'=>∃ F_p0,x = .returned (.bool (r.1)) ∧ Hp Z0 (LS [zA3.obj F0 b0 x0]) w w' [zA3.obj F_p0 b0 r.2]:=by
 have hm0:=hL.start;refine Rn.en func145 ?_;refine gg 10 rfl ?_;refine Rn.jR hm0 hM (G:=Bool × (Nat → Prop)) [] (fun g=>[(0,pt b0 0),(1,iv x1),(12,.bool ((g.1)))]) (fun g=>[zA3.obj (g.2) b0 x0]) (fun j g=>j g.1) ?_ ?_
 ·rintro ⟨y3,F2⟩ w4 hm4 hM
  try dsimp only at hM
  refine gg 1 rfl ?_;refine zGt hM (Rn.condS rfl) (fun h5 hM=>?_) (fun h5 hM=>?_)
  ·cases hM
  ·refine gg 6 rfl ?_;obtain ⟨_,⟨A6_0,c6_0,rfl⟩,hm6⟩:=hm4.unf 0 rfl;replace hm6:=hm6.nq;refine Rn.q rfl (V.ldB isAgg3 rfl (hm6.get 0 rfl) rfl) (gg 4 rfl (Rn.sq rfl sizeOf3 rfl rfl (hm6.get 0 rfl) ?_));intro w8 m8 x8;have hm9:=(hm6.st 0 rfl x8 m8).nf [zAr _ _ [_,_,_],_] rfl;refine gg 5 rfl ?_;have hm10:=hm9.dup 1 rfl (fun _ h=>h);have hm13:=hm10.cu [1] [0,2];obtain ⟨F12,hm12⟩:=hm13.fold (zA3.sh b0 ({ b:=x0.b,n:=x0.n,at_:=W64 (x0.at_ + x1) } : zA3)) ⟨A6_0,c6_0,rfl⟩
   cases hM
   exact Rn.R1 func145 ⟨F12,rfl,hm12.pk [1]⟩
 intro j1 hM hk1;refine zB hM (Rn.partD (t:=7) rfl) (fun h14 hM=>?_) (fun h14 hM=>?_)
 ·cases hM
 ·refine gg 2 rfl ?_;obtain ⟨p15,e15,hM⟩:=zA4 hM
  refine Rn.c0 (cK func40) (zF2 (Z0:=All) e15 (zD7 (hm0.get 0 rfl)) :) hm0 fun w15 _ hm16=>?_
  refine gg 2 rfl ?_;exact hk1 ((decide (x1 > p15)),F0) _ _ sA (hm16.pk [0]) hM
theorem m_vary_Get_sim {x0 : zA3} {r : (UInt64 × Int × zA3)} (hM : zOu x0 = some r) (hL : zK8 Z0 w [zA3.obj F0 b0 x0]) :
    Calls prog 135 #[pt b0 0] w fun x w'=>∃ F_p0,x = .returned (.tuple #[zAo r.1,iv r.2.1]) ∧ Hp Z0 (LS [zA3.obj F0 b0 x0]) w w' [zA3.obj F_p0 b0 r.2.2]:=by
 have hm0:=hL.start;refine Rn.en func135 ?_;refine gg 8 rfl ?_;obtain ⟨p2,e2,hM⟩:=zA4 hM
 refine Rn.c0 (cK func194) (zGr (Z0:=All) e2 (zD7 (hm0.get 0 rfl)) :) hm0 fun w2 _ hm3=>?_
 refine gg 10 rfl (Rn.q rfl (V.notB rfl) (gg 1 rfl ?_));refine zGt hM (Rn.condS rfl) (fun h4 hM=>?_) (fun h4 hM=>?_)
 ·cases hM
 ·refine gg 3 rfl ?_;obtain ⟨p5,e5,hM⟩:=zA4 hM
  refine Rn.c0 (cK func180) (zJp (Z0:=All) e5  :) hm3 fun w5 _ hm6=>?_
  refine gg 1 rfl ?_;obtain ⟨z7,e7,hM⟩:=zA4 hM;refine Rn.q rfl (V.arE1 zY5 isAgg3 rfl rfl (zQe e7 rfl) (zQd (fun x : Int=>(.int .i64 x : Value)) e7)) (gg 8 rfl ?_);obtain ⟨p8,e8,hM⟩:=zA4 hM
  refine Rn.c0 (cK func40) (zF2 (Z0:=All) e8 (zD7 (hm6.get 0 rfl)) :) hm6 fun w8 _ hm9=>?_
  refine gg 2 rfl ?_;refine zB hM (Rn.condD rfl) (fun h10 hM=>?_) (fun h10 hM=>?_)
  ·cases hM
  ·refine gg 6 rfl (Rn.q rfl (V.mini rfl rfl) ?_);obtain ⟨p11,e11,hM⟩:=zA4 hM
   refine Rn.c0 (cK func194) (zGr (Z0:=All) e11 (zD7 (hm9.get 0 rfl)) :) hm9 fun w11 _ hm12=>?_
   refine gg 12 rfl ?_;refine zB hM (Rn.condD rfl) (fun h13 hM=>?_) (fun h13 hM=>?_)
   ·refine gg 3 rfl (Rn.q rfl (V.cv64 underlying3 underlying137 rfl) (Rn.q rfl (V.shl64 (a:=(1 : UInt64)) (m:=(zAe z7).toNat) rfl rfl) (Rn.q rfl (V.ari64 (a:=shl64 (1 : UInt64) ((zAe z7).toNat)) (b:=(1 : UInt64)) rfl rfl _ rfl (zH4 _ _)) (Rn.q rfl (V.o64 rfl rfl p11.1 ((shl64 (1 : UInt64) ((zAe z7).toNat)) - (1 : UInt64)) rfl rfl (zQj _ _ _)) (gg 6 rfl ?_)))));obtain ⟨p14,e14,hM⟩:=zA4 hM
    refine Rn.c0 (cK func179) (zMm (Z0:=All) e14  :) hm12 fun w14 _ hm15=>?_
    refine gg 1 rfl (Rn.q rfl (V.cvW underlying35 underlying3 rfl) (gg 2 rfl ?_));refine zB hM (Rn.condD rfl) (fun h16 hM=>?_) (fun h16 hM=>?_)
    ·cases hM
    ·refine gg 6 rfl ?_;obtain ⟨p17,e17,hM⟩:=zA4 hM;have hm18:=hm15.cu [] [0]
     refine Rn.c1 (cK func145) (m_bitio_Reader_Skip_sim e17 hm18.lend :) fun F17_p0 w17 hq17=>?_
     have hm20:=hm18.callAZ hq17;refine gg 7 rfl ?_
     cases hM
     exact Rn.R2 func135 ⟨F17_p0,rfl,hm20.pk [0]⟩
   ·cases hM
theorem zQo {x0 : UInt64} {r : Int} (hM : zR1 x0 = some r)  :
    Calls prog 224 #[zAo x0] w fun x w'=>x = .returned (iv r) ∧ Hp Z0 No w w' []:=by
 have hm0:=Hp.nil Z0 No w;have hc0:=zD1.nil;refine Rn.en func224 ?_;refine gg 7 rfl (Rn.q rfl (V.sh64 rfl rfl _ 1 rfl rfl (zMh _ _ _ 1 (by decide))) (Rn.q rfl (V.cvW underlying35 underlying3 rfl) (gg 1 rfl (Rn.q rfl (V.o64 rfl rfl x0 (1 : UInt64) rfl rfl (zQj _ _ _)) (Rn.q rfl (V.cvW underlying35 underlying3 rfl) (Rn.q rfl (V.negI rfl) (Rn.q rfl (V.xorZ rfl rfl) (gg 2 rfl ?_))))))))
 cases hM
 exact Rn.R1 func224 ⟨rfl,hm0.pk []⟩
theorem m_vary_GetInt_sim {x0 : zA3} {r : (Int × Int × zA3)} (hM : zOi x0 = some r) (hL : zK8 Z0 w [zA3.obj F0 b0 x0]) :
    Calls prog 192 #[pt b0 0] w fun x w'=>∃ F_p0,x = .returned (.tuple #[iv r.1,iv r.2.1]) ∧ Hp Z0 (LS [zA3.obj F0 b0 x0]) w w' [zA3.obj F_p0 b0 r.2.2]:=by
 have hm0:=hL.start;refine Rn.en func192 ?_;refine gg 8 rfl ?_;obtain ⟨p2,e2,hM⟩:=zA4 hM;have hm3:=hm0.cu [] [0]
 refine Rn.c1 (cK func135) (m_vary_Get_sim e2 hm3.lend :) fun F2_p0 w2 hq2=>?_
 have hm5:=hm3.callAZ hq2;refine gg 9 rfl ?_;obtain ⟨p6,e6,hM⟩:=zA4 hM
 refine Rn.c0 (cK func224) (zQo (Z0:=All) e6  :) hm5 fun w6 _ hm7=>?_
 refine gg 4 rfl ?_
 cases hM
 exact Rn.R2 func192 ⟨F2_p0,rfl,hm7.pk [0]⟩
theorem m_vary_Row_Get_sim {x0 : zA5} {x1 : zA3} {r : (Int × Int × zA3 × zA5)} (hM : zO0 x0 x1 = some r) (hL : zK8 Z0 w [zAr b0 186 [iv x0.n,zAo x0.last,zAo x0.step],zA3.obj F1 b1 x1]) :
    Calls prog 134 #[pt b0 0,pt b1 0] w fun x w'=>∃ F_p1,x = .returned (.tuple #[iv r.1,iv r.2.1]) ∧ Hp Z0 (LS [zAr b0 186 [iv x0.n,zAo x0.last,zAo x0.step],zA3.obj F1 b1 x1]) w w' [zA3.obj F_p1 b1 r.2.2.1,zAr b0 186 [iv r.2.2.2.n,zAo r.2.2.2.last,zAo r.2.2.2.step]]:=by
 have hm0:=hL.start;refine Rn.en func134 ?_;refine gg 15 rfl (Rn.q rfl (V.ldB isAgg3 rfl (hm0.get 0 rfl) rfl) (gg 2 rfl ?_));refine zB hM (Rn.condD rfl) (fun h3 hM=>?_) (fun h3 hM=>?_)
 ·refine gg 3 rfl ?_;obtain ⟨p4,e4,hM⟩:=zA4 hM;have hm5:=hm0.cu [0] [1]
  refine Rn.c1 (cK func192) (m_vary_GetInt_sim e4 hm5.lend :) fun F4_p0 w4 hq4=>?_
  have hm7:=hm5.callAZ hq4;refine gg 12 rfl ?_;refine zB hM (Rn.condD rfl) (fun h8 hM=>?_) (fun h8 hM=>?_)
  ·cases hM
  ·refine gg 5 rfl (Rn.q rfl (V.ldB isAgg35 rfl (hm7.get 0 rfl) rfl) (gg 1 rfl (Rn.q rfl (V.cv64 underlying3 underlying35 rfl) (Rn.q rfl (V.ari64 (a:=x0.last) (b:=zAe p4.1) rfl rfl _ rfl (zOc _ _)) (gg 6 rfl ?_)))));obtain ⟨p9,e9,hM⟩:=zA4 hM;have hm10:=hm7.cu [1] [0];refine Rn.cq (cK func178) (m_vary_Row_follow_sim e9 hm10.lend :) ?_;rintro _ w9 ⟨rfl,hq9⟩;refine ⟨_,rfl,?_⟩;have hm12:=hm10.callAZ hq9;refine gg 4 rfl (Rn.q rfl (V.cvW underlying35 underlying3 rfl) (gg 3 rfl ?_))
   cases hM
   exact Rn.R2 func134 ⟨F4_p0,rfl,hm12.pk [0,1]⟩
 ·cases hM
theorem m_chunk_in_int_sim {p0_0 : Nat} {x0 : zAf} {x1 : Int} {x2 : Int} {r : (Int × zAf)} (hM : zO1 x0 x1 x2 = some r) (hL : zK8 Z0 w [zAf.obj F0 b0 p0_0 x0]) :
    Calls prog 88 #[pt b0 0,iv x1,iv x2] w fun x w'=>∃ F_p0,x = .returned (iv r.1) ∧ Hp Z0 (LS [zAf.obj F0 b0 p0_0 x0]) w w' [zAf.obj F_p0 b0 p0_0 r.2]:=by
 have hm0:=hL.start;refine Rn.en func88 ?_;refine gg 10 rfl ?_;obtain ⟨_,⟨F2_0,F2_1,b2_1,F2_2,b2_2,F2_3,b2_3,F2_4,b2_4,F2_5,b2_5,F2_6,b2_6,F2_7,b2_7,rfl⟩,hm2⟩:=hm0.unf 0 rfl;replace hm2:=hm2.nq;refine Rn.q rfl (V.ldB isAgg25 rfl (hm2.get 0 rfl) rfl) (gg 2 rfl ?_);refine zB hM (Rn.condD rfl) (fun h11 hM=>?_) (fun h11 hM=>?_)
 ·refine gg 5 rfl (Rn.sq rfl sizeOf25 rfl rfl (hm2.get 0 rfl) ?_);intro w12 m12 x12;have hm13:=(hm2.st 0 rfl x12 m12).nf [zAr _ _ [_,_,_,_,_,_,_,_,_],_,_,_,_,_,_,_,_] rfl;refine gg 6 rfl ?_;have hm15:=hm13.cu [] [0,1,2,3,4,5,6,7,8];obtain ⟨F14,hm14⟩:=hm15.fold (zAf.sh b0 p0_0 ({ r:=x0.r,rows:=x0.rows,e:=x2 } : zAf)) ⟨F2_0,F2_1,b2_1,F2_2,b2_2,F2_3,b2_3,F2_4,b2_4,F2_5,b2_5,F2_6,b2_6,F2_7,b2_7,rfl⟩
  cases hM
  exact Rn.R1 func88 ⟨F14,rfl,hm14.pk [0]⟩
 ·cases hM
theorem m_chunk_in_int_s2_sim {v0_r : Value} {v0_rows_ords : Value} {v0_rows_times : Value} {v0_rows_spans : Value} {v0_rows_ints : Value} {v0_rows_re : Value} {v0_rows_im : Value} {v0_rows_hists : Value} {x0_e : Int} {x1 : Int} {x2 : Int} {r : (Int × Int)} (hM : zM4 x0_e x1 x2 = some r) (hL : zK8 Z0 w [zAr b0 83 [v0_r,v0_rows_ords,v0_rows_times,v0_rows_spans,v0_rows_ints,v0_rows_re,v0_rows_im,v0_rows_hists,iv x0_e]]) :
    Calls prog 88 #[pt b0 0,iv x1,iv x2] w fun x w'=>x = .returned (iv r.1) ∧ Hp Z0 (LS [zAr b0 83 [v0_r,v0_rows_ords,v0_rows_times,v0_rows_spans,v0_rows_ints,v0_rows_re,v0_rows_im,v0_rows_hists,iv x0_e]]) w w' [zAr b0 83 [v0_r,v0_rows_ords,v0_rows_times,v0_rows_spans,v0_rows_ints,v0_rows_re,v0_rows_im,v0_rows_hists,iv r.2]]:=by
 have hm0:=hL.start;refine Rn.en func88 ?_;refine gg 10 rfl (Rn.q rfl (V.ldB isAgg25 rfl (hm0.get 0 rfl) rfl) (gg 2 rfl ?_));refine zB hM (Rn.condD rfl) (fun h2 hM=>?_) (fun h2 hM=>?_)
 ·refine gg 5 rfl (Rn.sq rfl sizeOf25 rfl rfl (hm0.get 0 rfl) ?_);intro w3 m3 x3;have hm4:=(hm0.st 0 rfl x3 m3).nf [zAr _ _ [_,_,_,_,_,_,_,_,_]] rfl;refine gg 6 rfl ?_
  cases hM
  exact Rn.R1 func88 ⟨rfl,hm4.pk [0]⟩
 ·cases hM
theorem m_chunk_reader_row_s2_sim {F0_r : Nat → Prop} {b0_r : Nat} {x0_r : zA3} {v0_rows_ords : Value} {v0_rows_times : Value} {v0_rows_spans : Value} {v0_rows_ints : Value} {v0_rows_re : Value} {v0_rows_im : Value} {v0_rows_hists : Value} {x0_e : Int} {x1 : zA5} {r : (Int × zA3 × Int × zA5)} (hM : zHc x0_r x0_e x1 = some r) (hL : zK8 Z0 w [zAr b0 83 [pt b0_r 0,v0_rows_ords,v0_rows_times,v0_rows_spans,v0_rows_ints,v0_rows_re,v0_rows_im,v0_rows_hists,iv x0_e],zA3.obj F0_r b0_r x0_r,zAr b1 186 [iv x1.n,zAo x1.last,zAo x1.step]]) :
    Calls prog 82 #[pt b0 0,pt b1 0] w fun x w'=>∃ F_p0_r,x = .returned (iv r.1) ∧ Hp Z0 (LS [zAr b0 83 [pt b0_r 0,v0_rows_ords,v0_rows_times,v0_rows_spans,v0_rows_ints,v0_rows_re,v0_rows_im,v0_rows_hists,iv x0_e],zA3.obj F0_r b0_r x0_r,zAr b1 186 [iv x1.n,zAo x1.last,zAo x1.step]]) w w' [zA3.obj F_p0_r b0_r r.2.1,zAr b1 186 [iv r.2.2.2.n,zAo r.2.2.2.last,zAo r.2.2.2.step],zAr b0 83 [pt b0_r 0,v0_rows_ords,v0_rows_times,v0_rows_spans,v0_rows_ints,v0_rows_re,v0_rows_im,v0_rows_hists,iv r.2.2.1]]:=by
 have hm0:=hL.start;refine Rn.en func82 ?_;refine gg 10 rfl (Rn.q rfl (V.ldB isAgg25 rfl (hm0.get 0 rfl) rfl) (gg 2 rfl ?_));refine zB hM (Rn.condD rfl) (fun h4 hM=>?_) (fun h4 hM=>?_)
 ·cases hM
 ·refine gg 7 rfl (Rn.q rfl (V.ldB isAgg72 rfl (hm0.get 0 rfl) rfl) ?_);obtain ⟨p5,e5,hM⟩:=zA4 hM;have hm6:=hm0.cu [0] [2,1]
  refine Rn.c1 (cK func134) (m_vary_Row_Get_sim e5 hm6.lend :) fun F5_p1 w5 hq5=>?_
  have hm9:=hm6.callAZ hq5;refine gg 11 rfl ?_;obtain ⟨p10,e10,hM⟩:=zA4 hM;have hm11:=hm9.cu [1,2] [0];refine Rn.cq (cK func88) (m_chunk_in_int_s2_sim e10 hm11.lend :) ?_;rintro _ w10 ⟨rfl,hq10⟩;refine ⟨_,rfl,?_⟩;have hm13:=hm11.callAZ hq10;refine gg 2 rfl ?_
  cases hM
  exact Rn.R1 func82 ⟨F5_p1,rfl,hm13.pk [0,1,2]⟩
theorem m_chunk_in_uint64_sim {p0_0 : Nat} {x0 : zAf} {x1 : UInt64} {x2 : Int} {r : (UInt64 × zAf)} (hM : zM3 x0 x1 x2 = some r) (hL : zK8 Z0 w [zAf.obj F0 b0 p0_0 x0]) :
    Calls prog 136 #[pt b0 0,zAo x1,iv x2] w fun x w'=>∃ F_p0,x = .returned (zAo r.1) ∧ Hp Z0 (LS [zAf.obj F0 b0 p0_0 x0]) w w' [zAf.obj F_p0 b0 p0_0 r.2]:=by
 have hm0:=hL.start;refine Rn.en func136 ?_;refine gg 10 rfl ?_;obtain ⟨_,⟨F2_0,F2_1,b2_1,F2_2,b2_2,F2_3,b2_3,F2_4,b2_4,F2_5,b2_5,F2_6,b2_6,F2_7,b2_7,rfl⟩,hm2⟩:=hm0.unf 0 rfl;replace hm2:=hm2.nq;refine Rn.q rfl (V.ldB isAgg25 rfl (hm2.get 0 rfl) rfl) (gg 2 rfl ?_);refine zB hM (Rn.condD rfl) (fun h11 hM=>?_) (fun h11 hM=>?_)
 ·refine gg 5 rfl (Rn.sq rfl sizeOf25 rfl rfl (hm2.get 0 rfl) ?_);intro w12 m12 x12;have hm13:=(hm2.st 0 rfl x12 m12).nf [zAr _ _ [_,_,_,_,_,_,_,_,_],_,_,_,_,_,_,_,_] rfl;refine gg 6 rfl ?_;have hm15:=hm13.cu [] [0,1,2,3,4,5,6,7,8];obtain ⟨F14,hm14⟩:=hm15.fold (zAf.sh b0 p0_0 ({ r:=x0.r,rows:=x0.rows,e:=x2 } : zAf)) ⟨F2_0,F2_1,b2_1,F2_2,b2_2,F2_3,b2_3,F2_4,b2_4,F2_5,b2_5,F2_6,b2_6,F2_7,b2_7,rfl⟩
  cases hM
  exact Rn.R1 func136 ⟨F14,rfl,hm14.pk [0]⟩
 ·cases hM
theorem m_chunk_reader_flags_sim {p0_0 : Nat} {x0 : zAf} {r : (UInt64 × zAf)} (hM : zJy x0 = some r) (hL : zK8 Z0 w [zAf.obj F0 b0 p0_0 x0]) :
    Calls prog 83 #[pt b0 0] w fun x w'=>∃ F_p0,x = .returned (zAo r.1) ∧ Hp Z0 (LS [zAf.obj F0 b0 p0_0 x0]) w w' [zAf.obj F_p0 b0 p0_0 r.2]:=by
 have hm0:=hL.start;refine Rn.en func83 ?_;refine gg 10 rfl ?_;obtain ⟨_,⟨F2_0,F2_1,b2_1,F2_2,b2_2,F2_3,b2_3,F2_4,b2_4,F2_5,b2_5,F2_6,b2_6,F2_7,b2_7,rfl⟩,hm2⟩:=hm0.unf 0 rfl;replace hm2:=hm2.nq;refine Rn.q rfl (V.ldB isAgg25 rfl (hm2.get 0 rfl) rfl) (gg 2 rfl ?_);refine zB hM (Rn.condD rfl) (fun h11 hM=>?_) (fun h11 hM=>?_)
 ·cases hM
 ·refine gg 6 rfl (Rn.q rfl (V.ldB isAgg72 rfl (hm2.get 0 rfl) rfl) ?_);obtain ⟨p12,e12,hM⟩:=zA4 hM;have hm13:=hm2.cu [0,2,3,4,5,6,7,8] [1]
  refine Rn.c1 (cK func135) (m_vary_Get_sim e12 hm13.lend :) fun F12_p0 w12 hq12=>?_
  have hm15:=hm13.callAZ hq12;refine gg 11 rfl ?_;have hm18:=hm15.cu [] [0,8,1,2,3,4,5,6,7];obtain ⟨F17,hm17⟩:=hm18.fold (zAf.sh b0 p0_0 ({ r:=p12.2.2,rows:=x0.rows,e:=x0.e } : zAf)) ⟨F12_p0,F2_1,b2_1,F2_2,b2_2,F2_3,b2_3,F2_4,b2_4,F2_5,b2_5,F2_6,b2_6,F2_7,b2_7,rfl⟩;obtain ⟨p16,e16,hM⟩:=zA4 hM;have hm19:=hm17.cu [] [0]
  refine Rn.c1 (cK func136) (m_chunk_in_uint64_sim e16 hm19.lend :) fun F16_p0 w16 hq16=>?_
  have hm21:=hm19.callAZ hq16;refine gg 2 rfl ?_
  cases hM
  exact Rn.R1 func83 ⟨F16_p0,rfl,hm21.pk [0]⟩
theorem m_bitio_Reader_Take_sim {x0 : zA3} {x1 : Int} {r : (UInt64 × Bool × zA3)} (hM : zKs x0 x1 = some r) (hL : zK8 Z0 w [zA3.obj F0 b0 x0]) :
    Calls prog 196 #[pt b0 0,iv x1] w fun x w'=>∃ F_p0,x = .returned (.tuple #[zAo r.1,.bool (r.2.1)]) ∧ Hp Z0 (LS [zA3.obj F0 b0 x0]) w w' [zA3.obj F_p0 b0 r.2.2]:=by
 have hm0:=hL.start;refine Rn.en func196 ?_;refine gg 9 rfl ?_;obtain ⟨p2,e2,hM⟩:=zA4 hM
 refine Rn.c0 (cK func194) (zGr (Z0:=All) e2 (zD7 (hm0.get 0 rfl)) :) hm0 fun w2 _ hm3=>?_
 refine gg 11 rfl ?_;refine zGt hM (Rn.condS rfl) (fun h4 hM=>?_) (fun h4 hM=>?_)
 ·refine gg 4 rfl ?_;obtain ⟨_,⟨A5_0,c5_0,rfl⟩,hm5⟩:=hm3.unf 0 rfl;replace hm5:=hm5.nq;refine Rn.q rfl (V.ldB isAgg3 rfl (hm5.get 0 rfl) rfl) (gg 4 rfl (Rn.sq rfl sizeOf3 rfl rfl (hm5.get 0 rfl) ?_));intro w7 m7 x7;have hm8:=(hm5.st 0 rfl x7 m7).nf [zAr _ _ [_,_,_],_] rfl;refine gg 8 rfl ?_;have hm9:=hm8.dup 1 rfl (fun _ h=>h);have hm12:=hm9.cu [1] [0,2];obtain ⟨F11,hm11⟩:=hm12.fold (zA3.sh b0 ({ b:=x0.b,n:=x0.n,at_:=W64 (x0.at_ + x1) } : zA3)) ⟨A5_0,c5_0,rfl⟩
  cases hM
  exact Rn.R2 func196 ⟨F11,rfl,hm11.pk [1]⟩
 ·cases hM
theorem m_xor_take_sim {x0 : zA3} {x1 : Int} {x2 : Int} {r : (UInt64 × zA3 × Int)} (hM : zI9 x0 x1 x2 = some r) (hL : zK8 Z0 w [zA3.obj F0 b0 x0,zAr b1 25 [iv x1]]) :
    Calls prog 225 #[pt b0 0,pt b1 0,iv x2] w fun x w'=>∃ F_p0,x = .returned (zAo r.1) ∧ Hp Z0 (LS [zA3.obj F0 b0 x0,zAr b1 25 [iv x1]]) w w' [zA3.obj F_p0 b0 r.2.1,zAr b1 25 [iv r.2.2]]:=by
 have hm0:=hL.start;refine Rn.en func225 ?_;refine gg 8 rfl ?_;obtain ⟨p3,e3,hM⟩:=zA4 hM;have hm4:=hm0.cu [1] [0]
 refine Rn.c1 (cK func196) (m_bitio_Reader_Take_sim e3 hm4.lend :) fun F3_p0 w3 hq3=>?_
 have hm6:=hm4.callAZ hq3;refine gg 10 rfl (Rn.q rfl (V.notB rfl) (gg 1 rfl ?_));refine Rn.cutR [] [(1,pt b1 0),(7,zAo p3.1),(22,.bool (decide (((!p3.2.1) = true) ∧ (x1 = 0))))] (fun hk7=>?_) ?_
 ·refine Rn.part (t:=17) rfl (fun h8=>?_) (fun h8=>?_)
  ·refine gg 2 rfl (Rn.q rfl (V.ldB isAgg25 rfl (hm6.get 0 rfl) rfl) (gg 2 rfl ?_));exact hk7 _ sA
  ·refine gg 5 rfl ?_;exact hk7 _ sA
 refine gg 1 rfl ?_;refine Rn.jG hm0 hM (G:=Int × (Nat → Prop)) (fun g=>[(7,zAo p3.1)]) (fun g=>[zA3.obj (g.2) b0 p3.2.2,zAr b1 25 [iv (g.1)]]) (fun j g=>j g.1) ?_ ?_
 ·rintro ⟨y10,F9⟩ w11 hm11 hM
  try dsimp only at hM
  refine gg 5 rfl ?_
  cases hM
  exact Rn.R1 func225 ⟨F9,rfl,hm11.pk [0,1]⟩
 intro j1 hM hk1;refine zB hM (Rn.condD rfl) (fun h12 hM=>?_) (fun h12 hM=>?_)
 ·refine gg 3 rfl (Rn.sq rfl sizeOf25 rfl rfl (hm6.get 0 rfl) ?_);intro w13 m13 x13;have hm14:=(hm6.st 0 rfl x13 m13).nf [zAr _ _ [_],_] rfl;refine gg 1 rfl ?_;exact hk1 (2,F3_p0) _ _ sA (hm14.pk [1,0]) hM
 ·refine gg 1 rfl ?_;exact hk1 (x1,F3_p0) _ _ sA (hm6.pk [1,0]) hM
theorem m_xor_Row_turn_sim {x0 : zAg} {x1 : zA3} {x2 : Int} {r : (UInt64 × zA3 × zAg × Int)} (hM : zO x0 x1 x2 = some r) (hL : zK8 Z0 w [zAr b0 190 [iv x0.n,zAo x0.last,iv x0.win.ahead,iv x0.win.size],zA3.obj F1 b1 x1,zAr b2 25 [iv x2],rdR 1 0 gl1,rdR 3 0 gl3]) :
    Calls prog 198 #[pt b0 0,pt b1 0,pt b2 0] w fun x w'=>∃ F_p1,x = .returned (zAo r.1) ∧ Hp Z0 (LS [zAr b0 190 [iv x0.n,zAo x0.last,iv x0.win.ahead,iv x0.win.size],zA3.obj F1 b1 x1,zAr b2 25 [iv x2],rdR 1 0 gl1,rdR 3 0 gl3]) w w' [zA3.obj F_p1 b1 r.2.1,zAr b0 190 [iv r.2.2.1.n,zAo r.2.2.1.last,iv r.2.2.1.win.ahead,iv r.2.2.1.win.size],zAr b2 25 [iv r.2.2.2]]:=by
 have hm0:=hL.start;refine Rn.en func198 ?_;refine gg 10 rfl (Rn.q rfl (V.ldB isAgg3 rfl (hm0.get 0 rfl) rfl) (gg 2 rfl ?_));refine zB hM (Rn.condD rfl) (fun h6 hM=>?_) (fun h6 hM=>?_)
 ·refine gg 4 rfl ?_;obtain ⟨p7,e7,hM⟩:=zA4 hM;have hm8:=hm0.cu [0,3,4] [1,2]
  refine Rn.c1 (cK func225) (m_xor_take_sim e7 hm8.lend :) fun F7_p0 w7 hq7=>?_
  have hm11:=hm8.callAZ hq7;refine gg 2 rfl ?_
  cases hM
  exact Rn.R1 func198 ⟨F7_p0,rfl,hm11.pk [3,0,4]⟩
 ·refine gg 6 rfl ?_;obtain ⟨p12,e12,hM⟩:=zA4 hM;have hm13:=hm0.cu [0,3,4] [1,2]
  refine Rn.c1 (cK func225) (m_xor_take_sim e12 hm13.lend :) fun F12_p0 w12 hq12=>?_
  have hm16:=hm13.callAZ hq12;refine Rn.q rfl (V.eql rfl rfl) (gg 1 rfl ?_);refine zB hM (Rn.condD rfl) (fun h17 hM=>?_) (fun h17 hM=>?_)
  ·refine gg 4 rfl ?_
   cases hM
   exact Rn.R1 func198 ⟨F12_p0,rfl,hm16.pk [3,0,4]⟩
  ·refine gg 6 rfl ?_;obtain ⟨p18,e18,hM⟩:=zA4 hM;have hm19:=hm16.cu [0,1,2] [3,4]
   refine Rn.c1 (cK func225) (m_xor_take_sim e18 hm19.lend :) fun F18_p0 w18 hq18=>?_
   have hm22:=hm19.callAZ hq18;refine Rn.q rfl (V.eql rfl rfl) (gg 1 rfl ?_);refine zB hM (Rn.condD rfl) (fun h23 hM=>?_) (fun h23 hM=>?_)
   ·refine gg 2 rfl ?_;refine Rn.jG hm0 hM (G:=Bool × (Nat → Prop)) (fun g=>[(0,pt b0 0),(1,pt b1 0),(2,pt b2 0),(37,.bool ((g.1)))]) (fun g=>[zAr b0 190 [iv x0.n,zAo x0.last,iv x0.win.ahead,iv x0.win.size],rdR 1 0 gl1,rdR 3 0 gl3,zA3.obj (g.2) b1 p18.2.1,zAr b2 25 [iv p18.2.2]]) (fun j g=>j g.1) ?_ ?_
    ·rintro ⟨y25,F24⟩ w26 hm26 hM
     try dsimp only at hM
     refine Rn.jG hm0 hM (G:=Int × (Nat → Prop)) (fun g=>[(0,pt b0 0),(1,pt b1 0),(2,pt b2 0)]) (fun g=>[zAr b0 190 [iv x0.n,zAo x0.last,iv x0.win.ahead,iv x0.win.size],rdR 1 0 gl1,rdR 3 0 gl3,zA3.obj (g.2) b1 p18.2.1,zAr b2 25 [iv (g.1)]]) (fun j g=>j g.1) ?_ ?_
     ·rintro ⟨y28,F27⟩ w29 hm29 hM
      try dsimp only at hM
      refine gg 1 rfl ?_;have hm33:=(hm29.cutF [0] [3,4] [1,2] rfl (by decide) ⟨fun _ h=>h,fun _ h=>h,trivial⟩).nf ([_,_,_] ++ [_,_,_,_]) rfl;refine Rn.drawF rfl hm33 ?_;intro w34 hmo34 hm34;refine dq [0,1,2,3,4,5] ?_;refine RH.tk 6 rfl (fun w' hDr=>V.ldB isAgg3 rfl ((hmo34.awayK hDr).get 0 rfl) rfl) ?_;refine dq [8,9,10] ?_;refine RH.tk 11 rfl (fun w' hDr=>V.ldBA [_,_] isAgg188 sizeOf188 rfl ((hmo34.awayK hDr).get 0 rfl) rfl rfl) ?_;obtain ⟨p35,e35,hM⟩:=zA4 hM;have hm36:=hm34.cu [2,3] [0,1];refine RH.cq (cK func225) 7 (m_xor_take_sim e35 hm36.lend :) ?_;rintro _ w35 ⟨F35_p0,rfl,hq35⟩;have hm39:=hm36.callAZ hq35;refine ⟨_,rfl,hm39.fr,?_⟩;obtain ⟨p40,e40,hM⟩:=zA4 hM;refine RH.cq (cK func182) 12 (zDa (Z0:=All) e40  :) ?_;rintro _ w40 ⟨rfl,hq40⟩;have hm41:=hm39.call0 hq40;refine ⟨_,rfl,hm41.fr,?_⟩;obtain ⟨z42,e42,hM⟩:=zA4 hM
      refine RH.here fun hS13=>RH.on 13 rfl (V.remZ rfl rfl e42) hS13 ?_
      refine RH.here fun hS14=>RH.on 14 rfl (V.cv64 underlying3 underlying137 rfl) hS14 ?_
      refine RH.here fun hS15=>RH.on 15 rfl (V.shl64 (a:=p35.1) (m:=(zAe z42).toNat) rfl rfl) hS15 ?_
      refine dq [16] ?_;refine RH.doneP (by kernel_rfl) ?_;have hm43:=hmo34.callAZ hm41;have hm44:=(hm43.pk [0,3,4,5,6]).nq;refine gg 4 rfl (Rn.q rfl (V.eql rfl rfl) (gg 1 rfl ?_));refine Rn.cutR [] [(2,pt b2 0),(7,zAo (shl64 p35.1 ((zAe z42).toNat))),(63,.bool (decide ((((shl64 p35.1 ((zAe z42).toNat)).toNat : Int) = 0) ∧ (p35.2.2 = 0))))] (fun hk45=>?_) ?_
      ·refine Rn.partD (t:=58) rfl (fun h46=>?_) (fun h46=>?_)
       ·refine gg 2 rfl (Rn.q rfl (V.ldB isAgg25 rfl (hm44.get 4 rfl) rfl) (gg 2 rfl ?_));exact hk45 _ sA
       ·refine gg 5 rfl ?_;exact hk45 _ sA
      refine gg 1 rfl ?_;refine Rn.jG hm0 hM (G:=Int × (Nat → Prop)) (fun g=>[(7,zAo (shl64 p35.1 ((zAe z42).toNat)))]) (fun g=>[zAr b0 190 [iv x0.n,zAo x0.last,iv x0.win.ahead,iv x0.win.size],rdR 1 0 gl1,rdR 3 0 gl3,zA3.obj (g.2) b1 p35.2.1,zAr b2 25 [iv (g.1)]]) (fun j g=>j g.1) ?_ ?_
      ·rintro ⟨y48,F47⟩ w49 hm49 hM
       try dsimp only at hM
       refine gg 5 rfl ?_
       cases hM
       exact Rn.R1 func198 ⟨F47,rfl,hm49.pk [3,0,4]⟩
      intro j3 hM hk3;refine zB hM (Rn.condD rfl) (fun h50 hM=>?_) (fun h50 hM=>?_)
      ·refine gg 3 rfl (Rn.sq rfl sizeOf25 rfl rfl (hm44.get 4 rfl) ?_);intro w51 m51 x51;have hm52:=(hm44.st 4 rfl x51 m51).nf [_,_,_,_,zAr _ _ [_]] rfl;refine gg 1 rfl ?_;exact hk3 (3,F35_p0) _ _ sA (hm52.pk [0,1,2,3,4]) hM
      ·refine gg 1 rfl ?_;exact hk3 (p35.2.2,F35_p0) _ _ sA (hm44.pk [0,1,2,3,4]) hM
     intro j2 hM hk2;refine zGt hM (Rn.condS rfl) (fun h53 hM=>?_) (fun h53 hM=>?_)
     ·refine gg 3 rfl (Rn.sq rfl sizeOf25 rfl rfl (hm26.get 4 rfl) ?_);intro w54 m54 x54;have hm55:=(hm26.st 4 rfl x54 m54).nf [_,_,_,_,zAr _ _ [_]] rfl;refine gg 1 rfl ?_;exact hk2 (3,F24) _ _ sA (hm55.pk [0,1,2,3,4]) hM
     ·refine gg 1 rfl ?_;exact hk2 (p18.2.2,F24) _ _ sA (hm26.pk [0,1,2,3,4]) hM
    intro j1 hM hk1;refine Rn.drawP rfl hm22 ?_;intro w56 hm56;refine dq [0,1,2] ?_;refine RH.takeP 3 (by kernel_rfl) rfl rfl rfl rfl (V.ldBA [_,_] isAgg188 sizeOf188 rfl (hm56.get 0 rfl) rfl rfl) ?_;refine RH.takeP 4 (by kernel_rfl) rfl rfl rfl rfl (V.ldA (vs:=[iv 0,iv 0]) isAgg188 sizeOf188 rfl (hm56.get 1 rfl).2 rfl) ?_;refine RH.takeP 5 (by kernel_rfl) rfl rfl rfl rfl (V.eqlT Tryz.eqGuardType188 rfl rfl (zZt _ ({ ahead:=0,size:=0 } : zBb))) ?_;refine dq [6] ?_;refine zB hM (RH.partD (t:=32) rfl) (fun h57 hM=>?_) (fun h57 hM=>?_)
    ·refine dq [7,8] ?_;refine RH.takeP 9 (by kernel_rfl) rfl rfl rfl rfl (V.ldB isAgg25 rfl (hm56.get 4 rfl) rfl) ?_;refine dq [10,11] ?_;refine RH.doneP (by kernel_rfl) ?_;exact hk1 ((decide (p18.2.2 = 0)),F18_p0) _ _ sA (hm56.pk [0,1,2,3,4]) hM
    ·refine dq [7,8,9,10,11] ?_;refine RH.doneP (by kernel_rfl) ?_;exact hk1 (false,F18_p0) _ _ sA (hm56.pk [0,1,2,3,4]) hM
   ·refine gg 5 rfl ?_;obtain ⟨p58,e58,hM⟩:=zA4 hM;have hm59:=hm22.cu [0,1,2] [3,4]
    refine Rn.c1 (cK func225) (m_xor_take_sim e58 hm59.lend :) fun F58_p0 w58 hq58=>?_
    have hm62:=hm59.callAZ hq58;refine Rn.q rfl (V.cvW underlying35 underlying3 rfl) (Rn.q rfl (V.bldS (cs:=[_,_]) zay rfl rfl) (Rn.als rfl rfl rfl Tryz.zeroValue188 rfl sizeOf188 rfl rfl rfl rfl (by first|exact zN1 rfl|(simp [Value.oneCell'];done)) ?_));intro b63 w63 hb63 m63 e63;have hm65:=(hm62.addBox hb63 e63 m63).nf [_,_,_,_,_,zAr _ _ [_,_]] rfl;refine gg 5 rfl ?_;obtain ⟨p66,e66,hM⟩:=zA4 hM;have hm67:=hm65.cu [0,1,2,5] [3,4]
    refine Rn.c1 (cK func225) (m_xor_take_sim e66 hm67.lend :) fun F66_p0 w66 hq66=>?_
    have hm70:=hm67.callAZ hq66;refine Rn.q rfl (V.cvW underlying35 underlying3 rfl) (gg 2 rfl (Rn.sq rfl sizeOf3 rfl rfl (hm70.get 3 rfl) ?_));intro w71 m71 x71;have hm72:=(hm70.st 3 rfl x71 m71).nf [_,_,_,zAr _ _ [_,_],_,_] rfl;refine gg 6 rfl (Rn.q rfl (V.ldB isAgg25 rfl (hm72.get 5 rfl) rfl) (gg 2 rfl ?_));refine Rn.jR hm0 hM (G:=Bool × (Nat → Prop)) [] (fun g=>[(0,pt b0 0),(1,pt b1 0),(2,pt b2 0),(8,pt b63 0),(86,.bool ((g.1)))]) (fun g=>[zAr b0 190 [iv x0.n,zAo x0.last,iv x0.win.ahead,iv x0.win.size],rdR 1 0 gl1,rdR 3 0 gl3,zAr b63 188 [iv (W64 ((p58.1).toNat : Int)),iv (W64 ((W64 ((p66.1).toNat : Int)) + 1))],zA3.obj (g.2) b1 p66.2.1,zAr b2 25 [iv p66.2.2]]) (fun j g=>j g.1) ?_ ?_
    ·rintro ⟨y74,F73⟩ w75 hm75 hM
     try dsimp only at hM
     refine gg 1 rfl ?_;refine Rn.jG hm0 hM (G:=Int × (Nat → Prop)) (fun g=>[(0,pt b0 0),(1,pt b1 0),(2,pt b2 0),(8,pt b63 0)]) (fun g=>[zAr b0 190 [iv x0.n,zAo x0.last,iv x0.win.ahead,iv x0.win.size],rdR 1 0 gl1,rdR 3 0 gl3,zAr b63 188 [iv (W64 ((p58.1).toNat : Int)),iv (W64 ((W64 ((p66.1).toNat : Int)) + 1))],zA3.obj (g.2) b1 p66.2.1,zAr b2 25 [iv (g.1)]]) (fun j g=>j g.1) ?_ ?_
     ·rintro ⟨y77,F76⟩ w78 hm78 hM
      try dsimp only at hM
      refine gg 5 rfl (Rn.q rfl (V.ldB isAgg3 rfl (hm78.get 3 rfl) rfl) ?_);obtain ⟨p79,e79,hM⟩:=zA4 hM;have hm80:=hm78.cu [0,1,2,3] [4,5]
      refine Rn.c1 (cK func225) (m_xor_take_sim e79 hm80.lend :) fun F79_p0 w79 hq79=>?_
      have hm83:=hm80.callAZ hq79;refine gg 7 rfl (Rn.q rfl (V.ldB isAgg25 rfl (hm83.get 5 rfl) rfl) (gg 2 rfl ?_));refine zB hM (Rn.condD rfl) (fun h84 hM=>?_) (fun h84 hM=>?_)
      ·refine gg 4 rfl ?_
       cases hM
       exact Rn.R1 func198 ⟨F79_p0,rfl,hm83.pk [4,0,5]⟩
      ·refine gg 4 rfl (Rn.q rfl (V.ldBA [_,_] isAgg188 sizeOf188 rfl (hm83.get 3 rfl) rfl rfl) ?_);obtain ⟨p85,e85,hM⟩:=zA4 hM
       refine Rn.c0 (cK func182) (zDa (Z0:=All) e85  :) hm83 fun w85 _ hm86=>?_
       refine Rn.q rfl (V.cv64 underlying3 underlying137 rfl) (Rn.q rfl (V.shl64 (a:=p79.1) (m:=(zAe p85).toNat) rfl rfl) (gg 4 rfl ?_));refine Rn.jG hm0 hM (G:=Bool × (Nat → Prop)) (fun g=>[(0,pt b0 0),(2,pt b2 0),(8,pt b63 0),(9,zAo (shl64 p79.1 ((zAe p85).toNat))),(118,.bool ((g.1)))]) (fun g=>[zAr b0 190 [iv x0.n,zAo x0.last,iv x0.win.ahead,iv x0.win.size],rdR 1 0 gl1,rdR 3 0 gl3,zAr b63 188 [iv (W64 ((p58.1).toNat : Int)),iv (W64 ((W64 ((p66.1).toNat : Int)) + 1))],zA3.obj (g.2) b1 p79.2.1,zAr b2 25 [iv p79.2.2]]) (fun j g=>j g.1) ?_ ?_
       ·rintro ⟨y88,F87⟩ w89 hm89 hM
        try dsimp only at hM
        refine Rn.jG hm0 hM (G:=Int × (Nat → Prop)) (fun g=>[(0,pt b0 0),(8,pt b63 0),(9,zAo (shl64 p79.1 ((zAe p85).toNat)))]) (fun g=>[zAr b0 190 [iv x0.n,zAo x0.last,iv x0.win.ahead,iv x0.win.size],rdR 1 0 gl1,rdR 3 0 gl3,zAr b63 188 [iv (W64 ((p58.1).toNat : Int)),iv (W64 ((W64 ((p66.1).toNat : Int)) + 1))],zA3.obj (g.2) b1 p79.2.1,zAr b2 25 [iv (g.1)]]) (fun j g=>j g.1) ?_ ?_
        ·rintro ⟨y91,F90⟩ w92 hm92 hM
         try dsimp only at hM
         refine gg 3 rfl (Rn.q rfl (V.ldBA [_,_] isAgg188 sizeOf188 rfl (hm92.get 3 rfl) rfl rfl) (gg 2 rfl (Rn.sq rfl sizeOf188 rfl rfl (hm92.get 0 rfl) ?_)));intro w93 m93 x93;have hm94:=(hm92.st 0 rfl x93 m93).nf [zAr _ _ [_,_,_,_],_,_,_,_,_] rfl;refine gg 6 rfl ?_
         cases hM
         exact Rn.R1 func198 ⟨F90,rfl,hm94.pk [4,0,5]⟩
        intro j7 hM hk7;refine zGt hM (Rn.condS rfl) (fun h95 hM=>?_) (fun h95 hM=>?_)
        ·refine gg 3 rfl (Rn.sq rfl sizeOf25 rfl rfl (hm89.get 5 rfl) ?_);intro w96 m96 x96;have hm97:=(hm89.st 5 rfl x96 m96).nf [_,_,_,_,_,zAr _ _ [_]] rfl;refine gg 1 rfl ?_;exact hk7 (3,F87) _ _ sA (hm97.pk [0,1,2,3,4,5]) hM
        ·refine gg 1 rfl ?_;exact hk7 (p79.2.2,F87) _ _ sA (hm89.pk [0,1,2,3,4,5]) hM
       intro j6 hM hk6;have hm101:=(hm86.cutF [0,3,4,5] [] [1,2] rfl (by decide) ⟨fun _ h=>h,fun _ h=>h,trivial⟩).nf ([_,_,_,_,_,_] ++ [_,_]) rfl;refine Rn.drawF rfl hm101 ?_;intro w102 hmo102 hm102;refine dq [0] ?_
       refine RH.here fun hS1=>RH.on 1 rfl (V.eql rfl rfl) hS1 ?_
       refine dq [2] ?_;refine zB hM (RH.partD (t:=105) rfl) (fun h103 hM=>?_) (fun h103 hM=>?_)
       ·refine dq [3,4,5,6,7,8,9,10,11,12,13,14,15] ?_;refine RH.doneP (by kernel_rfl) ?_;have hm104:=hmo102.callAZ hm102;have hm105:=(hm104.pk [0,1,2,3,6,7]).nq;exact hk6 (true,F79_p0) _ _ sA (hm105.pk [0,4,5,1,2,3]) hM
       ·refine dq [3] ?_;refine RH.tk 5 rfl (fun w' hDr=>V.ldBA [_,_] isAgg188 sizeOf188 rfl ((hmo102.awayK hDr).get 1 rfl) rfl rfl) ?_;obtain ⟨p106,e106,hM⟩:=zA4 hM;refine RH.cq (cK func183) 4 (zMk (Z0:=All) e106 (zGf (hm102.get 1 rfl)) :) ?_;rintro _ w106 ⟨rfl,hq106⟩;have hm107:=hm102.call0 hq106;refine ⟨_,rfl,hm107.fr,?_⟩
        refine RH.here fun hS6=>RH.on 6 rfl (V.neqT Tryz.eqGuardType188 rfl rfl (zZt _ ({ ahead:=W64 ((p58.1).toNat : Int),size:=W64 ((W64 ((p66.1).toNat : Int)) + 1) } : zBb))) hS6 ?_
        refine dq [7,8] ?_;refine zB hM (RH.partD (t:=111) rfl) (fun h108 hM=>?_) (fun h108 hM=>?_)
        ·refine dq [9,10,11,12,13,14,15] ?_;refine RH.doneP (by kernel_rfl) ?_;have hm109:=hmo102.callAZ hm107;have hm110:=(hm109.pk [0,1,2,3,6,7]).nq;exact hk6 (true,F79_p0) _ _ sA (hm110.pk [0,4,5,1,2,3]) hM
        ·refine dq [9,10,11] ?_;refine RH.tk 12 rfl (fun w' hDr=>V.ldBA [_,_] isAgg188 sizeOf188 rfl ((hmo102.awayK hDr).get 0 rfl) rfl rfl) ?_;refine dq [13] ?_;obtain ⟨p111,e111,hM⟩:=zA4 hM;refine RH.cq (cK func181) 14 (zIs (Z0:=All) e111 (zGf (hm107.get 0 rfl)) (zGf (hm107.get 1 rfl)) :) ?_;rintro _ w111 ⟨rfl,hq111⟩;have hm112:=hm107.call0 hq111;refine ⟨_,rfl,hm112.fr,?_⟩;refine dq [15] ?_;refine RH.doneP (by kernel_rfl) ?_;have hm113:=hmo102.callAZ hm112;have hm114:=(hm113.pk [0,1,2,3,6,7]).nq;exact hk6 (p111,F79_p0) _ _ sA (hm114.pk [0,4,5,1,2,3]) hM
     intro j5 hM hk5;refine zGt hM (Rn.condS rfl) (fun h115 hM=>?_) (fun h115 hM=>?_)
     ·refine gg 3 rfl (Rn.sq rfl sizeOf25 rfl rfl (hm75.get 5 rfl) ?_);intro w116 m116 x116;have hm117:=(hm75.st 5 rfl x116 m116).nf [_,_,_,_,_,zAr _ _ [_]] rfl;refine gg 1 rfl ?_;exact hk5 (3,F73) _ _ sA (hm117.pk [0,1,2,3,4,5]) hM
     ·refine gg 1 rfl ?_;exact hk5 (p66.2.2,F73) _ _ sA (hm75.pk [0,1,2,3,4,5]) hM
    intro j4 hM hk4;refine zB hM (Rn.partD (t:=82) rfl) (fun h118 hM=>?_) (fun h118 hM=>?_)
    ·refine Rn.q rfl (V.ldBA [_,_] isAgg188 sizeOf188 rfl (hm72.get 3 rfl) rfl rfl) ?_;obtain ⟨p119,e119,hM⟩:=zA4 hM
     refine Rn.c0 (cK func182) (zDa (Z0:=All) e119  :) hm72 fun w119 _ hm120=>?_
     refine gg 2 rfl ?_;exact hk4 ((decide (p119 < 0)),F66_p0) _ _ sA (hm120.pk [0,1,2,3,4,5]) hM
    ·refine gg 4 rfl ?_;exact hk4 (false,F66_p0) _ _ sA (hm72.pk [0,1,2,3,4,5]) hM
theorem zJn {x0 : zA3} {r : Int} (hM : zJ5 x0 = some r) (f0 : (fzR (zA3.obj F0 b0 x0)).H Z0 w) :
    Calls prog 146 #[pt b0 0] w fun x w'=>x = .returned (iv r) ∧ Hp Z0 No w w' []:=by
 have hm0:=Hp.nil Z0 No w;have hc0:=zD1.nil;have hm2:=hm0.know (fzR (zA3.obj F0 b0 x0)) (fun _ h=>h) (hm0.in0 hc0 f0);replace hc0:=hc0.snoc (r:=fzR (zA3.obj F0 b0 x0)) (fun _ h=>h);refine Rn.en func146 ?_;refine gg 9 rfl ?_;obtain ⟨_,⟨A3_0,c3_0,rfl⟩,hm3⟩:=hm2.unfz 0 rfl;replace hm3:=hm3.nq;have hm7:=hm3.fzS 2 rfl;refine Rn.q rfl (V.ldB isAgg3 rfl (hm7.getz 1 rfl) rfl) (gg 2 rfl ?_)
 cases hM
 exact Rn.R1 func146 ⟨rfl,hm7.pk []⟩
theorem m_xor_Row_Get_sim {x0 : zAg} {x1 : zA3} {r : (UInt64 × Int × zA3 × zAg)} (hM : zOh x0 x1 = some r) (hL : zK8 Z0 w [zAr b0 190 [iv x0.n,zAo x0.last,iv x0.win.ahead,iv x0.win.size],zA3.obj F1 b1 x1,rdR 1 0 gl1,rdR 3 0 gl3]) :
    Calls prog 147 #[pt b0 0,pt b1 0] w fun x w'=>∃ F_p1,x = .returned (.tuple #[zAo r.1,iv r.2.1]) ∧ Hp Z0 (LS [zAr b0 190 [iv x0.n,zAo x0.last,iv x0.win.ahead,iv x0.win.size],zA3.obj F1 b1 x1,rdR 1 0 gl1,rdR 3 0 gl3]) w w' [zA3.obj F_p1 b1 r.2.2.1,zAr b0 190 [iv r.2.2.2.n,zAo r.2.2.2.last,iv r.2.2.2.win.ahead,iv r.2.2.2.win.size]]:=by
 have hm0:=hL.start;refine Rn.en func147 ?_;refine gg 6 rfl ?_;refine Rn.jG hm0 hM (G:=zAg × zA3 × (Nat → Prop) × (Nat → Prop) × Nat × (Nat → Prop) × Nat) (fun g=>[(0,pt b0 0),(1,pt b1 0),(6,pt (g.2.2.2.2.1) 0),(7,pt (g.2.2.2.2.2.2) 0)]) (fun g=>[zAr b0 190 [iv x0.n,zAo x0.last,iv x0.win.ahead,iv x0.win.size],zA3.obj (g.2.2.1) b1 x1,rdR 1 0 gl1,rdR 3 0 gl3,zAg.obj (g.2.2.2.1) (g.2.2.2.2.1) (g.1),zA3.obj (g.2.2.2.2.2.1) (g.2.2.2.2.2.2) (g.2.1)]) (fun j g=>j g.1 g.2.1) ?_ ?_
 ·rintro ⟨y6,y8,F5,F6,b6,F8,b8⟩ w10 hm10 hM
  try dsimp only at hM
  refine gg 2 rfl (Rn.alloc rfl rfl rfl Tryz.zeroValue25 rfl ?_);intro b11 w11 hb11 m11 e11;have hm13:=(hm10.addBox hb11 e11 m11).nf [_,_,_,_,_,_,zAr _ _ [_]] rfl;refine gg 3 rfl ?_;obtain ⟨_,rfl,hm15⟩:=hm13.unf 4 rfl;replace hm15:=hm15.nq;obtain ⟨p14,e14,hM⟩:=zA4 hM;have hm16:=hm15.dup 2 rfl (fun _ h=>h);have hm18:=hm16.dup 3 rfl (fun _ h=>h);have hm20:=hm18.cu [0,1,2,3] [6,4,5,7,8]
  refine Rn.c1 (cK func198) (m_xor_Row_turn_sim e14 hm20.lend :) fun F14_p1 w14 hq14=>?_
  have hm24:=hm20.callAZ hq14;refine gg 5 rfl (Rn.q rfl (V.ldB isAgg25 rfl (hm24.get 6 rfl) rfl) (gg 2 rfl ?_));refine zB hM (Rn.condD rfl) (fun h25 hM=>?_) (fun h25 hM=>?_)
  ·cases hM
  ·refine gg 4 rfl (Rn.q rfl (V.ldB isAgg35 rfl (hm24.get 5 rfl) rfl) (gg 1 rfl (Rn.q rfl (V.o64 rfl rfl p14.2.2.1.last p14.1 rfl rfl (zRv _ _ _)) (gg 1 rfl (Rn.sq rfl sizeOf35 rfl rfl (hm24.get 5 rfl) ?_)))));intro w26 m26 x26;have hm27:=(hm24.st 5 rfl x26 m26).nf [_,_,_,_,_,zAr _ _ [_,_,_,_],_] rfl;refine gg 4 rfl (Rn.q rfl (V.ldB isAgg3 rfl (hm27.get 5 rfl) rfl) (gg 2 rfl (Rn.sq rfl sizeOf3 rfl rfl (hm27.get 5 rfl) ?_)));intro w28 m28 x28;have hm29:=(hm27.st 5 rfl x28 m28).nf [_,_,_,_,_,zAr _ _ [_,_,_,_],_] rfl;refine gg 4 rfl ?_;obtain ⟨p30,e30,hM⟩:=zA4 hM
   refine Rn.c0 (cK func146) (zJn (Z0:=All) e30 (zD7 (hm29.get 4 rfl)) :) hm29 fun w30 _ hm31=>?_
   refine gg 1 rfl ?_;obtain ⟨p32,e32,hM⟩:=zA4 hM
   refine Rn.c0 (cK func146) (zJn (Z0:=All) e32 (zD7 (hm31.get 1 rfl)) :) hm31 fun w32 _ hm33=>?_
   refine gg 1 rfl ?_;obtain ⟨p34,e34,hM⟩:=zA4 hM;have hm35:=hm33.cu [0,2,3,4,5,6] [1]
   refine Rn.c1 (cK func145) (m_bitio_Reader_Skip_sim e34 hm35.lend :) fun F34_p0 w34 hq34=>?_
   have hm37:=hm35.callAZ hq34;refine gg 4 rfl (Rn.q rfl (V.ldBA [_,_,_,_] isAgg190 sizeOf190 rfl (hm37.get 4 rfl) rfl rfl) (gg 1 rfl (Rn.sq rfl sizeOf190 rfl rfl (hm37.get 0 rfl) ?_)));intro w38 m38 x38;have hm39:=(hm37.st 0 rfl x38 m38).nf [zAr _ _ [_,_,_,_],_,_,_,_,_,_] rfl;refine gg 6 rfl (Rn.q rfl (V.ldB isAgg35 rfl (hm39.get 0 rfl) rfl) (gg 3 rfl ?_))
   cases hM
   exact Rn.R2 func147 ⟨F34_p0,rfl,hm39.pk [6,0]⟩
 intro j1 hM hk1;obtain ⟨_,⟨A41_0,c41_0,rfl⟩,hm41⟩:=hm0.unf 1 rfl;replace hm41:=hm41.nq;refine Rn.drawH rfl hm41 ?_;intro w40 hm40;refine dq [0,1] ?_;refine RH.tk 2 rfl (fun w' hDr=>V.ldBA [_,_,_,_] isAgg190 sizeOf190 rfl ((hm40.ext hDr).get 0 rfl) rfl rfl) ?_;refine dq [3,4] ?_;refine RH.tk 5 rfl (fun w' hDr=>V.ldBA [_,_,_] isAgg139 sizeOf139 rfl ((hm40.ext hDr).get 3 rfl) rfl rfl) ?_;refine RH.both 6 7 (by kernel_rfl) ?_ ?_
 ·refine RB.alloc 6 rfl rfl rfl Tryz.zeroValue190 rfl ?_;intro b53 w53 hb53 m53 e53
  have hfr53 : w40.heap.size ≤ b53:=by have hh:=((Ext.refl _) : Ext w40 w40).size;omega
  have hm55:=(hm40.addBox hb53 e53 m53).nf [_,_,_,_,_,zAr _ _ [_,_,_,_]] rfl;refine ⟨((Ext.refl _).trans e53),?_⟩;refine RH.alloc 7 (by kernel_rfl) rfl rfl rfl Tryz.zeroValue139 rfl ?_;intro b56 w56 hb56 m56 e56
  have hfr56 : w40.heap.size ≤ b56:=by have hh:=(((Ext.refl _).trans e53) : Ext w40 w53).size;omega
  have hm58:=(hm55.addBox hb56 e56 m56).nf [_,_,_,_,_,_,zAr _ _ [_,_,_]] rfl;refine ⟨(((Ext.refl _).trans e53).trans e56),?_⟩;refine RH.st 8 (by kernel_rfl) rfl rfl sizeOf190 rfl rfl rfl rfl (by first|exact zN1 rfl|(simp [Value.oneCell'];done)) (hm58.get 5 rfl) (by first|exact nbl rfl|(simp;done)) ?_;intro w59 m59 x59;have hm60:=(hm58.st 5 rfl x59 m59).nf [_,_,_,_,_,zAr _ _ [_,_,_,_],_] rfl;refine ⟨(zO4 (((Ext.refl _).trans e53).trans e56) x59 hfr53),?_⟩;refine RH.st 9 (by kernel_rfl) rfl rfl sizeOf139 rfl rfl rfl rfl (by first|exact zN1 rfl|(simp [Value.oneCell'];done)) (hm60.get 6 rfl) (by first|exact nbl rfl|(simp;done)) ?_;intro w61 m61 x61;have hm62:=(hm60.st 6 rfl x61 m61).nf [_,_,_,_,_,_,zAr _ _ [_,_,_]] rfl;refine ⟨(zO4 (zO4 (((Ext.refl _).trans e53).trans e56) x59 hfr53) x61 hfr56),?_⟩;refine RH.doneP (by kernel_rfl) ?_;have hm63:=hm62.dup 4 rfl (fun _ h=>h);have hm66:=hm63.cu [0,1,2,4,5,6] [3,7];obtain ⟨F65,hm65⟩:=hm66.fold (zA3.sh b1 x1) ⟨A41_0,c41_0,rfl⟩;have hm68:=hm65.cu [0,1,2,3,5,6] [4];obtain ⟨F67,hm67⟩:=hm68.fold (zAg.sh b53 x0) rfl;have hm69:=hm67.dup 3 rfl (fun _ h=>h);have hm72:=hm69.cu [0,1,2,3,5,6] [4,7];obtain ⟨F71,hm71⟩:=hm72.fold (zA3.sh b56 x1) ⟨A41_0,c41_0,rfl⟩;exact hk1 (x0,x1,F65,F67,b53,F71,b56) _ _ sA (hm71.pk [0,4,1,2,5,6]) hM
 ·refine RB.alloc 7 rfl rfl rfl Tryz.zeroValue139 rfl ?_;intro b73 w73 hb73 m73 e73
  have hfr73 : w40.heap.size ≤ b73:=by have hh:=((Ext.refl _) : Ext w40 w40).size;omega
  have hm75:=(hm40.addBox hb73 e73 m73).nf [_,_,_,_,_,zAr _ _ [_,_,_]] rfl;refine ⟨((Ext.refl _).trans e73),?_⟩;refine RH.alloc 6 (by kernel_rfl) rfl rfl rfl Tryz.zeroValue190 rfl ?_;intro b76 w76 hb76 m76 e76
  have hfr76 : w40.heap.size ≤ b76:=by have hh:=(((Ext.refl _).trans e73) : Ext w40 w73).size;omega
  have hm78:=(hm75.addBox hb76 e76 m76).nf [_,_,_,_,_,_,zAr _ _ [_,_,_,_]] rfl;refine ⟨(((Ext.refl _).trans e73).trans e76),?_⟩;refine RH.st 8 (by kernel_rfl) rfl rfl sizeOf190 rfl rfl rfl rfl (by first|exact zN1 rfl|(simp [Value.oneCell'];done)) (hm78.get 6 rfl) (by first|exact nbl rfl|(simp;done)) ?_;intro w79 m79 x79;have hm80:=(hm78.st 6 rfl x79 m79).nf [_,_,_,_,_,_,zAr _ _ [_,_,_,_]] rfl;refine ⟨(zO4 (((Ext.refl _).trans e73).trans e76) x79 hfr76),?_⟩;refine RH.st 9 (by kernel_rfl) rfl rfl sizeOf139 rfl rfl rfl rfl (by first|exact zN1 rfl|(simp [Value.oneCell'];done)) (hm80.get 5 rfl) (by first|exact nbl rfl|(simp;done)) ?_;intro w81 m81 x81;have hm82:=(hm80.st 5 rfl x81 m81).nf [_,_,_,_,_,zAr _ _ [_,_,_],_] rfl;refine ⟨(zO4 (zO4 (((Ext.refl _).trans e73).trans e76) x79 hfr76) x81 hfr73),?_⟩;refine RH.doneP (by kernel_rfl) ?_;have hm83:=hm82.dup 4 rfl (fun _ h=>h);have hm86:=hm83.cu [0,1,2,4,5,6] [3,7];obtain ⟨F85,hm85⟩:=hm86.fold (zA3.sh b1 x1) ⟨A41_0,c41_0,rfl⟩;have hm88:=hm85.cu [0,1,2,3,4,6] [5];obtain ⟨F87,hm87⟩:=hm88.fold (zAg.sh b76 x0) rfl;have hm89:=hm87.dup 3 rfl (fun _ h=>h);have hm92:=hm89.cu [0,1,2,3,5,6] [4,7];obtain ⟨F91,hm91⟩:=hm92.fold (zA3.sh b73 x1) ⟨A41_0,c41_0,rfl⟩;exact hk1 (x0,x1,F85,F87,b76,F91,b73) _ _ sA (hm91.pk [0,4,1,2,5,6]) hM
theorem m_chunk_in_uint64_s2_sim {v0_r : Value} {v0_rows_ords : Value} {v0_rows_times : Value} {v0_rows_spans : Value} {v0_rows_ints : Value} {v0_rows_re : Value} {v0_rows_im : Value} {v0_rows_hists : Value} {x0_e : Int} {x1 : UInt64} {x2 : Int} {r : (UInt64 × Int)} (hM : zJz x0_e x1 x2 = some r) (hL : zK8 Z0 w [zAr b0 83 [v0_r,v0_rows_ords,v0_rows_times,v0_rows_spans,v0_rows_ints,v0_rows_re,v0_rows_im,v0_rows_hists,iv x0_e]]) :
    Calls prog 136 #[pt b0 0,zAo x1,iv x2] w fun x w'=>x = .returned (zAo r.1) ∧ Hp Z0 (LS [zAr b0 83 [v0_r,v0_rows_ords,v0_rows_times,v0_rows_spans,v0_rows_ints,v0_rows_re,v0_rows_im,v0_rows_hists,iv x0_e]]) w w' [zAr b0 83 [v0_r,v0_rows_ords,v0_rows_times,v0_rows_spans,v0_rows_ints,v0_rows_re,v0_rows_im,v0_rows_hists,iv r.2]]:=by
 have hm0:=hL.start;refine Rn.en func136 ?_;refine gg 10 rfl (Rn.q rfl (V.ldB isAgg25 rfl (hm0.get 0 rfl) rfl) (gg 2 rfl ?_));refine zB hM (Rn.condD rfl) (fun h2 hM=>?_) (fun h2 hM=>?_)
 ·refine gg 5 rfl (Rn.sq rfl sizeOf25 rfl rfl (hm0.get 0 rfl) ?_);intro w3 m3 x3;have hm4:=(hm0.st 0 rfl x3 m3).nf [zAr _ _ [_,_,_,_,_,_,_,_,_]] rfl;refine gg 6 rfl ?_
  cases hM
  exact Rn.R1 func136 ⟨rfl,hm4.pk [0]⟩
 ·cases hM
theorem m_chunk_reader_float_s2_sim {F0_r : Nat → Prop} {b0_r : Nat} {x0_r : zA3} {v0_rows_ords : Value} {v0_rows_times : Value} {v0_rows_spans : Value} {v0_rows_ints : Value} {v0_rows_re : Value} {v0_rows_im : Value} {v0_rows_hists : Value} {x0_e : Int} {x1 : zAg} {r : (UInt64 × zA3 × Int × zAg)} (hM : zIk x0_r x0_e x1 = some r) (hL : zK8 Z0 w [zAr b0 83 [pt b0_r 0,v0_rows_ords,v0_rows_times,v0_rows_spans,v0_rows_ints,v0_rows_re,v0_rows_im,v0_rows_hists,iv x0_e],zA3.obj F0_r b0_r x0_r,zAr b1 190 [iv x1.n,zAo x1.last,iv x1.win.ahead,iv x1.win.size],rdR 1 0 gl1,rdR 3 0 gl3]) :
    Calls prog 86 #[pt b0 0,pt b1 0] w fun x w'=>∃ F_p0_r,x = .returned (zAo r.1) ∧ Hp Z0 (LS [zAr b0 83 [pt b0_r 0,v0_rows_ords,v0_rows_times,v0_rows_spans,v0_rows_ints,v0_rows_re,v0_rows_im,v0_rows_hists,iv x0_e],zA3.obj F0_r b0_r x0_r,zAr b1 190 [iv x1.n,zAo x1.last,iv x1.win.ahead,iv x1.win.size],rdR 1 0 gl1,rdR 3 0 gl3]) w w' [zA3.obj F_p0_r b0_r r.2.1,zAr b1 190 [iv r.2.2.2.n,zAo r.2.2.2.last,iv r.2.2.2.win.ahead,iv r.2.2.2.win.size],zAr b0 83 [pt b0_r 0,v0_rows_ords,v0_rows_times,v0_rows_spans,v0_rows_ints,v0_rows_re,v0_rows_im,v0_rows_hists,iv r.2.2.1]]:=by
 have hm0:=hL.start;refine Rn.en func86 ?_;refine gg 10 rfl (Rn.q rfl (V.ldB isAgg25 rfl (hm0.get 0 rfl) rfl) (gg 2 rfl ?_));refine zB hM (Rn.condD rfl) (fun h6 hM=>?_) (fun h6 hM=>?_)
 ·cases hM
 ·refine gg 7 rfl (Rn.q rfl (V.ldB isAgg72 rfl (hm0.get 0 rfl) rfl) ?_);obtain ⟨p7,e7,hM⟩:=zA4 hM;have hm8:=hm0.dup 3 rfl (fun _ h=>h);have hm10:=hm8.dup 4 rfl (fun _ h=>h);have hm12:=hm10.cu [0,3,4] [2,1,5,6]
  refine Rn.c1 (cK func147) (m_xor_Row_Get_sim e7 hm12.lend :) fun F7_p1 w7 hq7=>?_
  have hm15:=hm12.callAZ hq7;refine gg 11 rfl ?_;obtain ⟨p16,e16,hM⟩:=zA4 hM;have hm17:=hm15.cu [1,2,3,4] [0];refine Rn.cq (cK func136) (m_chunk_in_uint64_s2_sim e16 hm17.lend :) ?_;rintro _ w16 ⟨rfl,hq16⟩;refine ⟨_,rfl,?_⟩;have hm19:=hm17.callAZ hq16;refine gg 2 rfl ?_
  cases hM
  exact Rn.R1 func86 ⟨F7_p1,rfl,hm19.pk [2,3,4]⟩
theorem m_chunk_reader_next_1_sim {x0 : Bool} {x1 : Int} {v2_ : Value} {r : Unit} (hM : zEl x0 x1 = some r) (hL : zK8 Z0 w [zAr b2 75 [v2_]]) :
    Calls prog 87 #[.bool (x0),iv x1,pt b2 0] w fun x w'=>x = .returned (.tuple #[]) ∧ Hp Z0 (LS [zAr b2 75 [v2_]]) w w' [zAr b2 75 [v2_]]:=by
 have hm0:=hL.start;refine Rn.en func87 ?_;refine gg 4 rfl ?_;refine zGt hM (Rn.condS rfl) (fun h2 hM=>?_) (fun h2 hM=>?_)
 ·cases hM
 ·refine gg 1 rfl ?_;refine Rn.end0 func87 rfl ?_;obtain rfl:=zFu hM;exact ⟨rfl,hm0.pk [0]⟩
theorem m_chunk_reader_next_sim {p0_0 : Nat} {x0 : zAf} {x1 : zA9} {x2 : Int} {r : (zA8 × zAf)} (hM : zKp x0 x1 x2 = some r) (hL : zK8 Z0 w [zAf.obj F0 b0 p0_0 x0,rdR 1 0 gl1,rdR 3 0 gl3,zSw zA9.rep cs1 x1]) :
    Calls prog 38 #[pt b0 0,.agg cs1.toArray,iv x2] w fun x w'=>∃ A_0_0 c_0_0 A_0_1 c_0_1 A_0_2 c_0_2 F_p0,x = .returned (.agg [iv r.1.Ord,Str (r.1.Point.Name),.slice A_0_0 (r.1.Point.Attrs).length c_0_0,iv r.1.Point.Kind,iv r.1.Point.Temp,.bool (r.1.Point.Mono),iv r.1.Point.Start,iv r.1.Point.Time,iv r.1.Point.Int_,zAo r.1.Point.Re,zAo r.1.Point.Im,iv r.1.Point.Hist.Scale,zAo r.1.Point.Hist.Zero,iv r.1.Point.Hist.Pos.Offset,.slice A_0_1 (r.1.Point.Hist.Pos.Counts).length c_0_1,iv r.1.Point.Hist.Neg.Offset,.slice A_0_2 (r.1.Point.Hist.Neg.Counts).length c_0_2,iv r.1.Point.Flags].toArray) ∧ Hp Z0 (LS [zAf.obj F0 b0 p0_0 x0,rdR 1 0 gl1,rdR 3 0 gl3,zSw zA9.rep cs1 x1]) w w' [slR A_0_0 c_0_0 zA.rep r.1.Point.Attrs,slR A_0_1 c_0_1 zAp r.1.Point.Hist.Pos.Counts,slR A_0_2 c_0_2 zAp r.1.Point.Hist.Neg.Counts,zAf.obj F_p0 b0 p0_0 r.2]:=by
 have hm0:=hL.start;have h1:=hm0.get 3 rfl;obtain ⟨Ar2,cr2,Ar4,cr4,Ar6,cr6,rfl,fs2,fs4,fs6⟩:=zA9.relE h1;have hm11:=Hp.knowL [slR Ar2 cr2 zA.rep x1.Attrs,slR Ar4 cr4 zAp x1.Hist.Pos.Counts,slR Ar6 cr6 zAp x1.Hist.Neg.Counts] _ hm0 (knC (fun _ h=>h) fs2 (knC (fun _ h=>h) fs4 (knC (fun _ h=>h) fs6 kn0)));refine Rn.en func38 ?_;refine gg 2 rfl (Rn.box rfl rfl rfl rfl rfl ?_);intro b12 w12 hb12 m12 e12;have hm14:=(hm11.addBox hb12 e12 m12).nf [_,_,_,_,_,_,_,zAr _ _ [_]] rfl;refine Rn.box rfl rfl rfl rfl rfl ?_;intro b15 w15 hb15 m15 e15;have hm17:=(hm14.addBox hb15 e15 m15).nf [_,_,_,_,_,_,_,_,zAr _ _ [_,_,_,_,_,_,_,_,_,_,_,_,_,_,_,_,_]] rfl;refine Rn.alloc rfl rfl rfl Tryz.zeroValue44 rfl ?_;intro b18 w18 hb18 m18 e18;have hm20:=(hm17.addBox hb18 e18 m18).nf [_,_,_,_,_,_,_,_,_,zAr _ _ [_,_,_,_,_,_,_,_,_,_,_,_,_,_,_,_,_,_]] rfl;refine gg 2 rfl ?_;refine Rn.drawX rfl hm20 ?_;intro w21 hm21;refine RG.str (S1:=fun w'=>Rd w' b12 0 [pt b0 0]) (fun _ _=>trivial) (zQs (hm21.get 7 rfl) 0 1) ?_;refine RH.tk 0 rfl (fun w' hDr=>V.ldR0 isAgg75 rfl hDr rfl) ?_;refine RH.tk 1 rfl (fun w' hDr=>V.ldR0 isAgg75 rfl hDr rfl) ?_;refine dq [2,3,4] ?_;obtain ⟨_,⟨F22_0,F22_1,b22_1,F22_2,b22_2,F22_3,b22_3,F22_4,b22_4,F22_5,b22_5,F22_6,b22_6,F22_7,b22_7,rfl⟩,hm22⟩:=hm21.unf 0 rfl;replace hm22:=hm22.nq;refine RH.tk 7 rfl (fun w' hDr=>V.ldR0 isAgg75 rfl hDr rfl) ?_;refine RH.tk 8 rfl (fun w' hDr=>V.ldR0 isAgg75 rfl hDr rfl) ?_;refine dq [9,10,11] ?_;refine RG.str (S1:=fun w'=>Rd w' b12 0 [pt b0 0] ∧ Rd w' b0 1 [pt b22_1 0] ∧ Rd w' b0 2 [pt b22_2 0]) (fun _ hh=>hh.1) ⟨zQs (hm22.get 6 rfl) 0 1,zQs (hm22.get 9 rfl) 1 1,zQs (hm22.get 9 rfl) 2 1⟩ ?_;refine RH.tk 5 rfl (fun w' hDr=>V.ldR0 isAgg76 rfl hDr.2.1 rfl) ?_;refine RH.tk 12 rfl (fun w' hDr=>V.ldR0 isAgg76 rfl hDr.2.2 rfl) ?_;obtain ⟨_,rfl,hm32⟩:=hm22.unf 11 rfl;replace hm32:=hm32.nq;obtain ⟨p31,e31,hM⟩:=zA4 hM;have hm33:=hm32.cu [0,1,2,3,4,5,6,7,8,11,12,13,14,15,16] [9,10,17];refine RH.cq (cK func82) 6 (m_chunk_reader_row_s2_sim e31 hm33.lend :) ?_;rintro _ w31 ⟨F31_p0_r,rfl,hq31⟩;have hm37:=hm33.callAZ hq31;refine ⟨_,rfl,⟨zQs (hm37.get 6 rfl) 0 1,zQs (hm37.get 17 rfl) 1 1,zQs (hm37.get 17 rfl) 2 1⟩,?_⟩;obtain ⟨_,rfl,hm39⟩:=hm37.unf 9 rfl;replace hm39:=hm39.nq;obtain ⟨p38,e38,hM⟩:=zA4 hM;have hm40:=hm39.cu [0,1,2,3,4,5,6,7,8,9,10,11,12,13,15] [16,14,17];refine RH.cq (cK func82) 13 (m_chunk_reader_row_s2_sim e38 hm40.lend :) ?_;rintro _ w38 ⟨F38_p0_r,rfl,hq38⟩;have hm44:=hm40.callAZ hq38;refine ⟨_,rfl,⟨zQs (hm44.get 6 rfl) 0 1,zQs (hm44.get 17 rfl) 1 1,zQs (hm44.get 17 rfl) 2 1⟩,?_⟩;refine dq [14,15,16] ?_;refine RH.doneP (by kernel_rfl) ?_;refine gg 4 rfl (Rn.q rfl (V.ldB isAgg3 rfl (hm44.get 7 rfl) rfl) (gg 2 rfl ?_));refine zB hM (Rn.condD rfl) (fun h45 hM=>?_) (fun h45 hM=>?_)
 ·cases hM
 ·refine gg 3 rfl (Rn.q rfl (V.ldB isAgg75 rfl (hm44.get 6 rfl) rfl) ?_);have hm48:=hm44.cu [0,1,2,3,4,5,6,7,8,9,10,11,12,13,15,16,17] [14];obtain ⟨F47,hm47⟩:=hm48.fold (zA5.sh b22_1 p31.2.2.2) rfl;have hm50:=hm47.cu [0,1,2,3,4,5,6,7,8,9,10,11,12,13,14,16,17] [15];obtain ⟨F49,hm49⟩:=hm50.fold (zA5.sh b22_2 p38.2.2.2) rfl;have hm52:=hm49.cu [0,1,2,3,4,5,6,7,8] [15,14,16,17,9,10,11,12,13];obtain ⟨F51,hm51⟩:=hm52.fold (zAf.sh b0 p0_0 ({ r:=p38.2.1,rows:=({ ords:=p31.2.2.2,times:=p38.2.2.2,spans:=x0.rows.spans,ints:=x0.rows.ints,re:=x0.rows.re,im:=x0.rows.im,hists:=x0.rows.hists } : zAt),e:=p38.2.2.1 } : zAf)) ⟨F38_p0_r,F47,b22_1,F49,b22_2,F22_3,b22_3,F22_4,b22_4,F22_5,b22_5,F22_6,b22_6,F22_7,b22_7,rfl⟩;obtain ⟨p46,e46,hM⟩:=zA4 hM;have hm53:=hm51.cu [0,1,2,3,4,5,6,7,8] [9]
  refine Rn.c1 (cK func83) (m_chunk_reader_flags_sim e46 hm53.lend :) fun F46_p0 w46 hq46=>?_
  have hm55:=hm53.callAZ hq46;refine gg 6 rfl (Rn.q rfl (V.ldB isAgg3 rfl (hm55.get 7 rfl) rfl) (gg 7 rfl ?_));refine zB hM (Rn.condD rfl) (fun h56 hM=>?_) (fun h56 hM=>?_)
  ·cases hM
  ·refine gg 5 rfl ?_;refine zB hM (Rn.condD rfl) (fun h57 hM=>?_) (fun h57 hM=>?_)
   ·cases hM
   ·refine gg 5 rfl ?_;refine zB hM (Rn.condD rfl) (fun h58 hM=>?_) (fun h58 hM=>?_)
    ·cases hM
    ·refine Rn.drawT 6 rfl hm55 (by kernel_rfl) ?_;intro w59 hm59;refine RT.vv 0 rfl (V.ldB isAgg75 rfl (hm59.get 6 rfl) rfl) ?_;refine RT.vv 1 rfl (V.ldB isAgg75 rfl (hm59.get 6 rfl) rfl) ?_;refine RT.vv 2 rfl (V.nil rfl) ?_;refine RT.vv 3 rfl (V.fa underlying83 rfl sizeOf80 rfl rfl) ?_;refine RT.vv 4 rfl (V.fa underlying80 rfl sizeOf77 rfl rfl) ?_;obtain ⟨_,⟨F60_0,F60_1,b60_1,F60_2,b60_2,F60_3,b60_3,F60_4,b60_4,F60_5,b60_5,F60_6,b60_6,F60_7,b60_7,rfl⟩,hm60⟩:=hm59.unf 9 rfl;replace hm60:=hm60.nq;refine RT.vv 5 rfl (V.ldB isAgg77 rfl (hm60.get 9 rfl) rfl) ?_;refine RT.tail ?_;obtain ⟨_,rfl,hm70⟩:=hm60.unf 15 rfl;replace hm70:=hm70.nq;obtain ⟨p69,e69,hM⟩:=zA4 hM;have hm71:=hm70.dup 0 rfl (fun _ h=>h);have hm73:=hm71.dup 1 rfl (fun _ h=>h);have hm75:=hm73.cu [0,1,2,3,4,5,6,7,8,11,12,13,14,15,16] [9,10,17,18,19];refine RH.cq (cK func86) 6 (m_chunk_reader_float_s2_sim e69 hm75.lend :) ?_;rintro _ w69 ⟨F69_p0_r,rfl,hq69⟩;refine ⟨_,rfl,trivial,?_⟩;have hm79:=hm75.callAZ hq69;refine dq [7] ?_;refine RH.st 8 (by kernel_rfl) rfl rfl sizeOf35 rfl rfl rfl rfl (by first|exact zN1 rfl|(simp [Value.oneCell'];done)) (hm79.get 7 rfl) (by first|exact nbl rfl|(simp;done)) ?_;intro w80 m80 x80;have hm81:=(hm79.st 7 rfl x80 m80).nf [_,_,_,_,_,_,_,zAr _ _ [_,_,_,_,_,_,_,_,_,_,_,_,_,_,_,_,_],_,_,_,_,_,_,_,_,_,_] rfl;refine ⟨trivial,?_⟩;refine RH.doneP (by kernel_rfl) ?_;refine gg 3 rfl (Rn.q rfl (V.mkF rfl) (gg 8 rfl ?_));refine Rn.cutR [7] [(2,iv x2),(3,pt b12 0),(4,pt b15 0),(6,pt b18 0),(7,iv p31.1),(8,iv p38.1),(9,iv 0),(10,zAo p46.1),(13,.func (.func 87) #[] [pt b12 0].toArray),(104,.func (.func 87) #[] [pt b12 0].toArray),(110,.bool (decide ((p31.1 < 0) ∨ (p31.1 > 4503599627370496))))] (fun hk82=>?_) ?_
     ·refine Rn.partD (t:=107) rfl (fun h83=>?_) (fun h83=>?_)
      ·refine gg 3 rfl ?_;exact hk82 _ sA
      ·refine gg 3 rfl ?_;exact hk82 _ sA
     obtain ⟨p84,e84,hM⟩:=zA4 hM;have hm85:=hm81.cu [0,1,2,3,4,5,7,8,9,10,11,12,13,14,15,16,17] [6];refine Rn.clV (cK func87) rfl rfl rfl rfl rfl (m_chunk_reader_next_1_sim e84 hm85.lend :) ?_;rintro _ w84 ⟨rfl,hq84⟩;refine ⟨_,rfl,?_⟩;have hm87:=hm85.callAZ hq84;refine gg 7 rfl ?_;obtain ⟨p88,e88,hM⟩:=zA4 hM;have hm89:=hm87.cu [0,1,2,3,4,5,6,7,8,9,10,11,12,13,14,15,16] [17];refine Rn.clV (cK func87) rfl rfl rfl rfl rfl (m_chunk_reader_next_1_sim e88 hm89.lend :) ?_;rintro _ w88 ⟨rfl,hq88⟩;refine ⟨_,rfl,?_⟩;have hm91:=hm89.callAZ hq88;refine gg 7 rfl ?_;refine Rn.cutR [7] [(3,pt b12 0),(4,pt b15 0),(6,pt b18 0),(7,iv p31.1),(8,iv p38.1),(9,iv 0),(10,zAo p46.1),(13,.func (.func 87) #[] [pt b12 0].toArray),(117,.func (.func 87) #[] [pt b12 0].toArray),(123,.bool (decide ((p38.1 < 0) ∨ (p38.1 > 4503599627370496))))] (fun hk92=>?_) ?_
     ·refine Rn.partD (t:=120) rfl (fun h93=>?_) (fun h93=>?_)
      ·refine gg 3 rfl ?_;exact hk92 _ sA
      ·refine gg 3 rfl ?_;exact hk92 _ sA
     obtain ⟨p94,e94,hM⟩:=zA4 hM;have hm95:=hm91.cu [0,1,2,3,4,5,6,7,8,9,10,11,12,13,14,15,16] [17];refine Rn.clV (cK func87) rfl rfl rfl rfl rfl (m_chunk_reader_next_1_sim e94 hm95.lend :) ?_;rintro _ w94 ⟨rfl,hq94⟩;refine ⟨_,rfl,?_⟩;have hm97:=hm95.callAZ hq94;refine gg 5 rfl (Rn.q rfl (V.ldB isAgg3 rfl (hm97.get 6 rfl) rfl) (gg 2 rfl ?_));refine Rn.cutR [13] [(3,pt b12 0),(4,pt b15 0),(6,pt b18 0),(7,iv p31.1),(8,iv p38.1),(9,iv 0),(10,zAo p46.1),(125,.func (.func 87) #[] [pt b12 0].toArray),(137,.bool (decide ((x1.Kind ≠ 3) ∧ ((0 < 1) ∨ (0 > p38.1)))))] (fun hk98=>?_) ?_
     ·refine Rn.partD (t:=129) rfl (fun h99=>?_) (fun h99=>?_)
      ·refine gg 3 rfl ?_;refine Rn.cutR [12,13] [(3,pt b12 0),(4,pt b15 0),(6,pt b18 0),(7,iv p31.1),(8,iv p38.1),(9,iv 0),(10,zAo p46.1),(125,.func (.func 87) #[] [pt b12 0].toArray),(129,.bool true),(136,.bool (decide ((0 < 1) ∨ (0 > p38.1))))] (fun hk100=>?_) ?_
       ·refine Rn.partD (t:=132) rfl (fun h101=>?_) (fun h101=>?_)
        ·refine gg 4 rfl ?_;exact hk100 _ sA
        ·refine gg 4 rfl ?_;exact hk100 _ sA
       refine gg 1 rfl ?_;exact hk98 _ sA
      ·refine gg 8 rfl ?_;exact hk98 _ sA
     obtain ⟨p102,e102,hM⟩:=zA4 hM;have hm103:=hm97.cu [0,1,2,3,4,5,6,7,8,9,10,11,12,13,14,15,16] [17];refine Rn.clV (cK func87) rfl rfl rfl rfl rfl (m_chunk_reader_next_1_sim e102 hm103.lend :) ?_;rintro _ w102 ⟨rfl,hq102⟩;refine ⟨_,rfl,?_⟩;have hm105:=hm103.callAZ hq102;refine gg 4 rfl (Rn.q rfl (V.ldB isAgg75 rfl (hm105.get 17 rfl) rfl) (gg 2 rfl (Rn.q rfl (V.ldB isAgg25 rfl (hm105.get 16 rfl) rfl) (gg 2 rfl ?_))));refine zB hM (Rn.condD rfl) (fun h106 hM=>?_) (fun h106 hM=>?_)
     ·cases hM
     ·refine gg 8 rfl (Rn.q rfl (V.minU (a:=p46.1) (b:=(1048576 : UInt64)) rfl rfl) (Rn.q rfl (V.cvW underlying35 underlying3 rfl) (gg 1 rfl (Rn.sq rfl sizeOf3 rfl rfl (hm105.get 6 rfl) ?_))));intro w107 m107 x107;have hm108:=(hm105.st 6 rfl x107 m107).nf [_,_,_,_,_,_,zAr _ _ [_,_,_,_,_,_,_,_,_,_,_,_,_,_,_,_,_],_,_,_,_,_,_,_,_,_,_,_] rfl;refine gg 1 rfl (Rn.sq rfl sizeOf3 rfl rfl (hm108.get 6 rfl) ?_);intro w109 m109 x109;have hm110:=(hm108.st 6 rfl x109 m109).nf [_,_,_,_,_,_,zAr _ _ [_,_,_,_,_,_,_,_,_,_,_,_,_,_,_,_,_],_,_,_,_,_,_,_,_,_,_,_] rfl;refine gg 1 rfl (Rn.sq rfl sizeOf3 rfl rfl (hm110.get 6 rfl) ?_);intro w111 m111 x111;have hm112:=(hm110.st 6 rfl x111 m111).nf [_,_,_,_,_,_,zAr _ _ [_,_,_,_,_,_,_,_,_,_,_,_,_,_,_,_,_],_,_,_,_,_,_,_,_,_,_,_] rfl;refine gg 2 rfl ?_;have hm115:=hm112.cu [0,1,2,3,4,5,6,7,8,9,10,11,12,13,14,16,17] [15];obtain ⟨F114,hm114⟩:=hm115.fold (zAg.sh b60_5 p69.2.2.2) rfl;have hm117:=hm114.cu [0,1,2,3,4,5,6,7,16] [15,14,8,9,10,11,17,12,13];obtain ⟨F116,hm116⟩:=hm117.fold (zAf.sh b0 p0_0 ({ r:=p69.2.1,rows:=({ ords:=p46.2.rows.ords,times:=p46.2.rows.times,spans:=p46.2.rows.spans,ints:=p46.2.rows.ints,re:=p69.2.2.2,im:=p46.2.rows.im,hists:=p46.2.rows.hists } : zAt),e:=p69.2.2.1 } : zAf)) ⟨F69_p0_r,F60_1,b60_1,F60_2,b60_2,F60_3,b60_3,F60_4,b60_4,F114,b60_5,F60_6,b60_6,F60_7,b60_7,rfl⟩;have hm124:=(hm116.cutF [6,7,8] [9] [0,1,2,3,4,5] rfl (by decide) ⟨fun _ h=>h,fun _ h=>h,fun _ h=>h,fun _ h=>h,fun _ h=>h,fun _ h=>h,trivial⟩).nf ([_,_,_,_,_,_,_,_,_] ++ [_,_,_,_,_,_,_]) rfl;refine Rn.drawF rfl hm124 ?_;intro w125 hmo125 hm125;refine RH.tk 0 rfl (fun w' hDr=>V.ldB isAgg75 rfl ((hmo125.awayK hDr).get 2 rfl) rfl) ?_
      refine RH.here fun hS1=>RH.on 1 rfl (V.ldBA [_,_,_,_,_,_,_,_,_,_,_,_,_,_,_,_,_] isAgg42 sizeOf42 rfl ((hmo125.awayK hm125.fr).get 0 rfl) rfl rfl) hS1 ?_
      obtain ⟨p126,e126,hM⟩:=zA4 hM;refine RH.cq (cK func57) 2 (zIw (Z0:=All) e126 (show zA9.rep.rel All _ _ _ from ⟨_,_,rfl,⟨rfl,trivial⟩,⟨_,_,rfl,⟨_,_,rfl,(zA1 (hm125.get 4 rfl)).1,(zA1 (hm125.get 4 rfl)).2.1,(zA1 (hm125.get 4 rfl)).2.2⟩,⟨_,_,rfl,⟨rfl,trivial⟩,⟨_,_,rfl,⟨rfl,trivial⟩,⟨_,_,rfl,⟨rfl,trivial⟩,⟨_,_,rfl,⟨rfl,trivial⟩,⟨_,_,rfl,⟨rfl,trivial⟩,⟨_,_,rfl,⟨rfl,trivial⟩,⟨_,_,rfl,⟨rfl,trivial⟩,⟨_,_,rfl,⟨rfl,trivial⟩,⟨_,_,rfl,⟨_,_,rfl,⟨rfl,trivial⟩,⟨_,_,rfl,⟨rfl,trivial⟩,⟨_,_,rfl,⟨_,_,rfl,⟨rfl,trivial⟩,⟨_,_,rfl,(zA1 (hm125.get 5 rfl)).1,(zA1 (hm125.get 5 rfl)).2.1,(zA1 (hm125.get 5 rfl)).2.2⟩⟩,⟨_,_,rfl,⟨rfl,trivial⟩,⟨_,_,rfl,(zA1 (hm125.get 6 rfl)).1,(zA1 (hm125.get 6 rfl)).2.1,(zA1 (hm125.get 6 rfl)).2.2⟩⟩⟩⟩⟩,⟨rfl,trivial⟩⟩⟩⟩⟩⟩⟩⟩⟩⟩⟩⟩) :) ?_;rintro _ w126 ⟨rfl,hq126⟩;have hm127:=hm125.call0 hq126;refine ⟨_,rfl,hm127.fr,?_⟩;obtain ⟨p128,e128,hM⟩:=zA4 hM;have hm129:=hm127.cu [1,2,3,4,5,6] [0];refine RH.cq (cK func88) 3 (m_chunk_in_int_sim e128 hm129.lend :) ?_;rintro _ w128 ⟨F128_p0,rfl,hq128⟩;have hm131:=hm129.callAZ hq128;refine ⟨_,rfl,hm131.fr,?_⟩;refine RH.doneP (by kernel_rfl) ?_;have hm132:=hmo125.callAZ hm131;have hm133:=(hm132.pk [0,1,2,9,10,11,12,13,14,15]).nq;refine gg 3 rfl (Rn.q rfl (V.ldBA [_,_,_,_,_,_,_,_,_,_,_,_,_,_,_,_,_] isAgg42 sizeOf42 rfl (hm133.get 0 rfl) rfl rfl) (Rn.q rfl (V.bldS (cs:=[_,_,_,_,_,_,_,_,_,_,_,_,_,_,_,_,_,_]) st44 rfl rfl) (Rn.sq rfl sizeOf44 rfl rfl (hm133.get 1 rfl) ?_)));intro w134 m134 x134;have hm135:=(hm133.st 1 rfl x134 m134).nf [_,zAr _ _ [_,_,_,_,_,_,_,_,_,_,_,_,_,_,_,_,_,_],_,_,_,_,_,_,_,_] rfl;refine gg 1 rfl ?_;refine Rn.retG1 func38 rfl (rvC rfl isAgg44 sizeOf44 (hm135.get 1 rfl) rfl) ?_;obtain rfl:=zFu hM;exact ⟨Ar2,cr2,Ar4,cr4,Ar6,cr6,F128_p0,rfl,hm135.pk [6,7,8,9]⟩
theorem zPn {x0 : (List UInt8)} {r : ((List zA8) × Int)} (hM : zP8 x0 = some r) (f0 : (slR A0 c0 zCa x0).H Z0 w) (f1 : (rdR 1 0 gl1).H Z0 w) (f2 : (rdR 3 0 gl3).H Z0 w) :
    Calls prog 9 #[.slice A0 (x0).length c0] w fun x w'=>∃ A_0_0 c_0_0,x = .returned (.tuple #[.slice A_0_0 (r.1).length c_0_0,iv r.2]) ∧ Hp Z0 No w w' [zBd 44 A_0_0 c_0_0 zA8.rep r.1]:=by
 have hm0:=Hp.nil Z0 No w;have hc0:=zD1.nil;have hm4:=hm0.know (slR A0 c0 zCa x0) (fun _ h=>h) (hm0.in0 hc0 f0);replace hc0:=hc0.snoc (r:=slR A0 c0 zCa x0) (fun _ h=>h);have hm5:=hm4.know (rdR 1 0 gl1) (fun _ h=>h) (hm4.in0 hc0 f1);replace hc0:=hc0.snoc (r:=rdR 1 0 gl1) (fun _ h=>h);have hm6:=hm5.know (rdR 3 0 gl3) (fun _ h=>h) (hm5.in0 hc0 f2);replace hc0:=hc0.snoc (r:=rdR 3 0 gl3) (fun _ h=>h);refine Rn.en func9 ?_;refine gg 8 rfl ?_;obtain ⟨p7,e7,hM⟩:=zA4 hM
 refine Rn.c2 (cK func31) (zNt (Z0:=hm6.Z) e7 (hm6.get 0 rfl) :) fun F7_0 b7_0 w7 hq7=>?_
 have hm9:=hm6.callZ hq7;refine gg 5 rfl ?_;obtain ⟨p10,e10,hM⟩:=zA4 hM;have hm11:=hm9.cu [0,1,2] [3]
 refine Rn.c1 (cK func32) (m_pack_Reader_Text_sim e10 hm11.lend :) fun F10_p0 w10 hq10=>?_
 have hm13:=hm11.callAZ hq10;refine gg 5 rfl ?_;obtain ⟨p14,e14,hM⟩:=zA4 hM;have hm15:=hm13.cu [0,1,2] [3]
 refine Rn.c1 (cK func33) (m_pack_Reader_Count_sim e14 hm15.lend :) fun F14_p0 w14 hq14=>?_
 have hm17:=hm15.callAZ hq14;refine gg 5 rfl ?_;obtain ⟨p18,e18,hM⟩:=zA4 hM;have hm19:=hm17.cu [0,1,2] [3]
 refine Rn.c1 (cK func33) (m_pack_Reader_Count_sim e18 hm19.lend :) fun F18_p0 w18 hq18=>?_
 have hm21:=hm19.callAZ hq18;refine gg 7 rfl ?_;obtain ⟨z22,e22,hM⟩:=zA4 hM;refine Rn.q rfl (V.quoZ rfl rfl e22) ?_;obtain ⟨p23,e23,hM⟩:=zA4 hM;have hm24:=hm21.cu [0,1,2] [3];refine Rn.cq (cK func34) (m_pack_Reader_Raw_sim e23 hm24.lend :) ?_;rintro _ w23 ⟨A23_0_0,c23_0_0,F23_p0,rfl,hq23⟩;refine ⟨_,rfl,?_⟩;have hm27:=hm24.callAZ hq23;refine gg 6 rfl ?_;obtain ⟨p28,e28,hM⟩:=zA4 hM
 refine Rn.c0 (cK func35) (zMu (Z0:=All) e28 (zD7 (hm27.get 4 rfl)) :) hm27 fun w28 _ hm29=>?_
 refine gg 7 rfl ?_;refine zB hM (Rn.condD rfl) (fun h30 hM=>?_) (fun h30 hM=>?_)
 ·cases hM
 ·refine gg 4 rfl ?_;obtain ⟨p31,e31,hM⟩:=zA4 hM;refine Rn.cq (cK func18) (zOm (Z0:=hm29.Z) e31  :) ?_;rintro _ w31 ⟨A31_0_0,c31_0_0,A31_0_1,c31_0_1,A31_0_2,c31_0_2,rfl,hq31⟩;refine ⟨_,rfl,?_⟩;have hm35:=hm29.callZ hq31;refine gg 3 rfl (Rn.als rfl rfl rfl Tryz.zeroValue42 rfl sizeOf42 rfl rfl rfl rfl (by first|exact zN1 rfl|(simp [Value.oneCell'];done)) ?_);intro b36 w36 hb36 m36 e36;have hm38:=(hm35.addBox hb36 e36 m36).nf [_,_,_,_,_,_,_,_,zAr _ _ [_,_,_,_,_,_,_,_,_,_,_,_,_,_,_,_,_]] rfl;refine gg 8 rfl ?_;refine zB hM (Rn.condD rfl) (fun h39 hM=>?_) (fun h39 hM=>?_)
  ·cases hM
  ·refine gg 5 rfl ?_;have hm42:=hm38.freeze 3 rfl;obtain ⟨p40,e40,hM⟩:=zA4 hM
   refine Rn.c2 (cK func36) (zNa (Z0:=hm42.Z) e40 (hm42.get 3 rfl) :) fun F40_0 b40_0 w40 hq40=>?_
   have hm44:=hm42.callZ hq40;replace hm44:=hm44.nq;refine gg 12 rfl ?_;refine zB hM (Rn.condD rfl) (fun h45 hM=>?_) (fun h45 hM=>?_)
   ·cases hM
   ·refine gg 4 rfl ?_;obtain ⟨p46,e46,hM⟩:=zA4 hM;refine Rn.cq (cK func37) (zKq (Z0:=All) e46  :) ?_;rintro _ w46 ⟨F46_0_0,b46_0_0,F46_0_1,b46_0_1,F46_0_2,b46_0_2,F46_0_3,b46_0_3,F46_0_4,b46_0_4,F46_0_5,b46_0_5,F46_0_6,b46_0_6,rfl,hq46⟩;refine ⟨_,rfl,?_⟩;have hm54:=hm44.callF (flC ((zA5.oflat _ _ _)) (flC ((zA5.oflat _ _ _)) (flC ((zA5.oflat _ _ _)) (flC ((zA5.oflat _ _ _)) (flC ((zAg.oflat _ _ _)) (flC ((zAg.oflat _ _ _)) (flC ((zA6.oflat _ _ _)) fl0))))))) hq46;replace hm54:=hm54.nq;refine Rn.q rfl (V.bldS (cs:=[_,_,_,_,_,_,_,_,_]) st83 rfl rfl) (Rn.box rfl rfl rfl rfl rfl ?_);intro b55 w55 hb55 m55 e55;have hm57:=(hm54.addBox hb55 e55 m55).nf [_,_,_,_,_,_,_,_,_,_,_,_,_,_,_,_,_,zAr _ _ [_,_,_,_,_,_,_,_,_]] rfl;refine gg 16 rfl ?_;have hm59:=hm57.cu [0,1,2,3,4,5,6,7,8] [17,9,10,11,12,13,14,15,16];obtain ⟨F58,hm58⟩:=hm59.fold (zAf.sh b55 b40_0 ({ r:=p40.1,rows:=p46,e:=0 } : zAf)) ⟨F40_0,F46_0_0,b46_0_0,F46_0_1,b46_0_1,F46_0_2,b46_0_2,F46_0_3,b46_0_3,F46_0_4,b46_0_4,F46_0_5,b46_0_5,F46_0_6,b46_0_6,rfl⟩;refine Rn.jG hm0 hM (G:=(List zA8) × zAf × (Nat → Prop) × Option Addr × Nat × (Nat → Prop)) (fun g=>[(12,pt b40_0 0),(14,.slice (g.2.2.2.1) ((g.1)).length (g.2.2.2.2.1))]) (fun g=>[rdR 1 0 gl1,rdR 3 0 gl3,zAa.obj (g.2.2.1) b7_0 p23.2,slR A31_0_0 c31_0_0 zA.rep p31.1.Attrs,slR A31_0_1 c31_0_1 zAp p31.1.Hist.Pos.Counts,slR A31_0_2 c31_0_2 zAp p31.1.Hist.Neg.Counts,zAr b36 42 [Str (p31.1.Name),.slice A31_0_0 (p31.1.Attrs).length c31_0_0,iv p31.1.Kind,iv p31.1.Temp,.bool (p31.1.Mono),iv p31.1.Start,iv p31.1.Time,iv p31.1.Int_,zAo p31.1.Re,zAo p31.1.Im,iv p31.1.Hist.Scale,zAo p31.1.Hist.Zero,iv p31.1.Hist.Pos.Offset,.slice A31_0_1 (p31.1.Hist.Pos.Counts).length c31_0_1,iv p31.1.Hist.Neg.Offset,.slice A31_0_2 (p31.1.Hist.Neg.Counts).length c31_0_2,iv p31.1.Flags],zBd 44 (g.2.2.2.1) (g.2.2.2.2.1) zA8.rep (g.1),zAf.obj (g.2.2.2.2.2) b55 b40_0 (g.2.1)]) (fun j g=>j g.1 g.2.1) ?_ ?_
    ·rintro ⟨y61,y64,F60,A62,c62,F64⟩ w65 hm65 hM
     try dsimp only at hM
     refine gg 3 rfl ?_;obtain ⟨_,⟨F66_0,F66_1,b66_1,F66_2,b66_2,F66_3,b66_3,F66_4,b66_4,F66_5,b66_5,F66_6,b66_6,F66_7,b66_7,rfl⟩,hm66⟩:=hm65.unf 8 rfl;replace hm66:=hm66.nq;refine gg 1 rfl ?_;obtain ⟨p75,e75,hM⟩:=zA4 hM
     refine Rn.c0 (cK func40) (zF2 (Z0:=All) e75 (zD7 (hm66.get 9 rfl)) :) hm66 fun w75 _ hm76=>?_
     replace hm76:=hm76.nq;refine gg 2 rfl ?_;refine zB hM (Rn.condD rfl) (fun h77 hM=>?_) (fun h77 hM=>?_)
     ·cases hM
     ·refine gg 7 rfl ?_
      cases hM
      exact Rn.R2 func9 ⟨A62,c62,rfl,hm76.pk [7]⟩
    intro j1 hM hk1;refine gg 1 rfl ?_;have hm85:=hm58.addNil 44 zA8.rep;refine Rn.loopF (G:=(List zA8) × Int × Int × zAf × (Nat → Prop) × Option Addr × Nat × (Nat → Prop)) (fun g=>[(10,pt b36 0),(12,pt b40_0 0),(13,pt b55 0),(14,.slice (g.2.2.2.2.2.1) ((g.1)).length (g.2.2.2.2.2.2.1)),(15,iv (g.2.1)),(56,iv p14.1),(57,iv (g.2.2.1))]) (fun g w'=>Hp Z0 No w w' [rdR 1 0 gl1,rdR 3 0 gl3,zAa.obj (g.2.2.2.2.1) b7_0 p23.2,slR A31_0_0 c31_0_0 zA.rep p31.1.Attrs,slR A31_0_1 c31_0_1 zAp p31.1.Hist.Pos.Counts,slR A31_0_2 c31_0_2 zAp p31.1.Hist.Neg.Counts,zAr b36 42 [Str (p31.1.Name),.slice A31_0_0 (p31.1.Attrs).length c31_0_0,iv p31.1.Kind,iv p31.1.Temp,.bool (p31.1.Mono),iv p31.1.Start,iv p31.1.Time,iv p31.1.Int_,zAo p31.1.Re,zAo p31.1.Im,iv p31.1.Hist.Scale,zAo p31.1.Hist.Zero,iv p31.1.Hist.Pos.Offset,.slice A31_0_1 (p31.1.Hist.Pos.Counts).length c31_0_1,iv p31.1.Hist.Neg.Offset,.slice A31_0_2 (p31.1.Hist.Neg.Counts).length c31_0_2,iv p31.1.Flags],zBd 44 (g.2.2.2.2.2.1) (g.2.2.2.2.2.2.1) zA8.rep (g.1),zAf.obj (g.2.2.2.2.2.2.2) b55 b40_0 (g.2.2.2.1)]) (fun n g=>zHd p14 p31 j1 n g.1 g.2.1 g.2.2.1 g.2.2.2.1) fuel (([] : List zA8),(-1),0,({ r:=p40.1,rows:=p46,e:=0 } : zAf),F23_p0,none,0,F58) sA (hm85.pk [1,2,4,5,6,7,8,10,9]) hM (fun _=>rfl) ?_;clear hM;rintro m87 ⟨y79,y82,y83,y84,F78,A80,c80,F84⟩ w87 hm87 hM hn87;replace hM : zHd p14 p31 j1 (m87 + 1) y79 y82 y83 y84 = some r:=hM;rw [zHd] at hM;refine gg 5 rfl ?_;refine zB hM (Rn.condD rfl) (fun h88 hM=>?_) (fun h88 hM=>?_)
    ·refine gg 6 rfl (Rn.q rfl (V.ldBA [_,_,_,_,_,_,_,_,_,_,_,_,_,_,_,_,_] isAgg42 sizeOf42 rfl (hm87.get 6 rfl) rfl rfl) ?_);obtain ⟨p89,e89,hM⟩:=zA4 hM;refine Rn.cq (cK func39) (zOx (Z0:=All) e89 (show zA9.rep.rel All _ _ _ from ⟨_,_,rfl,⟨rfl,trivial⟩,⟨_,_,rfl,⟨_,_,rfl,(zA1 (hm87.get 3 rfl)).1,(zA1 (hm87.get 3 rfl)).2.1,(zA1 (hm87.get 3 rfl)).2.2⟩,⟨_,_,rfl,⟨rfl,trivial⟩,⟨_,_,rfl,⟨rfl,trivial⟩,⟨_,_,rfl,⟨rfl,trivial⟩,⟨_,_,rfl,⟨rfl,trivial⟩,⟨_,_,rfl,⟨rfl,trivial⟩,⟨_,_,rfl,⟨rfl,trivial⟩,⟨_,_,rfl,⟨rfl,trivial⟩,⟨_,_,rfl,⟨rfl,trivial⟩,⟨_,_,rfl,⟨_,_,rfl,⟨rfl,trivial⟩,⟨_,_,rfl,⟨rfl,trivial⟩,⟨_,_,rfl,⟨_,_,rfl,⟨rfl,trivial⟩,⟨_,_,rfl,(zA1 (hm87.get 4 rfl)).1,(zA1 (hm87.get 4 rfl)).2.1,(zA1 (hm87.get 4 rfl)).2.2⟩⟩,⟨_,_,rfl,⟨rfl,trivial⟩,⟨_,_,rfl,(zA1 (hm87.get 5 rfl)).1,(zA1 (hm87.get 5 rfl)).2.1,(zA1 (hm87.get 5 rfl)).2.2⟩⟩⟩⟩⟩,⟨rfl,trivial⟩⟩⟩⟩⟩⟩⟩⟩⟩⟩⟩⟩) :) ?_;rintro _ w89 ⟨A89_0_0,c89_0_0,A89_0_1,c89_0_1,A89_0_2,c89_0_2,rfl,hq89⟩;refine ⟨_,rfl,?_⟩;have hm93:=hm87.callF (flC (zAl zA.flat _ _ _ _) (flC (zAl zD8 _ _ _ _) (flC (zAl zD8 _ _ _ _) fl0))) hq89;replace hm93:=hm93.nq;refine gg 1 rfl ?_;have hm96:=hm93.freeze 9 rfl;have hm98:=hm96.freeze 10 rfl;have hm100:=hm98.freeze 11 rfl;obtain ⟨p94,e94,hM⟩:=zA4 hM;have hm101:=hm100.dup 0 rfl (fun _ h=>h);have hm103:=hm101.dup 1 rfl (fun _ h=>h);have hm105:=hm103.know (zSw zA9.rep [Str (p89.Name),.slice A89_0_0 (p89.Attrs).length c89_0_0,iv p89.Kind,iv p89.Temp,.bool (p89.Mono),iv p89.Start,iv p89.Time,iv p89.Int_,zAo p89.Re,zAo p89.Im,iv p89.Hist.Scale,zAo p89.Hist.Zero,iv p89.Hist.Pos.Offset,.slice A89_0_1 (p89.Hist.Pos.Counts).length c89_0_1,iv p89.Hist.Neg.Offset,.slice A89_0_2 (p89.Hist.Neg.Counts).length c89_0_2,iv p89.Flags] p89) (fun _ h=>h) (show zA9.rep.rel _ _ _ _ from ⟨_,_,rfl,⟨rfl,trivial⟩,⟨_,_,rfl,⟨_,_,rfl,(hm103.get 9 rfl).1,(hm103.get 9 rfl).2.1,(hm103.get 9 rfl).2.2⟩,⟨_,_,rfl,⟨rfl,trivial⟩,⟨_,_,rfl,⟨rfl,trivial⟩,⟨_,_,rfl,⟨rfl,trivial⟩,⟨_,_,rfl,⟨rfl,trivial⟩,⟨_,_,rfl,⟨rfl,trivial⟩,⟨_,_,rfl,⟨rfl,trivial⟩,⟨_,_,rfl,⟨rfl,trivial⟩,⟨_,_,rfl,⟨rfl,trivial⟩,⟨_,_,rfl,⟨_,_,rfl,⟨rfl,trivial⟩,⟨_,_,rfl,⟨rfl,trivial⟩,⟨_,_,rfl,⟨_,_,rfl,⟨rfl,trivial⟩,⟨_,_,rfl,(hm103.get 10 rfl).1,(hm103.get 10 rfl).2.1,(hm103.get 10 rfl).2.2⟩⟩,⟨_,_,rfl,⟨rfl,trivial⟩,⟨_,_,rfl,(hm103.get 11 rfl).1,(hm103.get 11 rfl).2.1,(hm103.get 11 rfl).2.2⟩⟩⟩⟩⟩,⟨rfl,trivial⟩⟩⟩⟩⟩⟩⟩⟩⟩⟩⟩⟩);have hm107:=hm105.cu [0,1,2,3,4,5,6,7,9,10,11] [8,12,13,14];refine Rn.cq (cK func38) (m_chunk_reader_next_sim e94 hm107.lend :) ?_;rintro _ w94 ⟨A94_0_0,c94_0_0,A94_0_1,c94_0_1,A94_0_2,c94_0_2,F94_p0,rfl,hq94⟩;refine ⟨_,rfl,?_⟩;have hm112:=hm107.callAZ hq94;refine Rn.als rfl rfl rfl Tryz.zeroValue44 rfl sizeOf44 rfl rfl rfl rfl (by first|exact zN1 rfl|(simp [Value.oneCell'];done)) ?_;intro b113 w113 hb113 m113 e113;have hm115:=(hm112.addBox hb113 e113 m113).nf [_,_,_,_,_,_,_,_,_,_,_,_,_,_,_,zAr _ _ [_,_,_,_,_,_,_,_,_,_,_,_,_,_,_,_,_,_]] rfl;refine gg 7 rfl ?_;obtain ⟨_,⟨F116_0,F116_1,b116_1,F116_2,b116_2,F116_3,b116_3,F116_4,b116_4,F116_5,b116_5,F116_6,b116_6,F116_7,b116_7,rfl⟩,hm116⟩:=hm115.unf 14 rfl;replace hm116:=hm116.nq;refine Rn.q rfl (V.ldB isAgg25 rfl (hm116.get 15 rfl) rfl) (gg 2 rfl ?_);refine zB hM (Rn.condD rfl) (fun h125 hM=>?_) (fun h125 hM=>?_)
     ·cases hM
     ·refine gg 4 rfl (Rn.q rfl (V.ldBA [_,_,_,_,_,_,_,_,_,_,_,_,_,_,_,_,_,_] isAgg44 sizeOf44 rfl (hm116.get 14 rfl) rfl rfl) ?_);obtain ⟨z126,e126,hM⟩:=zA4 hM;refine Rn.pushH (z:=p94.1) (vs:=[iv p94.1.Ord,Str (p94.1.Point.Name),.slice A94_0_0 (p94.1.Point.Attrs).length c94_0_0,iv p94.1.Point.Kind,iv p94.1.Point.Temp,.bool (p94.1.Point.Mono),iv p94.1.Point.Start,iv p94.1.Point.Time,iv p94.1.Point.Int_,zAo p94.1.Point.Re,zAo p94.1.Point.Im,iv p94.1.Point.Hist.Scale,zAo p94.1.Point.Hist.Zero,iv p94.1.Point.Hist.Pos.Offset,.slice A94_0_1 (p94.1.Point.Hist.Pos.Counts).length c94_0_1,iv p94.1.Point.Hist.Neg.Offset,.slice A94_0_2 (p94.1.Point.Hist.Neg.Counts).length c94_0_2,iv p94.1.Point.Flags]) hm116 7 rfl e126 rfl rfl rfl rfl underlying24 zbi rfl rfl rfl rfl (fun _=>rfl) (⟨_,_,rfl,⟨rfl,trivial⟩,⟨_,_,rfl,⟨rfl,trivial⟩,⟨_,_,rfl,⟨_,_,rfl,(hm116.get 11 rfl).1,(hm116.get 11 rfl).2.1,(hm116.get 11 rfl).2.2⟩,⟨_,_,rfl,⟨rfl,trivial⟩,⟨_,_,rfl,⟨rfl,trivial⟩,⟨_,_,rfl,⟨rfl,trivial⟩,⟨_,_,rfl,⟨rfl,trivial⟩,⟨_,_,rfl,⟨rfl,trivial⟩,⟨_,_,rfl,⟨rfl,trivial⟩,⟨_,_,rfl,⟨rfl,trivial⟩,⟨_,_,rfl,⟨rfl,trivial⟩,⟨_,_,rfl,⟨_,_,rfl,⟨rfl,trivial⟩,⟨_,_,rfl,⟨rfl,trivial⟩,⟨_,_,rfl,⟨_,_,rfl,⟨rfl,trivial⟩,⟨_,_,rfl,(hm116.get 12 rfl).1,(hm116.get 12 rfl).2.1,(hm116.get 12 rfl).2.2⟩⟩,⟨_,_,rfl,⟨rfl,trivial⟩,⟨_,_,rfl,(hm116.get 13 rfl).1,(hm116.get 13 rfl).2.1,(hm116.get 13 rfl).2.2⟩⟩⟩⟩⟩,⟨rfl,trivial⟩⟩⟩⟩⟩⟩⟩⟩⟩⟩⟩⟩⟩) ?_;intro A126 c126 w126 u126 hm126;replace hm126:=hm126.nq;refine gg 4 rfl (Rn.q rfl (V.ldB isAgg3 rfl (hm126.get 14 rfl) rfl) (gg 7 rfl ?_));have hm129:=hm126.cu [0,1,2,3,4,5,6,7,8,9,10,11,12,13,14] [15,16,17,18,19,20,21,22,23];obtain ⟨F128,hm128⟩:=hm129.fold (zAf.sh b55 b40_0 p94.2) ⟨F116_0,F116_1,b116_1,F116_2,b116_2,F116_3,b116_3,F116_4,b116_4,F116_5,b116_5,F116_6,b116_6,F116_7,b116_7,rfl⟩;exact hn87 (z126,p94.1.Ord,(W64 (y83 + 1)),p94.2,F78,A126,c126,F128) _ _ sA (hm128.pk [0,1,2,3,4,5,6,7,15]) hM
    ·refine gg 1 rfl ?_;exact hk1 (y79,y84,F78,A80,c80,F84) _ _ sA (hm87.pk [0,1,2,3,4,5,6,7,8]) hM
end Go.Proofs.YthjhejgjcdajdaaGreatDoor
