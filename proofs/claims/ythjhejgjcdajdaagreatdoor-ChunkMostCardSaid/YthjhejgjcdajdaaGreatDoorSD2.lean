import Derived.Test.YthjhejgjcdajdaaGreatDoorRows
import Derived.Test.YthjhejgjcdajdaaGreatDoorVD2
import Derived.Test.YthjhejgjcdajdaaGreatDoorSD1
set_option maxRecDepth 20000
set_option maxHeartbeats 4000000
set_option linter.unusedVariables false
set_option linter.unusedSimpArgs false
namespace Go.Proofs.YthjhejgjcdajdaaGreatDoor
open Go Go.RowKit Go.Wk _root_.Go.Proofs.Tryz
variable {Z0:Nat→Prop} {w:World} {F0:Nat→Prop} {F1:Nat→Prop} {F2:Nat→Prop} {F3:Nat→Prop} {F4:Nat→Prop} {F5:Nat→Prop} {b0:Nat} {b1:Nat} {b2:Nat} {b3:Nat} {b4:Nat} {b5:Nat} {A0:Option Addr} {A1:Option Addr} {A2:Option Addr} {A3:Option Addr} {A4:Option Addr} {A5:Option Addr} {c0:Nat} {c1:Nat} {c2:Nat} {c3:Nat} {c4:Nat} {c5:Nat} {cs0:List Value} {cs1:List Value} {cs2:List Value} {cs3:List Value}
theorem m_histbits_Row_Put_sim {x0:zA4} {x1:zA2} {x2:zA3} {r:(Int×zA4×zA2)} (hM:zE1 x0 x1 x2=some r) (hL:zIg Z0 w [zA4.obj F0 b0 x0,zA2.obj F1 b1 x1,zPy zA3.rep cs2 x2]) :
 Calls prog 123 #[pt b0 0,pt b1 0,.agg cs2.toArray] w fun x w'=>∃ F_p0 F_p1,x=.returned (iv r.1)∧Hp Z0 (LS [zA4.obj F0 b0 x0,zA2.obj F1 b1 x1,zPy zA3.rep cs2 x2]) w w' [zA4.obj F_p0 b0 r.2.1,zA2.obj F_p1 b1 r.2.2]:=by
 have hm0:=hL.start;have h2:=hm0.get 2 rfl;obtain ⟨Ar3,cr3,Ar5,cr5,rfl,fs3,fs5⟩:=zA3.relE h2;have hm8:=Hp.knowL [slR Ar3 cr3 zAq x2.Pos.Counts,slR Ar5 cr5 zAq x2.Neg.Counts] _ hm0 (knC (fun _ h=>h) fs3 (knC (fun _ h=>h) fs5 kn0));refine Rn.en func123 ?_;refine gg 2 rfl (Rn.box rfl rfl rfl rfl rfl ?_);intro b9 w9 hb9 m9 e9;have hm11:=(hm8.addBox hb9 e9 m9).nf [_,_,_,_,_,zAh _ _ [_,_,_,_,_,_]] rfl;refine gg 5 rfl (Rn.q rfl (V.ldBA [_,_,_,_,_,_] isAgg40 sizeOf40 rfl (hm11.get 5 rfl) rfl rfl) ?_);obtain ⟨p12,e12,hM⟩:=zAb hM
 refine Rn.c0 (cK func113) (zGw (Z0:=All) e12 (show zA3.rep.rel All _ _ _ from ⟨_,_,rfl,⟨rfl,trivial⟩,⟨_,_,rfl,⟨rfl,trivial⟩,⟨_,_,rfl,⟨_,_,rfl,⟨rfl,trivial⟩,⟨_,_,rfl,(zA7 (hm11.get 3 rfl)).1,(zA7 (hm11.get 3 rfl)).2.1,(zA7 (hm11.get 3 rfl)).2.2⟩⟩,⟨_,_,rfl,⟨rfl,trivial⟩,⟨_,_,rfl,(zA7 (hm11.get 4 rfl)).1,(zA7 (hm11.get 4 rfl)).2.1,(zA7 (hm11.get 4 rfl)).2.2⟩⟩⟩⟩⟩) :) hm11 fun w12 _ hm13=>?_
 refine gg 7 rfl ?_;refine aD hM (fun h14 hM=>?_) (fun h14 hM=>?_)
 ·refine gg 5 rfl ?_
  cases hM
  exact Rn.R1 func123 ⟨F0,F1,rfl,hm13.pk [0,1]⟩
 refine gg 3 rfl ?_;refine Rn.jG hm0 hM (G:=Bool×(Nat→Prop)×(Nat→Prop)) (fun g=>[(0,pt b0 0),(1,pt b1 0),(5,pt b9 0),(34,.bool ((g.1)))]) (fun g=>[zA4.obj (g.2.1) b0 x0,zA2.obj (g.2.2) b1 x1,slR Ar3 cr3 zAq x2.Pos.Counts,slR Ar5 cr5 zAq x2.Neg.Counts,zAh b9 40 [iv x2.Scale,zAl x2.Zero,iv x2.Pos.Offset,.slice Ar3 (x2.Pos.Counts).length cr3,iv x2.Neg.Offset,.slice Ar5 (x2.Neg.Counts).length cr5]]) (fun j g=>j g.1) ?_ ?_
 ·rintro ⟨y17,F15,F16⟩ w18 hm18 hM
  try dsimp only at hM
  refine Rn.jG hm0 hM (G:=zA2×(Nat→Prop)×(Nat→Prop)) (fun g=>[(0,pt b0 0),(5,pt b9 0)]) (fun g=>[zA4.obj (g.2.1) b0 x0,slR Ar3 cr3 zAq x2.Pos.Counts,slR Ar5 cr5 zAq x2.Neg.Counts,zAh b9 40 [iv x2.Scale,zAl x2.Zero,iv x2.Pos.Offset,.slice Ar3 (x2.Pos.Counts).length cr3,iv x2.Neg.Offset,.slice Ar5 (x2.Neg.Counts).length cr5],zA2.obj (g.2.2) b1 (g.1)]) (fun j g=>j g.1) ?_ ?_
  ·rintro ⟨y20,F19,F20⟩ w21 hm21 hM
   try dsimp only at hM
   refine gg 5 rfl ?_;obtain ⟨_,⟨A22_0,c22_0,A22_1,c22_1,rfl⟩,hm22⟩:=hm21.unf 0 rfl;replace hm22:=hm22.nq;refine Rn.q rfl (V.ldB isAgg3 rfl (hm22.get 4 rfl) rfl) (gg 3 rfl (Rn.sq rfl sizeOf3 rfl rfl (hm22.get 4 rfl) ?_));intro w25 m25 x25;have hm26:=(hm22.st 4 rfl x25 m25).nf [_,_,_,_,zAh _ _ [_,_,_,_,_,_,_],_,_] rfl;refine gg 4 rfl (Rn.q rfl (V.ldBA [_,_,_,_,_,_] isAgg40 sizeOf40 rfl (hm26.get 2 rfl) rfl rfl) ?_);obtain ⟨p27,e27,hM⟩:=zAb hM;refine Rn.cq (cK func90) (zFr (Z0:=All) e27 (show zA3.rep.rel All _ _ _ from ⟨_,_,rfl,⟨rfl,trivial⟩,⟨_,_,rfl,⟨rfl,trivial⟩,⟨_,_,rfl,⟨_,_,rfl,⟨rfl,trivial⟩,⟨_,_,rfl,(zA7 (hm26.get 0 rfl)).1,(zA7 (hm26.get 0 rfl)).2.1,(zA7 (hm26.get 0 rfl)).2.2⟩⟩,⟨_,_,rfl,⟨rfl,trivial⟩,⟨_,_,rfl,(zA7 (hm26.get 1 rfl)).1,(zA7 (hm26.get 1 rfl)).2.1,(zA7 (hm26.get 1 rfl)).2.2⟩⟩⟩⟩⟩) :) ?_;rintro _ w27 ⟨A27_0_0,c27_0_0,A27_0_1,c27_0_1,rfl,hq27⟩;refine ⟨_,rfl,?_⟩;have hm30:=hm26.callF (flC (zBf zDy _ _ _ _) (flC (zBf zDy _ _ _ _) fl0)) hq27;replace hm30:=hm30.nq;refine gg 2 rfl (Rn.sq rfl sizeOf40 rfl rfl (hm30.get 4 rfl) ?_);intro w31 m31 x31;have hm32:=(hm30.st 4 rfl x31 m31).nf [_,_,_,_,zAh _ _ [_,_,_,_,_,_,_],_,_,_,_] rfl;refine gg 5 rfl ?_;have hm34:=hm32.cu [0,1,2,3,5,6] [4,7,8];obtain ⟨F33,hm33⟩:=hm34.fold (zA4.sh b0 ({ n:=W64 (x0.n+1),last:=p27 }:zA4)) ⟨A27_0_0,c27_0_0,A27_0_1,c27_0_1,rfl⟩
   cases hM
   exact Rn.R1 func123 ⟨F33,F20,rfl,hm33.pk [6,3]⟩
  intro j2 hM hk2;refine aS hM (fun h35 hM=>?_) (fun h35 hM=>?_)
  ·refine gg 3 rfl ?_;obtain ⟨p36,e36,hM⟩:=zAb hM;have hm37:=hm18.cu [0,2,3,4] [1]
   refine Rn.a1 (cK func176) (m_bitio_Writer_Put_sim e36 hm37.lend :) hm37 fun F36_p0 w36 hm39=>?_
   refine gg 6 rfl ?_;obtain ⟨_,⟨A40_0,c40_0,A40_1,c40_1,rfl⟩,hm40⟩:=hm39.unf 0 rfl;replace hm40:=hm40.nq;refine Rn.q rfl (V.ldBA [_,_,_,_,_,_] isAgg40 sizeOf40 rfl (hm40.get 4 rfl) rfl rfl) ?_;obtain ⟨p43,e43,hM⟩:=zAb hM
   refine Rn.c2 (cK func139) (zEz (Z0:=All) e43 (show zA3.rep.rel All _ _ _ from ⟨_,_,rfl,⟨rfl,trivial⟩,⟨_,_,rfl,⟨rfl,trivial⟩,⟨_,_,rfl,⟨_,_,rfl,⟨rfl,trivial⟩,⟨_,_,rfl,(zB4 (hm40.get 5 rfl)).1,(zB4 (hm40.get 5 rfl)).2.1,(zB4 (hm40.get 5 rfl)).2.2⟩⟩,⟨_,_,rfl,⟨rfl,trivial⟩,⟨_,_,rfl,(zB4 (hm40.get 6 rfl)).1,(zB4 (hm40.get 6 rfl)).2.1,(zB4 (hm40.get 6 rfl)).2.2⟩⟩⟩⟩⟩) :) fun A43_0_0 c43_0_0 w43 hq43=>?_
   have hm45:=hm40.callF (flC (zBf zDy _ _ _ _) fl0) hq43;refine gg 4 rfl (Rn.q rfl (V.ldBA [_,_,_,_,_,_] isAgg40 sizeOf40 rfl (hm45.get 2 rfl) rfl rfl) ?_);obtain ⟨p46,e46,hM⟩:=zAb hM
   refine Rn.c2 (cK func139) (zEz (Z0:=All) e46 (show zA3.rep.rel All _ _ _ from ⟨_,_,rfl,⟨rfl,trivial⟩,⟨_,_,rfl,⟨rfl,trivial⟩,⟨_,_,rfl,⟨_,_,rfl,⟨rfl,trivial⟩,⟨_,_,rfl,(zA7 (hm45.get 0 rfl)).1,(zA7 (hm45.get 0 rfl)).2.1,(zA7 (hm45.get 0 rfl)).2.2⟩⟩,⟨_,_,rfl,⟨rfl,trivial⟩,⟨_,_,rfl,(zA7 (hm45.get 1 rfl)).1,(zA7 (hm45.get 1 rfl)).2.1,(zA7 (hm45.get 1 rfl)).2.2⟩⟩⟩⟩⟩) :) fun A46_0_0 c46_0_0 w46 hq46=>?_
   have hm48:=hm45.callF (flC (zBf zDy _ _ _ _) fl0) hq46;replace hm48:=hm48.nq;refine Rn.q rfl (V.lenV underlying36 rfl) (gg 2 rfl ?_);have hm50:=hm48.cu [0,1,2,3,7,8] [4,5,6];obtain ⟨F49,hm49⟩:=hm50.fold (zA4.sh b0 x0) ⟨A40_0,c40_0,A40_1,c40_1,rfl⟩;refine Rn.jG hm0 hM (G:=zA2×(Nat→Prop)×(Nat→Prop)) (fun g=>[(0,pt b0 0),(5,pt b9 0)]) (fun g=>[slR Ar3 cr3 zAq x2.Pos.Counts,slR Ar5 cr5 zAq x2.Neg.Counts,zAh b9 40 [iv x2.Scale,zAl x2.Zero,iv x2.Pos.Offset,.slice Ar3 (x2.Pos.Counts).length cr3,iv x2.Neg.Offset,.slice Ar5 (x2.Neg.Counts).length cr5],zBi 35 A43_0_0 c43_0_0 zAq p43,zBi 35 A46_0_0 c46_0_0 zAq p46,zA4.obj (g.2.1) b0 x0,zA2.obj (g.2.2) b1 (g.1)]) (fun j g=>j g.1) ?_ ?_
   ·rintro ⟨y52,F51,F52⟩ w53 hm53 hM
    try dsimp only at hM
    exact hk2 (y52,F51,F52) _ _ sA (hm53.pk [5,0,1,2,6]) hM
   intro j3 hM hk3;refine gg 1 rfl ?_;refine Rn.loopF (G:=Int×zA2×(Nat→Prop)×(Nat→Prop)) (fun g=>[(0,pt b0 0),(1,pt b1 0),(5,pt b9 0),(8,.slice A43_0_0 (p43).length c43_0_0),(43,.slice A46_0_0 (p46).length c46_0_0),(44,iv (p46.length:Int)),(45,iv (g.1))]) (fun g w'=>Hp Z0 (LS [zA4.obj F0 b0 x0,zA2.obj F1 b1 x1,zPy zA3.rep [iv x2.Scale,zAl x2.Zero,iv x2.Pos.Offset,.slice Ar3 (x2.Pos.Counts).length cr3,iv x2.Neg.Offset,.slice Ar5 (x2.Neg.Counts).length cr5] x2]) w w' [slR Ar3 cr3 zAq x2.Pos.Counts,slR Ar5 cr5 zAq x2.Neg.Counts,zAh b9 40 [iv x2.Scale,zAl x2.Zero,iv x2.Pos.Offset,.slice Ar3 (x2.Pos.Counts).length cr3,iv x2.Neg.Offset,.slice Ar5 (x2.Neg.Counts).length cr5],zBi 35 A43_0_0 c43_0_0 zAq p43,zBi 35 A46_0_0 c46_0_0 zAq p46,zA4.obj (g.2.2.1) b0 x0,zA2.obj (g.2.2.2) b1 (g.2.1)]) (fun n g=>zBb p43 p46 j3 n g.1 g.2.1) fuel (0,p36.2,F49,F36_p0) sA (hm49.pk [0,1,2,4,5,6,3]) hM (fun _=>rfl) ?_;clear hM;rintro m57 ⟨y55,y56,F54,F56⟩ w57 hm57 hM hn57;replace hM:zBb p43 p46 j3 (m57+1) y55 y56=some r:=hM;rw [zBb] at hM;refine gg 5 rfl ?_;refine aD hM (fun h58 hM=>?_) (fun h58 hM=>?_)
   ·refine gg 6 rfl ?_;obtain ⟨z59,e59,hM⟩:=zAb hM;obtain ⟨kk59,ke59,kz59,kl59⟩:=zGz e59;obtain ⟨g59,vs59,hA59,hR59,hrel59⟩:=hm57.ownAt 4 rfl kz59;subst hA59;obtain ⟨rfl,_⟩:=hrel59;refine Rn.q rfl (V.ixE kk59 underlying36 sizeOf35 rfl rfl ke59 kl59) (Rn.q rfl (V.ldR0 isAgg35 rfl hR59 rfl) (gg 8 rfl ?_));obtain ⟨z60,e60,hM⟩:=zAb hM;obtain ⟨kk60,ke60,kz60,kl60⟩:=zGz e60;obtain ⟨g60,vs60,hA60,hR60,hrel60⟩:=hm57.ownAt 3 rfl kz60;subst hA60;obtain ⟨rfl,_⟩:=hrel60;refine Rn.q rfl (V.ixE kk60 underlying36 sizeOf35 rfl rfl ke60 kl60) (Rn.q rfl (V.ldR0 isAgg35 rfl hR60 rfl) (Rn.q rfl (V.ari64 (a:=z59) (b:=z60) rfl rfl _ rfl (zI5 _ _)) (Rn.q rfl (V.cvW underlying35 underlying3 rfl) ?_)));obtain ⟨p61,e61,hM⟩:=zAb hM;have hm62:=hm57.cu [0,1,2,3,4,5] [6]
    refine Rn.a1 (cK func174) (m_vary_PutInt_sim e61 hm62.lend :) hm62 fun F61_p0 w61 hm64=>?_
    refine gg 6 rfl ?_;exact hn57 ((W64 (y55+1)),p61,F54,F61_p0) _ _ sA (hm64.pk [0,1,2,3,4,5,6]) hM
   refine gg 1 rfl ?_;exact hk3 (y56,F54,F56) _ _ sA (hm57.pk [0,1,2,3,4,5,6]) hM
  refine gg 3 rfl ?_;obtain ⟨p65,e65,hM⟩:=zAb hM;have hm66:=hm18.cu [0,2,3,4] [1]
  refine Rn.a1 (cK func176) (m_bitio_Writer_Put_sim e65 hm66.lend :) hm66 fun F65_p0 w65 hm68=>?_
  refine gg 5 rfl (Rn.q rfl (V.ldB isAgg3 rfl (hm68.get 3 rfl) rfl) (gg 1 rfl (Rn.q rfl (V.cv64 underlying3 underlying35 rfl) ?_)));obtain ⟨p69,e69,hM⟩:=zAb hM;have hm70:=hm68.cu [0,1,2,3] [4]
  refine Rn.a1 (cK func176) (m_bitio_Writer_Put_sim e69 hm70.lend :) hm70 fun F69_p0 w69 hm72=>?_
  refine gg 5 rfl (Rn.q rfl (V.ldBA [_,_] isAgg38 sizeOf38 rfl (hm72.get 3 rfl) rfl rfl) (gg 1 rfl (Rn.q rfl (V.ldBA [_,_] isAgg38 sizeOf38 rfl (hm72.get 3 rfl) rfl rfl) (Rn.bslS rfl rfl rfl underlying236 el38 rfl rfl rfl rfl (by first|exact szs rfl|(simp [Value.cells];done)) (by decide) ?_))));intro b73 w73 hb73 m73 e73;have hm74:=hm72.addLitZ (rep:=zA9.rep) (xs:=([x2.Pos,x2.Neg]:List zA9)) (vss:=[[iv x2.Pos.Offset,.slice Ar3 (x2.Pos.Counts).length cr3],[iv x2.Neg.Offset,.slice Ar5 (x2.Neg.Counts).length cr5]]) hb73 e73 m73 rfl rfl rfl ((zOq (show zA9.rep.rel _ _ _ _ from ⟨_,_,rfl,⟨rfl,trivial⟩,⟨_,_,rfl,(hm72.get 1 rfl).1,(hm72.get 1 rfl).2.1,(hm72.get 1 rfl).2.2⟩⟩) (zOq (show zA9.rep.rel _ _ _ _ from ⟨_,_,rfl,⟨rfl,trivial⟩,⟨_,_,rfl,(hm72.get 2 rfl).1,(hm72.get 2 rfl).2.1,(hm72.get 2 rfl).2.2⟩⟩) zc6)));refine Rn.q rfl (V.lenV underlying236 rfl) (gg 2 rfl ?_);refine Rn.jG hm0 hM (G:=zA2×(Nat→Prop)×(Nat→Prop)) (fun g=>[(0,pt b0 0),(1,pt b1 0),(5,pt b9 0)]) (fun g=>[zA4.obj (g.2.1) b0 x0,slR Ar3 cr3 zAq x2.Pos.Counts,slR Ar5 cr5 zAq x2.Neg.Counts,zAh b9 40 [iv x2.Scale,zAl x2.Zero,iv x2.Pos.Offset,.slice Ar3 (x2.Pos.Counts).length cr3,iv x2.Neg.Offset,.slice Ar5 (x2.Neg.Counts).length cr5],zBi 38 (some ⟨b73,0,none⟩) 2 zA9.rep ([x2.Pos,x2.Neg]:List zA9),zA2.obj (g.2.2) b1 (g.1)]) (fun j g=>j g.1) ?_ ?_
  ·rintro ⟨y77,F76,F77⟩ w78 hm78 hM
   try dsimp only at hM
   refine gg 2 rfl (Rn.q rfl (V.ldBA [_,_,_,_,_,_] isAgg40 sizeOf40 rfl (hm78.get 3 rfl) rfl rfl) ?_);obtain ⟨p79,e79,hM⟩:=zAb hM
   refine Rn.c2 (cK func139) (zEz (Z0:=All) e79 (show zA3.rep.rel All _ _ _ from ⟨_,_,rfl,⟨rfl,trivial⟩,⟨_,_,rfl,⟨rfl,trivial⟩,⟨_,_,rfl,⟨_,_,rfl,⟨rfl,trivial⟩,⟨_,_,rfl,(zA7 (hm78.get 1 rfl)).1,(zA7 (hm78.get 1 rfl)).2.1,(zA7 (hm78.get 1 rfl)).2.2⟩⟩,⟨_,_,rfl,⟨rfl,trivial⟩,⟨_,_,rfl,(zA7 (hm78.get 2 rfl)).1,(zA7 (hm78.get 2 rfl)).2.1,(zA7 (hm78.get 2 rfl)).2.2⟩⟩⟩⟩⟩) :) fun A79_0_0 c79_0_0 w79 hq79=>?_
   have hm81:=hm78.callF (flC (zBf zDy _ _ _ _) fl0) hq79;refine Rn.q rfl (V.lenV underlying36 rfl) (gg 2 rfl ?_);refine Rn.jG hm0 hM (G:=zA2×(Nat→Prop)×(Nat→Prop)) (fun g=>[(0,pt b0 0),(5,pt b9 0)]) (fun g=>[zA4.obj (g.2.1) b0 x0,slR Ar3 cr3 zAq x2.Pos.Counts,slR Ar5 cr5 zAq x2.Neg.Counts,zAh b9 40 [iv x2.Scale,zAl x2.Zero,iv x2.Pos.Offset,.slice Ar3 (x2.Pos.Counts).length cr3,iv x2.Neg.Offset,.slice Ar5 (x2.Neg.Counts).length cr5],zBi 38 (some ⟨b73,0,none⟩) 2 zA9.rep ([x2.Pos,x2.Neg]:List zA9),zBi 35 A79_0_0 c79_0_0 zAq p79,zA2.obj (g.2.2) b1 (g.1)]) (fun j g=>j g.1) ?_ ?_
   ·rintro ⟨y83,F82,F83⟩ w84 hm84 hM
    try dsimp only at hM
    exact hk2 (y83,F82,F83) _ _ sA (hm84.pk [0,1,2,3,6]) hM
   intro j5 hM hk5;refine gg 1 rfl ?_;refine Rn.loopF (G:=Int×zA2×(Nat→Prop)×(Nat→Prop)) (fun g=>[(0,pt b0 0),(1,pt b1 0),(5,pt b9 0),(94,.slice A79_0_0 (p79).length c79_0_0),(95,iv (p79.length:Int)),(96,iv (g.1))]) (fun g w'=>Hp Z0 (LS [zA4.obj F0 b0 x0,zA2.obj F1 b1 x1,zPy zA3.rep [iv x2.Scale,zAl x2.Zero,iv x2.Pos.Offset,.slice Ar3 (x2.Pos.Counts).length cr3,iv x2.Neg.Offset,.slice Ar5 (x2.Neg.Counts).length cr5] x2]) w w' [zA4.obj (g.2.2.1) b0 x0,slR Ar3 cr3 zAq x2.Pos.Counts,slR Ar5 cr5 zAq x2.Neg.Counts,zAh b9 40 [iv x2.Scale,zAl x2.Zero,iv x2.Pos.Offset,.slice Ar3 (x2.Pos.Counts).length cr3,iv x2.Neg.Offset,.slice Ar5 (x2.Neg.Counts).length cr5],zBi 38 (some ⟨b73,0,none⟩) 2 zA9.rep ([x2.Pos,x2.Neg]:List zA9),zBi 35 A79_0_0 c79_0_0 zAq p79,zA2.obj (g.2.2.2) b1 (g.2.1)]) (fun n g=>zBa p79 j5 n g.1 g.2.1) fuel (0,y77,F76,F77) sA (hm81.pk [0,1,2,3,4,6,5]) hM (fun _=>rfl) ?_;clear hM;rintro m88 ⟨y86,y87,F85,F87⟩ w88 hm88 hM hn88;replace hM:zBa p79 j5 (m88+1) y86 y87=some r:=hM;rw [zBa] at hM;refine gg 5 rfl ?_;refine aD hM (fun h89 hM=>?_) (fun h89 hM=>?_)
   ·refine gg 5 rfl ?_;obtain ⟨z90,e90,hM⟩:=zAb hM;obtain ⟨kk90,ke90,kz90,kl90⟩:=zGz e90;obtain ⟨g90,vs90,hA90,hR90,hrel90⟩:=hm88.ownAt 5 rfl kz90;subst hA90;obtain ⟨rfl,_⟩:=hrel90;refine Rn.q rfl (V.ixE kk90 underlying36 sizeOf35 rfl rfl ke90 kl90) (Rn.q rfl (V.ldR0 isAgg35 rfl hR90 rfl) (gg 5 rfl ?_));obtain ⟨p91,e91,hM⟩:=zAb hM;have hm92:=hm88.cu [0,1,2,3,4,5] [6]
    refine Rn.a1 (cK func122) (m_vary_Put_sim e91 hm92.lend :) hm92 fun F91_p0 w91 hm94=>?_
    refine gg 6 rfl ?_;exact hn88 ((W64 (y86+1)),p91,F85,F91_p0) _ _ sA (hm94.pk [0,1,2,3,4,5,6]) hM
   refine gg 1 rfl ?_;exact hk5 (y87,F85,F87) _ _ sA (hm88.pk [0,1,2,3,4,5,6]) hM
  intro j4 hM hk4;refine gg 1 rfl ?_;refine Rn.loopF (G:=Int×zA2×(Nat→Prop)×(Nat→Prop)) (fun g=>[(0,pt b0 0),(1,pt b1 0),(5,pt b9 0),(72,.slice (some ⟨b73,0,none⟩) (([x2.Pos,x2.Neg]:List zA9)).length 2),(73,iv (([x2.Pos,x2.Neg]:List zA9).length:Int)),(74,iv (g.1))]) (fun g w'=>Hp Z0 (LS [zA4.obj F0 b0 x0,zA2.obj F1 b1 x1,zPy zA3.rep [iv x2.Scale,zAl x2.Zero,iv x2.Pos.Offset,.slice Ar3 (x2.Pos.Counts).length cr3,iv x2.Neg.Offset,.slice Ar5 (x2.Neg.Counts).length cr5] x2]) w w' [zA4.obj (g.2.2.1) b0 x0,slR Ar3 cr3 zAq x2.Pos.Counts,slR Ar5 cr5 zAq x2.Neg.Counts,zAh b9 40 [iv x2.Scale,zAl x2.Zero,iv x2.Pos.Offset,.slice Ar3 (x2.Pos.Counts).length cr3,iv x2.Neg.Offset,.slice Ar5 (x2.Neg.Counts).length cr5],zBi 38 (some ⟨b73,0,none⟩) 2 zA9.rep ([x2.Pos,x2.Neg]:List zA9),zA2.obj (g.2.2.2) b1 (g.2.1)]) (fun n g=>zBp x2 j4 n g.1 g.2.1) fuel (0,p69.2,F15,F69_p0) sA (hm74.pk [0,1,2,3,5,4]) hM (fun _=>rfl) ?_;clear hM;rintro m98 ⟨y96,y97,F95,F97⟩ w98 hm98 hM hn98;replace hM:zBp x2 j4 (m98+1) y96 y97=some r:=hM;rw [zBp] at hM;refine gg 5 rfl ?_;refine aD hM (fun h99 hM=>?_) (fun h99 hM=>?_)
  ·refine gg 2 rfl ?_;refine Rn.jG hm0 hM (G:=zA2×(Nat→Prop)×(Nat→Prop)) (fun g=>[(0,pt b0 0),(1,pt b1 0),(5,pt b9 0),(72,.slice (some ⟨b73,0,none⟩) (([x2.Pos,x2.Neg]:List zA9)).length 2),(73,iv (([x2.Pos,x2.Neg]:List zA9).length:Int)),(74,iv y96)]) (fun g=>[zA4.obj (g.2.1) b0 x0,slR Ar3 cr3 zAq x2.Pos.Counts,slR Ar5 cr5 zAq x2.Neg.Counts,zAh b9 40 [iv x2.Scale,zAl x2.Zero,iv x2.Pos.Offset,.slice Ar3 (x2.Pos.Counts).length cr3,iv x2.Neg.Offset,.slice Ar5 (x2.Neg.Counts).length cr5],zBi 38 (some ⟨b73,0,none⟩) 2 zA9.rep ([x2.Pos,x2.Neg]:List zA9),zA2.obj (g.2.2) b1 (g.1)]) (fun j g=>j g.1) ?_ ?_
   ·rintro ⟨y101,F100,F101⟩ w102 hm102 hM
    try dsimp only at hM
    refine gg 4 rfl ?_;exact hn98 ((W64 (y96+1)),y101,F100,F101) _ _ sA (hm102.pk [0,1,2,3,4,5]) hM
   intro j6 hM hk6;refine gg 3 rfl ?_;obtain ⟨z103,e103,hM⟩:=zAb hM;obtain ⟨kk103,ke103,kz103,kl103⟩:=zGz e103;obtain ⟨vs103,hR103,hrel103⟩:=hm98.ownAtL 4 rfl kz103;obtain ⟨Ar104,cr104,rfl,fs104⟩:=zA9.relE hrel103;have hm106:=Hp.knowL [slR Ar104 cr104 zAq z103.Counts] _ hm98 (knC (fun _ h=>h) fs104 kn0);refine Rn.q rfl (V.ixE kk103 underlying236 sizeOf38 rfl rfl ke103 kl103) (Rn.q rfl (V.ldA (vs:=[_,_]) isAgg38 sizeOf38 rfl (Rd.pre hR103 2) rfl) (Rn.als rfl rfl rfl Tryz.zeroValue38 rfl sizeOf38 rfl rfl rfl rfl (by first|exact zJg rfl|(simp [Value.oneCell'];done)) ?_));intro b107 w107 hb107 m107 e107;have hm109:=(hm106.addBox hb107 e107 m107).nf [_,_,_,_,_,_,_,zAh _ _ [_,_]] rfl;refine gg 5 rfl (Rn.q rfl (V.ldB isAgg36 rfl (hm109.get 7 rfl) rfl) (Rn.q rfl (V.lenV underlying36 rfl) (Rn.q rfl (V.cv64 underlying3 underlying35 rfl) ?_)));obtain ⟨p110,e110,hM⟩:=zAb hM;have hm111:=hm109.cu [0,1,2,3,4,6,7] [5]
   refine Rn.a1 (cK func176) (m_bitio_Writer_Put_sim e110 hm111.lend :) hm111 fun F110_p0 w110 hm113=>?_
   refine gg 4 rfl (Rn.q rfl (V.ldB isAgg36 rfl (hm113.get 6 rfl) rfl) (Rn.q rfl (V.lenV underlying36 rfl) (gg 2 rfl ?_)));refine aD hM (fun h114 hM=>?_) (fun h114 hM=>?_)
   ·refine gg 3 rfl (Rn.q rfl (V.ldB isAgg3 rfl (hm113.get 6 rfl) rfl) ?_);obtain ⟨p115,e115,hM⟩:=zAb hM;have hm116:=hm113.cu [0,1,2,3,4,5,6] [7]
    refine Rn.a1 (cK func174) (m_vary_PutInt_sim e115 hm116.lend :) hm116 fun F115_p0 w115 hm118=>?_
    refine gg 2 rfl ?_;exact hk6 (p115,F95,F115_p0) _ _ sA (hm118.pk [0,1,2,3,4,7]) hM
   refine gg 2 rfl ?_;exact hk6 (p110.2,F95,F110_p0) _ _ sA (hm113.pk [0,1,2,3,4,7]) hM
  refine gg 1 rfl ?_;exact hk4 (y97,F95,F97) _ _ sA (hm98.pk [0,1,2,3,4,5]) hM
 intro j1 hM hk1;refine Rn.drawH rfl hm13 ?_;intro w119 hm119;refine dq [0,1,2] ?_;obtain ⟨_,⟨A120_0,c120_0,A120_1,c120_1,rfl⟩,hm120⟩:=hm119.unf 0 rfl;replace hm120:=hm120.nq
 refine RH.here fun hS3=>RH.on 3 rfl (V.ldB isAgg3 rfl (hm120.get 5 rfl) rfl) hS3 ?_
 refine dq [4,5] ?_;refine zIu hM (RH.partD (t:=25) rfl) (fun h123 hM=>?_) (fun h123 hM=>?_)
 ·refine RH.tk 6 rfl (fun w' hDr=>V.ldBA [_,_,_,_,_,_] isAgg40 sizeOf40 rfl ((hm120.ext hDr).get 4 rfl) rfl rfl) ?_;refine dq [8,9,10] ?_;refine RH.tk 11 rfl (fun w' hDr=>V.ldBA [_,_,_,_,_,_] isAgg40 sizeOf40 rfl ((hm120.ext hDr).get 5 rfl) rfl rfl) ?_;obtain ⟨p124,e124,hM⟩:=zAb hM;refine RH.cq (cK func144) 7 (zGf (Z0:=All) e124 (show zA3.rep.rel All _ _ _ from ⟨_,_,rfl,⟨rfl,trivial⟩,⟨_,_,rfl,⟨rfl,trivial⟩,⟨_,_,rfl,⟨_,_,rfl,⟨rfl,trivial⟩,⟨_,_,rfl,(zA7 (hm120.get 2 rfl)).1,(zA7 (hm120.get 2 rfl)).2.1,(zA7 (hm120.get 2 rfl)).2.2⟩⟩,⟨_,_,rfl,⟨rfl,trivial⟩,⟨_,_,rfl,(zA7 (hm120.get 3 rfl)).1,(zA7 (hm120.get 3 rfl)).2.1,(zA7 (hm120.get 3 rfl)).2.2⟩⟩⟩⟩⟩) :) ?_;rintro _ w124 ⟨rfl,hq124⟩;refine ⟨_,rfl,((Ext.refl _).trans hq124.fr),?_⟩;have hm125:=hm120.call0 hq124;obtain ⟨p126,e126,hM⟩:=zAb hM;refine RH.cq (cK func144) 12 (zGf (Z0:=All) e126 (show zA3.rep.rel All _ _ _ from ⟨_,_,rfl,⟨rfl,trivial⟩,⟨_,_,rfl,⟨rfl,trivial⟩,⟨_,_,rfl,⟨_,_,rfl,⟨rfl,trivial⟩,⟨_,_,rfl,(zB4 (hm125.get 6 rfl)).1,(zB4 (hm125.get 6 rfl)).2.1,(zB4 (hm125.get 6 rfl)).2.2⟩⟩,⟨_,_,rfl,⟨rfl,trivial⟩,⟨_,_,rfl,(zB4 (hm125.get 7 rfl)).1,(zB4 (hm125.get 7 rfl)).2.1,(zB4 (hm125.get 7 rfl)).2.2⟩⟩⟩⟩⟩) :) ?_;rintro _ w126 ⟨rfl,hq126⟩;refine ⟨_,rfl,(((Ext.refl _).trans hq124.fr).trans hq126.fr),?_⟩;have hm127:=hm125.call0 hq126
  refine RH.here fun hS13=>RH.on 13 rfl (V.eqlT Tryz.eqGuardType206 rfl rfl (zcv _ _)) hS13 ?_
  refine dq [14] ?_;refine RH.doneP (by kernel_rfl) ?_;have hm129:=hm127.cu [0,1,2,3,4] [5,6,7];obtain ⟨F128,hm128⟩:=hm129.fold (zA4.sh b0 x0) ⟨A120_0,c120_0,A120_1,c120_1,rfl⟩;exact hk1 ((decide (p124=p126)),F128,F1) _ _ sA (hm128.pk [5,0,2,3,4]) hM
 refine dq [6,7,8,9,10,11,12,13,14] ?_;refine RH.doneP (by kernel_rfl) ?_;have hm131:=hm120.cu [0,1,2,3,4] [5,6,7];obtain ⟨F130,hm130⟩:=hm131.fold (zA4.sh b0 x0) ⟨A120_0,c120_0,A120_1,c120_1,rfl⟩;exact hk1 (false,F130,F1) _ _ sA (hm130.pk [5,0,2,3,4]) hM
theorem zI9 {x0:UInt64} {r:Int} (hM:zFb x0=some r)  :
 Calls prog 191 #[zAl x0] w fun x w'=>x=.returned (iv r)∧Hp Z0 No w w' []:=by
 have hm0:=Hp.nil Z0 No w;have hc0:=Calm.nil;refine Rn.en func191 ?_;refine gg 8 rfl (Rn.q rfl (V.geq rfl rfl) (gg 1 rfl ?_));refine Rn.jG hm0 hM (G:=UInt64×Int) (fun g=>[(0,zAl (g.1)),(2,iv (g.2))]) (fun g=>[]) (fun j g=>j g.1 g.2) ?_ ?_
 ·rintro ⟨y1,y2⟩ w3 hm3 hM
  try dsimp only at hM
  refine gg 4 rfl (Rn.q rfl (V.geq rfl rfl) (gg 1 rfl ?_));refine Rn.jG hm0 hM (G:=UInt64×Int) (fun g=>[(0,zAl (g.1)),(2,iv (g.2))]) (fun g=>[]) (fun j g=>j g.1 g.2) ?_ ?_
  ·rintro ⟨y4,y5⟩ w6 hm6 hM
   try dsimp only at hM
   refine gg 4 rfl (Rn.q rfl (V.geq rfl rfl) (gg 1 rfl ?_));refine Rn.jG hm0 hM (G:=UInt64×Int) (fun g=>[(0,zAl (g.1)),(2,iv (g.2))]) (fun g=>[]) (fun j g=>j g.1 g.2) ?_ ?_
   ·rintro ⟨y7,y8⟩ w9 hm9 hM
    try dsimp only at hM
    refine gg 4 rfl (Rn.q rfl (V.cv8 underlying35 underlying5 rfl) ?_);obtain ⟨z10,e10,hM⟩:=zAb hM;refine Rn.q rfl (V.idxSZ underlying9 rfl rfl e10) (Rn.q rfl (V.cv8i (a:=z10) underlying5 underlying3 rfl) (gg 3 rfl ?_))
    cases hM
    exact Rn.R1 func191 ⟨rfl,hm9.pk []⟩
   intro j3 hM hk3;refine aD hM (fun h11 hM=>?_) (fun h11 hM=>?_)
   ·refine gg 3 rfl (Rn.q rfl (V.sh64 rfl rfl _ 8 rfl rfl (zKm _ _ _ 8 (by decide))) (gg 7 rfl ?_));exact hk3 ((y4>>>UInt64.ofNat 8),(W64 (y5+8))) _ _ sA (hm6.pk []) hM
   refine gg 1 rfl ?_;exact hk3 (y4,y5) _ _ sA (hm6.pk []) hM
  intro j2 hM hk2;refine aD hM (fun h12 hM=>?_) (fun h12 hM=>?_)
  ·refine gg 3 rfl (Rn.q rfl (V.sh64 rfl rfl _ 16 rfl rfl (zKm _ _ _ 16 (by decide))) (gg 7 rfl ?_));exact hk2 ((y1>>>UInt64.ofNat 16),(W64 (y2+16))) _ _ sA (hm3.pk []) hM
  refine gg 1 rfl ?_;exact hk2 (y1,y2) _ _ sA (hm3.pk []) hM
 intro j1 hM hk1;refine aD hM (fun h13 hM=>?_) (fun h13 hM=>?_)
 ·refine gg 3 rfl (Rn.q rfl (V.sh64 rfl rfl _ 32 rfl rfl (zKm _ _ _ 32 (by decide))) (gg 5 rfl ?_));exact hk1 ((x0>>>UInt64.ofNat 32),32) _ _ sA (hm0.pk []) hM
 refine gg 1 rfl ?_;exact hk1 (x0,0) _ _ sA (hm0.pk []) hM
theorem zFg {x0:UInt64} {r:Int} (hM:zCu x0=some r)  :
 Calls prog 218 #[zAl x0] w fun x w'=>x=.returned (iv r)∧Hp Z0 No w w' []:=by
 have hm0:=Hp.nil Z0 No w;have hc0:=Calm.nil;refine Rn.en func218 ?_;refine gg 7 rfl ?_;obtain ⟨p1,e1,hM⟩:=zAb hM
 refine Rn.c0 (cK func191) (zI9 (Z0:=All) e1  :) hm0 fun w1 _ hm2=>?_
 refine gg 3 rfl ?_
 cases hM
 exact Rn.R1 func218 ⟨rfl,hm2.pk []⟩
theorem zFa {x0:UInt64} {r:Int} (hM:zCq x0=some r) (f0:(rdR 3 0 gl3).H Z0 w) :
 Calls prog 219 #[zAl x0] w fun x w'=>x=.returned (iv r)∧Hp Z0 No w w' []:=by
 have hm0:=Hp.nil Z0 No w;have hc0:=Calm.nil;obtain ⟨hm2,hc0⟩:=hm0.kn hc0 f0;refine Rn.en func219 ?_;refine gg 8 rfl (Rn.q rfl (V.eql rfl rfl) (gg 1 rfl ?_));refine aD hM (fun h3 hM=>?_) (fun h3 hM=>?_)
 ·refine gg 4 rfl ?_
  cases hM
  exact Rn.R1 func219 ⟨rfl,hm2.pk []⟩
 refine gg 5 rfl (Rn.q rfl (V.neg64U (a:=x0) rfl) (Rn.q rfl (V.o64 rfl rfl x0 (0-x0) rfl rfl (zPd _ _ _)) (Rn.q rfl (V.ari64 (a:=x0&&&(0-x0)) (b:=(285870213051353865:UInt64)) rfl rfl _ rfl (zUm _ _)) (Rn.q rfl (V.sh64 rfl rfl _ 58 rfl rfl (zKm _ _ _ 58 (by decide))) ?_))));obtain ⟨z4,e4,hM⟩:=zAb hM;obtain ⟨kk4,ke4,kz4,kl4⟩:=zGz e4;have hm6:=Hp.knowL [rdR 3 (0+kk4*1) [u8v z4]] _ hm2 (knC (fun _ h=>h) (rdT (hm2.get 0 rfl) kz4) kn0);refine Rn.q rfl (V.ixR kk4 underlying270 sizeOf5 rfl rfl ke4 (Nat.lt_of_lt_of_eq kl4 rfl)) (Rn.q rfl (V.ldR0 isAgg5 rfl (hm6.get 1 rfl).2 rfl) (Rn.q rfl (V.cv8i (a:=z4) underlying5 underlying3 rfl) (gg 2 rfl ?_)))
 cases hM
 exact Rn.R1 func219 ⟨rfl,hm6.pk []⟩
theorem zCt {x0:zAt} {r:Int} (hM:zB5 x0=some r)  :
 Calls prog 182 #[.agg [iv x0.ahead,iv x0.size].toArray] w fun x w'=>x=.returned (iv r)∧Hp Z0 No w w' []:=by
 have hm0:=Hp.nil Z0 No w;have hc0:=Calm.nil;refine Rn.en func182 ?_;refine gg 2 rfl (Rn.box rfl rfl rfl rfl rfl ?_);intro b1 w1 hb1 m1 e1;have hm3:=(hm0.addBox hb1 e1 m1).nf [zAh _ _ [_,_]] rfl;refine gg 5 rfl (Rn.q rfl (V.ldB isAgg3 rfl (hm3.get 0 rfl) rfl) (gg 2 rfl (Rn.q rfl (V.ldB isAgg3 rfl (hm3.get 0 rfl) rfl) (gg 3 rfl ?_))))
 cases hM
 exact Rn.R1 func182 ⟨rfl,hm3.pk []⟩
theorem zHj {x0:zAt} {x1:UInt64} {r:Bool} (hM:zDz x0 x1=some r) (f0:(rdR 1 0 gl1).H Z0 w) (f1:(rdR 3 0 gl3).H Z0 w) :
 Calls prog 181 #[.agg [iv x0.ahead,iv x0.size].toArray,zAl x1] w fun x w'=>x=.returned (.bool (r))∧Hp Z0 No w w' []:=by
 have hm0:=Hp.nil Z0 No w;have hc0:=Calm.nil;obtain ⟨hm3,hc0⟩:=hm0.kn hc0 f0;obtain ⟨hm4,hc0⟩:=hm3.kn hc0 f1;refine Rn.en func181 ?_;refine gg 2 rfl (Rn.box rfl rfl rfl rfl rfl ?_);intro b5 w5 hb5 m5 e5;have hm7:=(hm4.addBox hb5 e5 m5).nf [_,_,zAh _ _ [_,_]] rfl;refine gg 3 rfl ?_;refine Rn.drawH rfl hm7 ?_;intro w8 hm8;refine RH.tk 0 rfl (fun w' hDr=>V.ldBA [_,_] isAgg188 sizeOf188 rfl ((hm8.ext hDr).get 2 rfl) rfl rfl) ?_
 refine RH.here fun hS1=>RH.on 1 rfl (V.ldA (vs:=[iv 0,iv 0]) isAgg188 sizeOf188 rfl (hm8.get 0 rfl).2 rfl) hS1 ?_
 refine RH.here fun hS2=>RH.on 2 rfl (V.neqT Tryz.eqGuardType188 rfl rfl (zar _ ({ ahead:=0,size:=0 }:zAt))) hS2 ?_
 refine dq [3] ?_;refine zIu hM (RH.partD (t:=8) rfl) (fun h9 hM=>?_) (fun h9 hM=>?_)
 ·refine dq [4,6] ?_;refine RH.tk 7 rfl (fun w' hDr=>V.ldB isAgg3 rfl ((hm8.ext hDr).get 2 rfl) rfl) ?_;obtain ⟨p10,e10,hM⟩:=zAb hM;refine RH.cq (cK func218) 5 (zFg (Z0:=All) e10  :) ?_;rintro _ w10 ⟨rfl,hq10⟩;refine ⟨_,rfl,((Ext.refl _).trans hq10.fr),?_⟩;have hm11:=hm8.call0 hq10;refine dq [8,9,10] ?_;refine zIu hM (RH.partD (t:=15) rfl) (fun h12 hM=>?_) (fun h12 hM=>?_)
  ·refine dq [11] ?_;refine RH.tk 13 rfl (fun w' hDr=>V.ldBA [_,_] isAgg188 sizeOf188 rfl ((hm8.ext hDr).get 2 rfl) rfl rfl) ?_;obtain ⟨p13,e13,hM⟩:=zAb hM;refine RH.cq (cK func219) 12 (zFa (Z0:=All) e13 (zF8 (hm11.get 1 rfl)) :) ?_;rintro _ w13 ⟨rfl,hq13⟩;refine ⟨_,rfl,(((Ext.refl _).trans hq10.fr).trans hq13.fr),?_⟩;have hm14:=hm11.call0 hq13;obtain ⟨p15,e15,hM⟩:=zAb hM;refine RH.cq (cK func182) 14 (zCt (Z0:=All) e15  :) ?_;rintro _ w15 ⟨rfl,hq15⟩;refine ⟨_,rfl,((((Ext.refl _).trans hq10.fr).trans hq13.fr).trans hq15.fr),?_⟩;have hm16:=hm14.call0 hq15;refine dq [15,16,17] ?_;refine RH.doneP (by kernel_rfl) ?_
   cases hM
   exact Rn.R1 func181 ⟨rfl,hm16.pk []⟩
  refine dq [11,12,13,14,15,16,17] ?_;refine RH.doneP (by kernel_rfl) ?_
  cases hM
  exact Rn.R1 func181 ⟨rfl,hm11.pk []⟩
 refine dq [4,5,6,7,8,9,10,11,12,13,14,15,16,17] ?_;refine RH.doneP (by kernel_rfl) ?_
 cases hM
 exact Rn.R1 func181 ⟨rfl,hm8.pk []⟩
theorem zKo {x0:UInt64} {r:zAt} (hM:zH0 x0=some r) (f0:(rdR 3 0 gl3).H Z0 w) :
 Calls prog 183 #[zAl x0] w fun x w'=>x=.returned (.agg [iv r.ahead,iv r.size].toArray)∧Hp Z0 No w w' []:=by
 have hm0:=Hp.nil Z0 No w;have hc0:=Calm.nil;obtain ⟨hm2,hc0⟩:=hm0.kn hc0 f0;refine Rn.en func183 ?_;refine gg 2 rfl (Rn.alloc rfl rfl rfl Tryz.zeroValue188 rfl ?_);intro b3 w3 hb3 m3 e3;have hm5:=(hm2.addBox hb3 e3 m3).nf [_,zAh _ _ [_,_]] rfl;refine gg 4 rfl ?_;obtain ⟨p6,e6,hM⟩:=zAb hM
 refine Rn.c0 (cK func218) (zFg (Z0:=All) e6  :) hm5 fun w6 _ hm7=>?_
 refine Rn.q rfl (V.mini rfl rfl) (gg 8 rfl ?_);obtain ⟨p8,e8,hM⟩:=zAb hM
 refine Rn.c0 (cK func219) (zFa (Z0:=All) e8 (zF8 (hm7.get 0 rfl)) :) hm7 fun w8 _ hm9=>?_
 refine gg 1 rfl (Rn.q rfl (V.bldS (cs:=[_,_]) zbz rfl rfl) (Rn.sq rfl sizeOf188 rfl rfl (hm9.get 1 rfl) ?_));intro w10 m10 x10;have hm11:=(hm9.st 1 rfl x10 m10).nf [_,zAh _ _ [_,_]] rfl;refine gg 1 rfl ?_;refine Rn.retG1 func183 rfl (rvC rfl isAgg188 sizeOf188 (hm11.get 1 rfl) rfl) ?_;obtain rfl:=zDt hM;exact ⟨rfl,hm11.pk []⟩
theorem m_xor_Row_Put_sim {x0:zAg} {x1:zA2} {x2:UInt64} {r:(zA2×zAg)} (hM:zDp x0 x1 x2=some r) (hL:zIg Z0 w [zAh b0 190 [iv x0.n,zAl x0.last,iv x0.win.ahead,iv x0.win.size],zA2.obj F1 b1 x1,rdR 1 0 gl1,rdR 3 0 gl3]) :
 Calls prog 124 #[pt b0 0,pt b1 0,zAl x2] w fun x w'=>∃ F_p1,x=.returned (.tuple #[])∧Hp Z0 (LS [zAh b0 190 [iv x0.n,zAl x0.last,iv x0.win.ahead,iv x0.win.size],zA2.obj F1 b1 x1,rdR 1 0 gl1,rdR 3 0 gl3]) w w' [zA2.obj F_p1 b1 r.1,zAh b0 190 [iv r.2.n,zAl r.2.last,iv r.2.win.ahead,iv r.2.win.size]]:=by
 have hm0:=hL.start;refine Rn.en func124 ?_;refine gg 6 rfl (Rn.q rfl (V.ldB isAgg35 rfl (hm0.get 0 rfl) rfl) (Rn.q rfl (V.o64 rfl rfl x2 x0.last rfl rfl (zSl _ _ _)) (gg 3 rfl ?_)));refine Rn.jG hm0 hM (G:=zA2×zAg×(Nat→Prop)) (fun g=>[(0,pt b0 0),(2,zAl x2)]) (fun g=>[rdR 1 0 gl1,rdR 3 0 gl3,zA2.obj (g.2.2) b1 (g.1),zAh b0 190 [iv (g.2.1).n,zAl (g.2.1).last,iv (g.2.1).win.ahead,iv (g.2.1).win.size]]) (fun j g=>j g.1 g.2.1) ?_ ?_
 ·rintro ⟨y5,y6,F5⟩ w7 hm7 hM
  try dsimp only at hM
  refine gg 5 rfl (Rn.q rfl (V.ldB isAgg3 rfl (hm7.get 3 rfl) rfl) (gg 3 rfl (Rn.sq rfl sizeOf3 rfl rfl (hm7.get 3 rfl) ?_)));intro w8 m8 x8;have hm9:=(hm7.st 3 rfl x8 m8).nf [_,_,_,zAh _ _ [_,_,_,_]] rfl;refine gg 6 rfl (Rn.sq rfl sizeOf35 rfl rfl (hm9.get 3 rfl) ?_);intro w10 m10 x10;have hm11:=(hm9.st 3 rfl x10 m10).nf [_,_,_,zAh _ _ [_,_,_,_]] rfl;refine gg 1 rfl ?_;refine Rn.end0 func124 rfl ?_;obtain rfl:=zDt hM;exact ⟨F5,rfl,hm11.pk [2,3]⟩
 intro j1 hM hk1;refine gg 6 rfl (Rn.q rfl (V.ldB isAgg3 rfl (hm0.get 0 rfl) rfl) (gg 3 rfl ?_));refine aD hM (fun h12 hM=>?_) (fun h12 hM=>?_)
 ·refine gg 3 rfl ?_;obtain ⟨p13,e13,hM⟩:=zAb hM;have hm14:=hm0.cu [0,2,3] [1]
  refine Rn.a1 (cK func176) (m_bitio_Writer_Put_sim e13 hm14.lend :) hm14 fun F13_p0 w13 hm16=>?_
  refine gg 2 rfl ?_;exact hk1 (p13.2,x0,F13_p0) _ _ sA (hm16.pk [1,2,3,0]) hM
 refine gg 3 rfl (Rn.q rfl (V.eql rfl rfl) (gg 2 rfl ?_));refine aD hM (fun h17 hM=>?_) (fun h17 hM=>?_)
 ·refine gg 2 rfl ?_;obtain ⟨p18,e18,hM⟩:=zAb hM;have hm19:=hm0.cu [0,2,3] [1]
  refine Rn.a1 (cK func176) (m_bitio_Writer_Put_sim e18 hm19.lend :) hm19 fun F18_p0 w18 hm21=>?_
  refine gg 2 rfl ?_;exact hk1 (p18.2,x0,F18_p0) _ _ sA (hm21.pk [1,2,3,0]) hM
 refine gg 5 rfl (Rn.q rfl (V.ldBA [_,_] isAgg188 sizeOf188 rfl (hm0.get 0 rfl) rfl rfl) (gg 1 rfl ?_));obtain ⟨p22,e22,hM⟩:=zAb hM
 refine Rn.c0 (cK func181) (zHj (Z0:=All) e22 (zF8 (hm0.get 2 rfl)) (zF8 (hm0.get 3 rfl)) :) hm0 fun w22 _ hm23=>?_
 refine gg 2 rfl ?_;refine aS hM (fun h24 hM=>?_) (fun h24 hM=>?_)
 ·refine gg 3 rfl ?_;obtain ⟨p25,e25,hM⟩:=zAb hM;have hm26:=hm23.cu [0,2,3] [1]
  refine Rn.a1 (cK func176) (m_bitio_Writer_Put_sim e25 hm26.lend :) hm26 fun F25_p0 w25 hm28=>?_
  refine gg 1 rfl ?_;refine Rn.drawK 14 rfl hm28 (by kernel_rfl) ?_;intro w29 hm29;refine dq [0,1,2,3,4] ?_;refine RH.tk 5 rfl (fun w' hDr=>V.ldBA [_,_] isAgg188 sizeOf188 rfl ((hm29.ext hDr).get 0 rfl) rfl rfl) ?_;refine dq [9,10,11,12] ?_;refine RH.tk 13 rfl (fun w' hDr=>V.ldB isAgg3 rfl ((hm29.ext hDr).get 0 rfl) rfl) ?_;obtain ⟨p30,e30,hM⟩:=zAb hM;refine RH.cq (cK func182) 6 (zCt (Z0:=All) e30  :) ?_;rintro _ w30 ⟨rfl,hq30⟩;refine ⟨_,rfl,((Ext.refl _).trans hq30.fr),?_⟩;have hm31:=hm29.call0 hq30
  refine RH.here fun hS7=>RH.on 7 rfl (V.cv64 underlying3 underlying137 rfl) hS7 ?_
  refine RH.here fun hS8=>RH.on 8 rfl (V.shr64 (a:=x2^^^x0.last) (m:=(zAe p30).toNat) rfl rfl) hS8 ?_
  refine RG.tailK (by kernel_rfl) ?_;obtain ⟨p32,e32,hM⟩:=zAb hM;have hm33:=hm31.cu [0,1,2] [3];refine RH.cq (cK func176) 14 (m_bitio_Writer_Put_sim e32 hm33.lend :) ?_;rintro _ w32 ⟨F32_p0,rfl,hq32⟩;refine ⟨_,rfl,trivial,?_⟩;have hm35:=hm33.callAZ hq32;refine RH.doneP (by kernel_rfl) ?_;refine gg 1 rfl ?_;exact hk1 (p32.2,x0,F32_p0) _ _ sA (hm35.pk [1,2,3,0]) hM
 refine gg 4 rfl ?_;obtain ⟨p36,e36,hM⟩:=zAb hM
 refine Rn.c0 (cK func183) (zKo (Z0:=All) e36 (zF8 (hm23.get 3 rfl)) :) hm23 fun w36 _ hm37=>?_
 refine gg 2 rfl (Rn.sq rfl sizeOf188 rfl rfl (hm37.get 0 rfl) ?_);intro w38 m38 x38;have hm39:=(hm37.st 0 rfl x38 m38).nf [zAh _ _ [_,_,_,_],_,_,_] rfl;refine gg 4 rfl ?_;obtain ⟨p40,e40,hM⟩:=zAb hM;have hm41:=hm39.cu [0,2,3] [1]
 refine Rn.a1 (cK func176) (m_bitio_Writer_Put_sim e40 hm41.lend :) hm41 fun F40_p0 w40 hm43=>?_
 refine gg 8 rfl (Rn.q rfl (V.ldB isAgg3 rfl (hm43.get 0 rfl) rfl) (Rn.q rfl (V.cv64 underlying3 underlying35 rfl) ?_));obtain ⟨p44,e44,hM⟩:=zAb hM;have hm45:=hm43.cu [0,1,2] [3]
 refine Rn.a1 (cK func176) (m_bitio_Writer_Put_sim e44 hm45.lend :) hm45 fun F44_p0 w44 hm47=>?_
 refine gg 8 rfl (Rn.q rfl (V.ldB isAgg3 rfl (hm47.get 0 rfl) rfl) (gg 1 rfl (Rn.q rfl (V.cv64 underlying3 underlying35 rfl) ?_)));obtain ⟨p48,e48,hM⟩:=zAb hM;have hm49:=hm47.cu [0,1,2] [3]
 refine Rn.a1 (cK func176) (m_bitio_Writer_Put_sim e48 hm49.lend :) hm49 fun F48_p0 w48 hm51=>?_
 refine gg 1 rfl ?_;have hm55:=(hm51.cutF [0] [3] [1,2] rfl (by decide) ⟨fun _ h=>h,fun _ h=>h,trivial⟩).nf ([_,_,_]++[_,_,_]) rfl;refine Rn.drawF rfl hm55 ?_;intro w56 hmo56 hm56;refine dq [0,1,2,3,4] ?_;refine RH.tk 5 rfl (fun w' hDr=>V.ldBA [_,_] isAgg188 sizeOf188 rfl ((hmo56.awayK hDr).get 0 rfl) rfl rfl) ?_;refine dq [9,10,11,12] ?_;refine RH.tk 13 rfl (fun w' hDr=>V.ldB isAgg3 rfl ((hmo56.awayK hDr).get 0 rfl) rfl) ?_;obtain ⟨p57,e57,hM⟩:=zAb hM;refine RH.cq (cK func182) 6 (zCt (Z0:=All) e57  :) ?_;rintro _ w57 ⟨rfl,hq57⟩;have hm58:=hm56.call0 hq57;refine ⟨_,rfl,hm58.fr,?_⟩
 refine RH.here fun hS7=>RH.on 7 rfl (V.cv64 underlying3 underlying137 rfl) hS7 ?_
 refine RH.here fun hS8=>RH.on 8 rfl (V.shr64 (a:=x2^^^x0.last) (m:=(zAe p57).toNat) rfl rfl) hS8 ?_
 obtain ⟨p59,e59,hM⟩:=zAb hM;have hm60:=hm58.cu [1,2] [0];refine RH.cq (cK func176) 14 (m_bitio_Writer_Put_sim e59 hm60.lend :) ?_;rintro _ w59 ⟨F59_p0,rfl,hq59⟩;have hm62:=hm60.callAZ hq59;refine ⟨_,rfl,hm62.fr,?_⟩;refine RH.doneP (by kernel_rfl) ?_;have hm63:=hmo56.callAZ hm62;have hm64:=(hm63.pk [0,3,4,5]).nq;refine gg 1 rfl ?_;exact hk1 (p59.2,({ n:=x0.n,last:=x0.last,win:=p36 }:zAg),F59_p0) _ _ sA (hm64.pk [1,2,3,0]) hM
theorem m_chunk_rows_put_sim {F0_ords:Nat→Prop} {b0_ords:Nat} {F0_times:Nat→Prop} {b0_times:Nat} {F0_spans:Nat→Prop} {b0_spans:Nat} {F0_ints:Nat→Prop} {b0_ints:Nat} {F0_re:Nat→Prop} {b0_re:Nat} {F0_im:Nat→Prop} {b0_im:Nat} {F0_hists:Nat→Prop} {b0_hists:Nat} {x0:zAj} {x1:zA2} {x2:Int} {x3:zA6} {r:(zA8×zA8×zA8×zA8×zAg×zAg×zA4×zA2)} (hM:zGx x0 x1 x2 x3=some r) (hL:zIg Z0 w [zA8.obj F0_ords b0_ords x0.ords,zA8.obj F0_times b0_times x0.times,zA8.obj F0_spans b0_spans x0.spans,zA8.obj F0_ints b0_ints x0.ints,zAg.obj F0_re b0_re x0.re,zAg.obj F0_im b0_im x0.im,zA4.obj F0_hists b0_hists x0.hists,zA2.obj F1 b1 x1,rdR 1 0 gl1,rdR 3 0 gl3,zPy zA6.rep cs3 x3]) :
 Calls prog 64 #[.agg [pt b0_ords 0,pt b0_times 0,pt b0_spans 0,pt b0_ints 0,pt b0_re 0,pt b0_im 0,pt b0_hists 0].toArray,pt b1 0,iv x2,.agg cs3.toArray] w fun x w'=>∃ F_p0_ords F_p0_times F_p0_spans F_p0_ints F_p0_re F_p0_im F_p0_hists F_p1,x=.returned (.tuple #[])∧Hp Z0 (LS [zA8.obj F0_ords b0_ords x0.ords,zA8.obj F0_times b0_times x0.times,zA8.obj F0_spans b0_spans x0.spans,zA8.obj F0_ints b0_ints x0.ints,zAg.obj F0_re b0_re x0.re,zAg.obj F0_im b0_im x0.im,zA4.obj F0_hists b0_hists x0.hists,zA2.obj F1 b1 x1,rdR 1 0 gl1,rdR 3 0 gl3,zPy zA6.rep cs3 x3]) w w' [zA8.obj F_p0_ords b0_ords r.1,zA8.obj F_p0_times b0_times r.2.1,zA8.obj F_p0_spans b0_spans r.2.2.1,zA8.obj F_p0_ints b0_ints r.2.2.2.1,zAg.obj F_p0_re b0_re r.2.2.2.2.1,zAg.obj F_p0_im b0_im r.2.2.2.2.2.1,zA4.obj F_p0_hists b0_hists r.2.2.2.2.2.2.1,zA2.obj F_p1 b1 r.2.2.2.2.2.2.2]:=by
 have hm0:=hL.start;have h3:=hm0.get 10 rfl;obtain ⟨Ar9,cr9,Ar11,cr11,Ar13,cr13,rfl,fs9,fs11,fs13⟩:=zA6.relE h3;have hm18:=Hp.knowL [slR Ar9 cr9 zA.rep x3.Attrs,slR Ar11 cr11 zAq x3.Hist.Pos.Counts,slR Ar13 cr13 zAq x3.Hist.Neg.Counts] _ hm0 (knC (fun _ h=>h) fs9 (knC (fun _ h=>h) fs11 (knC (fun _ h=>h) fs13 kn0)));refine Rn.en func64 ?_;refine gg 2 rfl (Rn.box rfl rfl rfl rfl rfl ?_);intro b19 w19 hb19 m19 e19;have hm21:=(hm18.addBox hb19 e19 m19).nf [_,_,_,_,_,_,_,_,_,_,_,_,_,_,zAh _ _ [_,_,_,_,_,_,_]] rfl;refine Rn.box rfl rfl rfl rfl rfl ?_;intro b22 w22 hb22 m22 e22;have hm24:=(hm21.addBox hb22 e22 m22).nf [_,_,_,_,_,_,_,_,_,_,_,_,_,_,_,zAh _ _ [_,_,_,_,_,_,_,_,_,_,_,_,_,_,_,_,_]] rfl;refine gg 4 rfl (Rn.q rfl (V.ldB isAgg76 rfl (hm24.get 14 rfl) rfl) (gg 2 rfl ?_));obtain ⟨_,rfl,hm26⟩:=hm24.unf 0 rfl;replace hm26:=hm26.nq;obtain ⟨p25,e25,hM⟩:=zAb hM;have hm27:=hm26.cu [0,1,2,3,4,5,7,8,9,10,11,12,13,14] [15,6]
 refine Rn.a1 (cK func121) (m_vary_Row_Put_sim e25 hm27.lend :) hm27 fun F25_p1 w25 hm30=>?_
 refine gg 4 rfl (Rn.q rfl (V.ldB isAgg76 rfl (hm30.get 12 rfl) rfl) (gg 2 rfl (Rn.q rfl (V.ldB isAgg3 rfl (hm30.get 13 rfl) rfl) ?_)));obtain ⟨_,rfl,hm32⟩:=hm30.unf 0 rfl;replace hm32:=hm32.nq;obtain ⟨p31,e31,hM⟩:=zAb hM;have hm33:=hm32.cu [0,1,2,3,4,5,6,7,8,9,10,11,12,14] [15,13]
 refine Rn.a1 (cK func121) (m_vary_Row_Put_sim e31 hm33.lend :) hm33 fun F31_p1 w31 hm36=>?_
 refine gg 5 rfl (Rn.q rfl (V.ldB isAgg3 rfl (hm36.get 12 rfl) rfl) (gg 2 rfl ?_));refine Rn.jG hm0 hM (G:=zA8×zA2×(Nat→Prop)×(Nat→Prop)×(Nat→Prop)×(Nat→Prop)×(Nat→Prop)×(Nat→Prop)) (fun g=>[(1,pt b1 0),(4,pt b19 0),(7,pt b22 0)]) (fun g=>[zA8.obj (g.2.2.1) b0_ints x0.ints,zAg.obj (g.2.2.2.1) b0_re x0.re,zAg.obj (g.2.2.2.2.1) b0_im x0.im,zA4.obj (g.2.2.2.2.2.1) b0_hists x0.hists,rdR 1 0 gl1,rdR 3 0 gl3,slR Ar9 cr9 zA.rep x3.Attrs,slR Ar11 cr11 zAq x3.Hist.Pos.Counts,slR Ar13 cr13 zAq x3.Hist.Neg.Counts,zAh b19 80 [pt b0_ords 0,pt b0_times 0,pt b0_spans 0,pt b0_ints 0,pt b0_re 0,pt b0_im 0,pt b0_hists 0],zAh b22 42 [Str (x3.Name),.slice Ar9 (x3.Attrs).length cr9,iv x3.Kind,iv x3.Temp,.bool (x3.Mono),iv x3.Start,iv x3.Time,iv x3.Int_,zAl x3.Re,zAl x3.Im,iv x3.Hist.Scale,zAl x3.Hist.Zero,iv x3.Hist.Pos.Offset,.slice Ar11 (x3.Hist.Pos.Counts).length cr11,iv x3.Hist.Neg.Offset,.slice Ar13 (x3.Hist.Neg.Counts).length cr13,iv x3.Flags],zAh b0_ords 186 [iv p25.2.n,zAl p25.2.last,zAl p25.2.step],zAh b0_times 186 [iv p31.2.n,zAl p31.2.last,zAl p31.2.step],zA8.obj (g.2.2.2.2.2.2.1) b0_spans (g.1),zA2.obj (g.2.2.2.2.2.2.2) b1 (g.2.1)]) (fun j g=>j g.1 g.2.1) ?_ ?_
 ·rintro ⟨y41,y42,F37,F38,F39,F40,F41,F42⟩ w43 hm43 hM
  try dsimp only at hM
  refine gg 4 rfl (Rn.q rfl (V.ldB isAgg3 rfl (hm43.get 10 rfl) rfl) (Rn.q rfl (V.cv64 underlying3 underlying35 rfl) ?_));obtain ⟨p44,e44,hM⟩:=zAb hM;have hm45:=hm43.cu [0,1,2,3,4,5,6,7,8,9,10,11,12,13] [14]
  refine Rn.a1 (cK func122) (m_vary_Put_sim e44 hm45.lend :) hm45 fun F44_p0 w44 hm47=>?_
  refine gg 4 rfl (Rn.q rfl (V.ldB isAgg3 rfl (hm47.get 10 rfl) rfl) (gg 7 rfl ?_));refine aD hM (fun h48 hM=>?_) (fun h48 hM=>?_)
  ·refine gg 2 rfl (Rn.q rfl (V.ldB isAgg76 rfl (hm47.get 9 rfl) rfl) (gg 2 rfl (Rn.q rfl (V.ldB isAgg3 rfl (hm47.get 10 rfl) rfl) ?_)));obtain ⟨_,rfl,hm50⟩:=hm47.unf 0 rfl;replace hm50:=hm50.nq;obtain ⟨p49,e49,hM⟩:=zAb hM;have hm51:=hm50.cu [0,1,2,3,4,5,6,7,8,9,10,11,12] [14,13]
   refine Rn.a1 (cK func121) (m_vary_Row_Put_sim e49 hm51.lend :) hm51 fun F49_p1 w49 hm54=>?_
   refine gg 2 rfl ?_;have hm56:=hm54.cu [0,1,2,3,4,5,6,7,8,9,11,12,13,14] [10];obtain ⟨F55,hm55⟩:=hm56.fold (zA8.sh b0_ords p25.2) rfl;have hm58:=hm55.cu [0,1,2,3,4,5,6,7,8,9,11,12,13,14] [10];obtain ⟨F57,hm57⟩:=hm58.fold (zA8.sh b0_times p31.2) rfl;have hm60:=hm57.cu [0,1,2,3,4,5,6,7,8,9,10,11,13,14] [12];obtain ⟨F59,hm59⟩:=hm60.fold (zA8.sh b0_ints p49.2) rfl;refine Rn.end0 func64 rfl ?_;obtain rfl:=zDt hM;exact ⟨F55,F57,F41,F59,F38,F39,F40,F49_p1,rfl,hm59.pk [12,13,10,14,0,1,2,11]⟩
  refine gg 5 rfl ?_;refine aD hM (fun h61 hM=>?_) (fun h61 hM=>?_)
  ·refine gg 2 rfl (Rn.q rfl (V.ldB isAgg78 rfl (hm47.get 9 rfl) rfl) (gg 2 rfl (Rn.q rfl (V.ldBA [_,_,_,_,_,_] isAgg40 sizeOf40 rfl (hm47.get 10 rfl) rfl rfl) ?_)));obtain ⟨p62,e62,hM⟩:=zAb hM;have hm63:=hm47.know (zPy zA3.rep [iv x3.Hist.Scale,zAl x3.Hist.Zero,iv x3.Hist.Pos.Offset,.slice Ar11 (x3.Hist.Pos.Counts).length cr11,iv x3.Hist.Neg.Offset,.slice Ar13 (x3.Hist.Neg.Counts).length cr13] x3.Hist) (fun _ h=>h) (show zA3.rep.rel _ _ _ _ from ⟨_,_,rfl,⟨rfl,trivial⟩,⟨_,_,rfl,⟨rfl,trivial⟩,⟨_,_,rfl,⟨_,_,rfl,⟨rfl,trivial⟩,⟨_,_,rfl,(hm47.get 7 rfl).1,(hm47.get 7 rfl).2.1,(hm47.get 7 rfl).2.2⟩⟩,⟨_,_,rfl,⟨rfl,trivial⟩,⟨_,_,rfl,(hm47.get 8 rfl).1,(hm47.get 8 rfl).2.1,(hm47.get 8 rfl).2.2⟩⟩⟩⟩⟩);have hm65:=hm63.cu [0,1,2,4,5,6,7,8,9,10,11,12,13] [3,14,15]
   refine Rn.c2 (cK func123) (m_histbits_Row_Put_sim e62 hm65.lend :) fun F62_p0 F62_p1 w62 hq62=>?_
   have hm68:=hm65.callAZ hq62;refine gg 2 rfl ?_;have hm70:=hm68.cu [0,1,2,3,4,5,6,7,8,9,11,12,13,14] [10];obtain ⟨F69,hm69⟩:=hm70.fold (zA8.sh b0_ords p25.2) rfl;have hm72:=hm69.cu [0,1,2,3,4,5,6,7,8,9,11,12,13,14] [10];obtain ⟨F71,hm71⟩:=hm72.fold (zA8.sh b0_times p31.2) rfl;refine Rn.end0 func64 rfl ?_;obtain rfl:=zDt hM;exact ⟨F69,F71,F41,F37,F38,F39,F62_p0,F62_p1,rfl,hm71.pk [13,14,10,0,1,2,11,12]⟩
  refine gg 5 rfl ?_;refine aD hM (fun h73 hM=>?_) (fun h73 hM=>?_)
  ·refine gg 3 rfl (Rn.q rfl (V.ldB isAgg77 rfl (hm47.get 9 rfl) rfl) (gg 2 rfl (Rn.q rfl (V.ldB isAgg35 rfl (hm47.get 10 rfl) rfl) ?_)));obtain ⟨_,rfl,hm75⟩:=hm47.unf 1 rfl;replace hm75:=hm75.nq;obtain ⟨p74,e74,hM⟩:=zAb hM;have hm76:=hm75.dup 3 rfl (fun _ h=>h);have hm78:=hm76.dup 4 rfl (fun _ h=>h);have hm80:=hm78.cu [0,1,2,3,4,5,6,7,8,9,10,11,12] [14,13,15,16]
   refine Rn.a1 (cK func124) (m_xor_Row_Put_sim e74 hm80.lend :) hm80 fun F74_p1 w74 hm83=>?_
   refine gg 3 rfl (Rn.q rfl (V.ldB isAgg77 rfl (hm83.get 8 rfl) rfl) (gg 2 rfl (Rn.q rfl (V.ldB isAgg35 rfl (hm83.get 9 rfl) rfl) ?_)));obtain ⟨_,rfl,hm85⟩:=hm83.unf 1 rfl;replace hm85:=hm85.nq;obtain ⟨p84,e84,hM⟩:=zAb hM;have hm86:=hm85.dup 2 rfl (fun _ h=>h);have hm88:=hm86.dup 3 rfl (fun _ h=>h);have hm90:=hm88.cu [0,1,2,3,4,5,6,7,8,9,10,11,13] [14,12,15,16]
   refine Rn.a1 (cK func124) (m_xor_Row_Put_sim e84 hm90.lend :) hm90 fun F84_p1 w84 hm93=>?_
   refine gg 2 rfl ?_;have hm95:=hm93.cu [0,1,2,3,4,5,6,7,8,10,11,12,13,14] [9];obtain ⟨F94,hm94⟩:=hm95.fold (zA8.sh b0_ords p25.2) rfl;have hm97:=hm94.cu [0,1,2,3,4,5,6,7,8,10,11,12,13,14] [9];obtain ⟨F96,hm96⟩:=hm97.fold (zA8.sh b0_times p31.2) rfl;have hm99:=hm96.cu [0,1,2,3,4,5,6,7,8,9,11,12,13,14] [10];obtain ⟨F98,hm98⟩:=hm99.fold (zAg.sh b0_re p74.2) rfl;have hm101:=hm98.cu [0,1,2,3,4,5,6,7,8,9,10,12,13,14] [11];obtain ⟨F100,hm100⟩:=hm101.fold (zAg.sh b0_im p84.2) rfl;refine Rn.end0 func64 rfl ?_;obtain rfl:=zDt hM;exact ⟨F94,F96,F41,F37,F98,F100,F40,F84_p1,rfl,hm100.pk [11,12,9,0,13,14,1,10]⟩
  refine gg 2 rfl (Rn.q rfl (V.ldB isAgg77 rfl (hm47.get 9 rfl) rfl) (gg 2 rfl (Rn.q rfl (V.ldB isAgg35 rfl (hm47.get 10 rfl) rfl) ?_)));obtain ⟨_,rfl,hm103⟩:=hm47.unf 1 rfl;replace hm103:=hm103.nq;obtain ⟨p102,e102,hM⟩:=zAb hM;have hm104:=hm103.dup 3 rfl (fun _ h=>h);have hm106:=hm104.dup 4 rfl (fun _ h=>h);have hm108:=hm106.cu [0,1,2,3,4,5,6,7,8,9,10,11,12] [14,13,15,16]
  refine Rn.a1 (cK func124) (m_xor_Row_Put_sim e102 hm108.lend :) hm108 fun F102_p1 w102 hm111=>?_
  refine gg 2 rfl ?_;have hm113:=hm111.cu [0,1,2,3,4,5,6,7,8,9,11,12,13,14] [10];obtain ⟨F112,hm112⟩:=hm113.fold (zA8.sh b0_ords p25.2) rfl;have hm115:=hm112.cu [0,1,2,3,4,5,6,7,8,9,11,12,13,14] [10];obtain ⟨F114,hm114⟩:=hm115.fold (zA8.sh b0_times p31.2) rfl;have hm117:=hm114.cu [0,1,2,3,4,5,6,7,8,9,10,11,13,14] [12];obtain ⟨F116,hm116⟩:=hm117.fold (zAg.sh b0_re p102.2) rfl;refine Rn.end0 func64 rfl ?_;obtain rfl:=zDt hM;exact ⟨F112,F114,F41,F37,F116,F39,F40,F102_p1,rfl,hm116.pk [12,13,10,0,14,1,2,11]⟩
 intro j1 hM hk1;refine aD hM (fun h118 hM=>?_) (fun h118 hM=>?_)
 ·refine gg 2 rfl (Rn.q rfl (V.ldB isAgg76 rfl (hm36.get 11 rfl) rfl) (gg 2 rfl (Rn.q rfl (V.ldB isAgg3 rfl (hm36.get 12 rfl) rfl) (gg 1 rfl (Rn.q rfl (V.ldB isAgg3 rfl (hm36.get 12 rfl) rfl) (gg 1 rfl ?_))))));obtain ⟨_,rfl,hm120⟩:=hm36.unf 0 rfl;replace hm120:=hm120.nq;obtain ⟨p119,e119,hM⟩:=zAb hM;have hm121:=hm120.cu [0,1,2,3,4,5,6,7,8,9,10,11,12,14] [15,13]
  refine Rn.a1 (cK func121) (m_vary_Row_Put_sim e119 hm121.lend :) hm121 fun F119_p1 w119 hm124=>?_
  refine gg 1 rfl ?_;have hm126:=hm124.cu [0,1,2,3,4,5,6,7,8,9,10,11,12,13,14] [15];obtain ⟨F125,hm125⟩:=hm126.fold (zA8.sh b0_spans p119.2) rfl;exact hk1 (p119.2,p119.1,F0_ints,F0_re,F0_im,F0_hists,F125,F119_p1) _ _ sA (hm125.pk [0,1,2,3,4,5,7,8,9,10,11,12,13,15,14]) hM
 refine gg 1 rfl ?_;exact hk1 (x0.spans,p31.1,F0_ints,F0_re,F0_im,F0_hists,F0_spans,F31_p1) _ _ sA (hm36.pk [1,2,3,4,5,6,8,9,10,11,12,13,15,0,14]) hM
theorem zLu  {r:zAd} (hM:zIi  = some r)  :
 Calls prog 125 #[] w fun x w'=>∃ F_0 b_0,x=.returned (pt b_0 0)∧Hp Z0 No w w' [zAd.obj F_0 b_0 r]:=by
 have hm0:=Hp.nil Z0 No w;have hc0:=Calm.nil;refine Rn.en func125 ?_;refine gg 6 rfl (Rn.q rfl (V.bldS (cs:=[_]) st179 rfl rfl) (Rn.box rfl rfl rfl rfl rfl ?_));intro b1 w1 hb1 m1 e1;have hm3:=(hm0.addBox hb1 e1 m1).nf [zAh _ _ [_]] rfl;refine gg 2 rfl ?_;have hm4:=hm3.addNil 5 zCn;have hm7:=hm4.cu [] [0,1];obtain ⟨F6,hm6⟩:=hm7.fold (zAd.sh b1 ({ b:=([]:List UInt8) }:zAd)) ⟨none,0,rfl⟩
 cases hM
 exact Rn.R1 func125 ⟨F6,b1,rfl,hm6.pk [0]⟩
theorem zK0 {x0:UInt64} {r:Int} (hM:zH9 x0=some r)  :
 Calls prog 133 #[zAl x0] w fun x w'=>x=.returned (iv r)∧Hp Z0 No w w' []:=by
 have hm0:=Hp.nil Z0 No w;have hc0:=Calm.nil;refine Rn.en func133 ?_;refine gg 7 rfl ?_;obtain ⟨p1,e1,hM⟩:=zAb hM
 refine Rn.c0 (cK func191) (zI9 (Z0:=All) e1  :) hm0 fun w1 _ hm2=>?_
 refine gg 8 rfl ?_;refine aD hM (fun h3 hM=>?_) (fun h3 hM=>?_)
 ·refine gg 4 rfl ?_
  cases hM
  exact Rn.R1 func133 ⟨rfl,hm2.pk []⟩
 refine gg 5 rfl (Rn.q rfl (V.maxi rfl rfl) ?_);obtain ⟨z4,e4,hM⟩:=zAb hM;refine Rn.q rfl (V.quoZ rfl rfl e4) (gg 2 rfl ?_)
 cases hM
 exact Rn.R1 func133 ⟨rfl,hm2.pk []⟩
theorem m_pack_Writer_Num_sim {x0:zAd} {x1:UInt64} {r:zAd} (hM:zEi x0 x1=some r) (hL:zIg Z0 w [zAd.obj F0 b0 x0]) :
 Calls prog 127 #[pt b0 0,zAl x1] w fun x w'=>∃ F_p0,x=.returned (.tuple #[])∧Hp Z0 (LS [zAd.obj F0 b0 x0]) w w' [zAd.obj F_p0 b0 r]:=by
 have hm0:=hL.start;refine Rn.en func127 ?_;refine gg 3 rfl ?_;obtain ⟨p2,e2,hM⟩:=zAb hM
 refine Rn.c0 (cK func133) (zK0 (Z0:=All) e2  :) hm0 fun w2 _ hm3=>?_
 refine gg 6 rfl (Rn.q rfl (V.cv64 underlying3 underlying137 rfl) (Rn.q rfl (V.shl8 (a:=(255:UInt8)) (m:=(zAe (W64 (8-p2))).toNat) rfl rfl) (gg 8 rfl ?_)));refine Rn.jG hm0 hM (G:=UInt8×(Nat→Prop)) (fun g=>[(0,pt b0 0),(1,zAl x1),(4,iv p2),(5,u8v (g.1))]) (fun g=>[zAd.obj (g.2) b0 x0]) (fun j g=>j g.1) ?_ ?_
 ·rintro ⟨y5,F4⟩ w6 hm6 hM
  try dsimp only at hM
  refine gg 6 rfl ?_;obtain ⟨_,⟨A7_0,c7_0,rfl⟩,hm7⟩:=hm6.unf 0 rfl;replace hm7:=hm7.nq;refine Rn.q rfl (V.ldB isAgg22 rfl (hm7.get 0 rfl) rfl) (gg 1 rfl ?_);obtain ⟨z9,e9,hM⟩:=zAb hM;refine Rn.pushH (z:=y5) (vs:=[u8v y5]) hm7 1 rfl e9 rfl rfl rfl rfl underlying22 el5 rfl rfl rfl rfl (fun _=>rfl) (⟨rfl,trivial⟩) ?_;intro A9 c9 w9 u9 hm9;refine gg 2 rfl (Rn.sq rfl sizeOf22 rfl rfl (hm9.get 0 rfl) ?_);intro w11 m11 x11;have hm12:=(hm9.st 0 rfl x11 m11).nf [zAh _ _ [_],_] rfl;refine gg 1 rfl ?_;have hm14:=hm12.cu [] [0,1];obtain ⟨F13,hm13⟩:=hm14.fold (zAd.sh b0 ({ b:=z9 }:zAd)) ⟨A9,c9,rfl⟩;refine Rn.jG hm0 hM (G:=zAd×(Nat→Prop)) (fun g=>[]) (fun g=>[zAd.obj (g.2) b0 (g.1)]) (fun j g=>j g.1) ?_ ?_
  ·rintro ⟨y15,F15⟩ w16 hm16 hM
   try dsimp only at hM
   refine Rn.end0 func127 rfl ?_;obtain rfl:=zDt hM;exact ⟨F15,rfl,hm16.pk [0]⟩
  intro j2 hM hk2;refine gg 1 rfl ?_;refine Rn.loopF (G:=Int×zAd×(Nat→Prop)) (fun g=>[(0,pt b0 0),(1,zAl x1),(4,iv (g.1))]) (fun g w'=>Hp Z0 (LS [zAd.obj F0 b0 x0]) w w' [zAd.obj (g.2.2) b0 (g.2.1)]) (fun n g=>zCi x1 j2 n g.1 g.2.1) fuel (p2,({ b:=z9 }:zAd),F13) sA (hm13.pk [0]) hM (fun _=>rfl) ?_;clear hM;rintro m19 ⟨y17,y18,F18⟩ w19 hm19 hM hn19;replace hM:zCi x1 j2 (m19+1) y17 y18=some r:=hM;rw [zCi] at hM;refine gg 6 rfl ?_;refine aD hM (fun h20 hM=>?_) (fun h20 hM=>?_)
  ·refine gg 8 rfl ?_;obtain ⟨_,⟨A21_0,c21_0,rfl⟩,hm21⟩:=hm19.unf 0 rfl;replace hm21:=hm21.nq;refine Rn.q rfl (V.ldB isAgg22 rfl (hm21.get 0 rfl) rfl) (gg 4 rfl (Rn.q rfl (V.cv64 underlying3 underlying137 rfl) (Rn.q rfl (V.shr64 (a:=x1) (m:=(zAe (W64 ((W64 (8*y17))-8))).toNat) rfl rfl) (Rn.q rfl (V.cv8 underlying35 underlying5 rfl) ?_))));obtain ⟨z23,e23,hM⟩:=zAb hM;refine Rn.pushH (z:=zKv ((shr64 x1 ((zAe (W64 ((W64 (8*y17))-8))).toNat)).toNat:Int)) (vs:=[u8v (zKv ((shr64 x1 ((zAe (W64 ((W64 (8*y17))-8))).toNat)).toNat:Int))]) hm21 1 rfl e23 rfl rfl rfl rfl underlying22 el5 rfl rfl rfl rfl (fun _=>rfl) (⟨rfl,trivial⟩) ?_;intro A23 c23 w23 u23 hm23;refine gg 2 rfl (Rn.sq rfl sizeOf22 rfl rfl (hm23.get 0 rfl) ?_);intro w25 m25 x25;have hm26:=(hm23.st 0 rfl x25 m25).nf [zAh _ _ [_],_] rfl;refine gg 7 rfl ?_;have hm28:=hm26.cu [] [0,1];obtain ⟨F27,hm27⟩:=hm28.fold (zAd.sh b0 ({ b:=z23 }:zAd)) ⟨A23,c23,rfl⟩;exact hn19 ((W64 (y17-1)),({ b:=z23 }:zAd),F27) _ _ sA (hm27.pk [0]) hM
  refine gg 1 rfl ?_;exact hk2 (y18,F18) _ _ (sb trivial) (hm19.pk [0]) hM
 intro j1 hM hk1;refine aD hM (fun h29 hM=>?_) (fun h29 hM=>?_)
 ·refine gg 5 rfl (Rn.q rfl (V.cv64 underlying3 underlying137 rfl) (Rn.q rfl (V.shr64 (a:=x1) (m:=(zAe (W64 (8*p2))).toNat) rfl rfl) (Rn.q rfl (V.cv8 underlying35 underlying5 rfl) (Rn.q rfl (V.or8 (a:=shl8 (255:UInt8) ((zAe (W64 (8-p2))).toNat)) (b:=zKv ((shr64 x1 ((zAe (W64 (8*p2))).toNat)).toNat:Int)) rfl rfl) (gg 2 rfl ?_)))));exact hk1 (((shl8 (255:UInt8) ((zAe (W64 (8-p2))).toNat))|||(zKv ((shr64 x1 ((zAe (W64 (8*p2))).toNat)).toNat:Int))),F0) _ _ sA (hm3.pk [0]) hM
 refine gg 1 rfl ?_;exact hk1 ((shl8 (255:UInt8) ((zAe (W64 (8-p2))).toNat)),F0) _ _ sA (hm3.pk [0]) hM
theorem m_pack_Writer_Text_sim {x0:zAd} {x1:(List UInt8)} {r:zAd} (hM:zFy x0 x1=some r) (hL:zIg Z0 w [zAd.obj F0 b0 x0]) :
 Calls prog 126 #[pt b0 0,Str (x1)] w fun x w'=>∃ F_p0,x=.returned (.tuple #[])∧Hp Z0 (LS [zAd.obj F0 b0 x0]) w w' [zAd.obj F_p0 b0 r]:=by
 have hm0:=hL.start;refine Rn.en func126 ?_;refine gg 4 rfl (Rn.q rfl (V.lenS underlying9 rfl) (Rn.q rfl (V.cv64 underlying3 underlying35 rfl) ?_));obtain ⟨p2,e2,hM⟩:=zAb hM;have hm3:=hm0.cu [] [0]
 refine Rn.a1 (cK func127) (m_pack_Writer_Num_sim e2 hm3.lend :) hm3 fun F2_p0 w2 hm5=>?_
 refine gg 6 rfl ?_;obtain ⟨_,⟨A6_0,c6_0,rfl⟩,hm6⟩:=hm5.unf 0 rfl;replace hm6:=hm6.nq;refine Rn.q rfl (V.ldB isAgg22 rfl (hm6.get 0 rfl) rfl) (gg 1 rfl ?_);obtain ⟨z8,e8,hM⟩:=zAb hM;refine Rn.appSH hm6 1 rfl e8 rfl rfl rfl underlying22 underlying9 el5 rfl rfl rfl ?_;intro A8 c8 w8 hm8;refine gg 2 rfl (Rn.sq rfl sizeOf22 rfl rfl (hm8.get 0 rfl) ?_);intro w10 m10 x10;have hm11:=(hm8.st 0 rfl x10 m10).nf [zAh _ _ [_],_] rfl;refine gg 1 rfl ?_;have hm13:=hm11.cu [] [0,1];obtain ⟨F12,hm12⟩:=hm13.fold (zAd.sh b0 ({ b:=z8 }:zAd)) ⟨A8,c8,rfl⟩;refine Rn.end0 func126 rfl ?_;obtain rfl:=zDt hM;exact ⟨F12,rfl,hm12.pk [0]⟩
theorem zHl {x0:zAc} {r:zAd} (hM:zF x0=some r) (f0:(fzR (zAc.obj F0 b0 x0)).H Z0 w) :
 Calls prog 66 #[pt b0 0] w fun x w'=>∃ F_0 b_0,x=.returned (pt b_0 0)∧Hp Z0 No w w' [zAd.obj F_0 b_0 r]:=by
 have hm0:=Hp.nil Z0 No w;have hc0:=Calm.nil;obtain ⟨hm2,hc0⟩:=hm0.kn hc0 f0;refine Rn.en func66 ?_;refine gg 6 rfl ?_;obtain ⟨p3,e3,hM⟩:=zAb hM
 refine Rn.c2 (cK func125) (zLu (Z0:=All) e3  :) fun F3_0 b3_0 w3 hq3=>?_
 have hm5:=hm2.callF (flC ((zAd.oflat _ _ _)) fl0) hq3;refine gg 8 rfl ?_;obtain ⟨_,⟨F6_0,b6_0,F6_1,b6_1,F6_2,b6_2,F6_3,b6_3,F6_4,b6_4,F6_5,b6_5,F6_6,b6_6,F6_7,b6_7,rfl⟩,hm6⟩:=hm5.unfz 0 rfl;replace hm6:=hm6.nq;refine Rn.q rfl (V.ldB isAgg9 rfl (hm6.getz 2 rfl) rfl) ?_;obtain ⟨p16,e16,hM⟩:=zAb hM;have hm17:=hm6.cu [0,2,3,4,5,6,7,8,9,10] [1]
 refine Rn.a1 (cK func126) (m_pack_Writer_Text_sim e16 hm17.lend :) hm17 fun F16_p0 w16 hm19=>?_
 refine gg 7 rfl (Rn.q rfl (V.ldB isAgg3 rfl (hm19.getz 1 rfl) rfl) (Rn.q rfl (V.cv64 underlying3 underlying35 rfl) ?_));obtain ⟨p20,e20,hM⟩:=zAb hM;have hm21:=hm19.cu [0,1,2,3,4,5,6,7,8,9] [10]
 refine Rn.a1 (cK func127) (m_pack_Writer_Num_sim e20 hm21.lend :) hm21 fun F20_p0 w20 hm23=>?_
 refine gg 7 rfl (Rn.q rfl (V.ldB isAgg119 rfl (hm23.getz 1 rfl) rfl) ?_);obtain ⟨p24,e24,hM⟩:=zAb hM
 refine Rn.c0 (cK func62) (zEs (Z0:=All) e24 (zQm (hm23.get 2 rfl)) :) hm23 fun w24 _ hm25=>?_
 replace hm25:=hm25.nq;refine Rn.q rfl (V.cv64 underlying3 underlying35 rfl) ?_;obtain ⟨p26,e26,hM⟩:=zAb hM;have hm27:=hm25.cu [0,1,2,3,4,5,6,7,8,9] [10]
 refine Rn.a1 (cK func127) (m_pack_Writer_Num_sim e26 hm27.lend :) hm27 fun F26_p0 w26 hm29=>?_
 refine gg 6 rfl ?_
 cases hM
 exact Rn.R1 func66 ⟨F26_p0,b3_0,rfl,hm29.pk [10]⟩
theorem zL9 {x0:zAd} {r:Int} (hM:zHr x0=some r) (f0:(fzR (zAd.obj F0 b0 x0)).H Z0 w) :
 Calls prog 74 #[pt b0 0] w fun x w'=>x=.returned (iv r)∧Hp Z0 No w w' []:=by
 have hm0:=Hp.nil Z0 No w;have hc0:=Calm.nil;obtain ⟨hm2,hc0⟩:=hm0.kn hc0 f0;refine Rn.en func74 ?_;refine gg 9 rfl ?_;obtain ⟨_,⟨A3_0,c3_0,rfl⟩,hm3⟩:=hm2.unfz 0 rfl;replace hm3:=hm3.nq;have hm7:=hm3.fzSl 2 rfl;refine Rn.q rfl (V.ldB isAgg22 rfl (hm7.getz 1 rfl) rfl) (Rn.q rfl (V.lenV underlying22 rfl) (gg 2 rfl ?_))
 cases hM
 exact Rn.R1 func74 ⟨rfl,hm7.pk []⟩
theorem zKy {x0:zAc} {r:Int} (hM:zG3 x0=some r) (f0:(fzR (zAc.obj F0 b0 x0)).H Z0 w) :
 Calls prog 30 #[pt b0 0] w fun x w'=>x=.returned (iv r)∧Hp Z0 No w w' []:=by
 have hm0:=Hp.nil Z0 No w;have hc0:=Calm.nil;obtain ⟨hm2,hc0⟩:=hm0.kn hc0 f0;refine Rn.en func30 ?_;refine gg 5 rfl ?_;obtain ⟨_,⟨F4_0,b4_0,F4_1,b4_1,F4_2,b4_2,F4_3,b4_3,F4_4,b4_4,F4_5,b4_5,F4_6,b4_6,F4_7,b4_7,rfl⟩,hm4⟩:=hm2.unfz 0 rfl;replace hm4:=hm4.nq;refine Rn.drawH rfl hm4 ?_;intro w3 hm3;refine dq [0,3,4,5] ?_;refine RH.tk 6 rfl (fun w' hDr=>V.ldB isAgg119 rfl ((hm3.ext hDr).getz 1 rfl) rfl) ?_;obtain ⟨p14,e14,hM⟩:=zAb hM;refine RH.cq (cK func66) 1 (zHl (Z0:=All) e14 (zQm (hm3.get 0 rfl)) :) ?_;rintro _ w14 ⟨F14_0,b14_0,rfl,hq14⟩;refine ⟨_,rfl,((Ext.refl _).trans hq14.fr),?_⟩;have hm16:=hm3.callF (flC ((zAd.oflat _ _ _)) fl0) hq14;obtain ⟨p17,e17,hM⟩:=zAb hM;refine RH.cq (cK func74) 2 (zL9 (Z0:=All) e17 (zCe (hm16.get 10 rfl)) :) ?_;rintro _ w17 ⟨rfl,hq17⟩;refine ⟨_,rfl,(((Ext.refl _).trans hq14.fr).trans hq17.fr),?_⟩;have hm18:=hm16.call0 hq17;obtain ⟨p19,e19,hM⟩:=zAb hM;refine RH.cq (cK func62) 7 (zEs (Z0:=All) e19 (zQm (hm18.get 2 rfl)) :) ?_;rintro _ w19 ⟨rfl,hq19⟩;refine ⟨_,rfl,((((Ext.refl _).trans hq14.fr).trans hq17.fr).trans hq19.fr),?_⟩;have hm20:=hm18.call0 hq19;refine dq [8] ?_;obtain ⟨z21,e21,hM⟩:=zAb hM
 refine RH.here fun hS9=>RH.on 9 rfl (V.quoZ rfl rfl e21) hS9 ?_
 refine dq [10,11] ?_;refine RH.doneP (by kernel_rfl) ?_
 cases hM
 exact Rn.R1 func30 ⟨rfl,hm20.pk []⟩
theorem m_bitio_Writer_Cut_sim {x0:zA2} {x1:Int} {r:(Bool×zA2)} (hM:zG4 x0 x1=some r) (hL:zIg Z0 w [zA2.obj F0 b0 x0]) :
 Calls prog 65 #[pt b0 0,iv x1] w fun x w'=>∃ F_p0,x=.returned (.bool (r.1))∧Hp Z0 (LS [zA2.obj F0 b0 x0]) w w' [zA2.obj F_p0 b0 r.2]:=by
 have hm0:=hL.start;refine Rn.en func65 ?_;refine gg 10 rfl ?_;refine Rn.jR hm0 hM (G:=Bool×(Nat→Prop)) [] (fun g=>[(0,pt b0 0),(1,iv x1),(15,.bool ((g.1)))]) (fun g=>[zA2.obj (g.2) b0 x0]) (fun j g=>j g.1) ?_ ?_
 ·rintro ⟨y5,F4⟩ w6 hm6 hM
  try dsimp only at hM
  refine gg 1 rfl ?_;refine aS hM (fun h7 hM=>?_) (fun h7 hM=>?_)
  ·refine gg 4 rfl ?_
   cases hM
   exact Rn.R1 func65 ⟨F4,rfl,hm6.pk [0]⟩
  refine gg 7 rfl ?_;obtain ⟨_,⟨A8_0,c8_0,rfl⟩,hm8⟩:=hm6.unf 0 rfl;replace hm8:=hm8.nq;refine Rn.q rfl (V.ldB isAgg22 rfl (hm8.get 0 rfl) rfl) (gg 2 rfl ?_);obtain ⟨z10,e10,hM⟩:=zAb hM;refine Rn.q rfl (V.quoZ rfl rfl e10) ?_;obtain ⟨z11,e11,hM⟩:=zAb hM;refine Rn.cutOH hm8 1 rfl e11 rfl rfl rfl rfl underlying22 sizeOf5 rfl rfl rfl rfl rfl ?_;intro hm11;have hm13:=hm11.nq;refine gg 2 rfl (Rn.sq rfl sizeOf22 rfl rfl (hm13.get 0 rfl) ?_);intro w14 m14 x14;have hm15:=(hm13.st 0 rfl x14 m14).nf [zAh _ _ [_,_],_] rfl;refine gg 5 rfl ?_;obtain ⟨z16,e16,hM⟩:=zAb hM;refine Rn.q rfl (V.remZ rfl rfl e16) (gg 7 rfl ?_);have hm18:=hm15.cu [] [0,1];obtain ⟨F17,hm17⟩:=hm18.fold (zA2.sh b0 ({ b:=z11,n:=x0.n }:zA2)) ⟨A8_0,c8_0,rfl⟩;refine Rn.jG hm0 hM (G:=zA2×(Nat→Prop)) (fun g=>[(0,pt b0 0),(1,iv x1)]) (fun g=>[zA2.obj (g.2) b0 (g.1)]) (fun j g=>j g.1) ?_ ?_
  ·rintro ⟨y19,F19⟩ w20 hm20 hM
   try dsimp only at hM
   refine gg 6 rfl ?_;obtain ⟨_,⟨A21_0,c21_0,rfl⟩,hm21⟩:=hm20.unf 0 rfl;replace hm21:=hm21.nq;refine Rn.sq rfl sizeOf3 rfl rfl (hm21.get 0 rfl) ?_;intro w23 m23 x23;have hm24:=(hm21.st 0 rfl x23 m23).nf [zAh _ _ [_,_],_] rfl;refine gg 5 rfl ?_;have hm26:=hm24.cu [] [0,1];obtain ⟨F25,hm25⟩:=hm26.fold (zA2.sh b0 ({ b:=y19.b,n:=x1 }:zA2)) ⟨A21_0,c21_0,rfl⟩
   cases hM
   exact Rn.R1 func65 ⟨F25,rfl,hm25.pk [0]⟩
  intro j2 hM hk2;refine aD hM (fun h27 hM=>?_) (fun h27 hM=>?_)
  ·refine Rn.drawT 18 rfl hm17 (by kernel_rfl) ?_;intro w28 hm28;refine RT.vv 0 rfl (V.mv rfl) ?_;refine RT.vv 1 rfl (V.nil rfl) ?_;refine RT.vv 2 rfl (V.fa underlying172 rfl sizeOf22 rfl rfl) ?_;obtain ⟨_,⟨A29_0,c29_0,rfl⟩,hm29⟩:=hm28.unf 0 rfl;replace hm29:=hm29.nq;refine RT.vv 3 rfl (V.ldB isAgg22 rfl (hm29.get 0 rfl) rfl) ?_;refine RT.vv 4 rfl (V.mv rfl) ?_;refine RT.vv 5 rfl (V.nil rfl) ?_;refine RT.vv 6 rfl (V.fa underlying172 rfl sizeOf22 rfl rfl) ?_;refine RT.vv 7 rfl (V.ldB isAgg22 rfl (hm29.get 0 rfl) rfl) ?_;refine RT.vv 8 rfl (V.lenV underlying22 rfl) ?_;refine RT.vv 9 rfl (V.subW rfl rfl) ?_;obtain ⟨z31,e31,hM⟩:=zAb hM;obtain ⟨kk31,ke31,kz31,kl31⟩:=zGz e31;obtain ⟨g31,vs31,hA31,hR31,hrel31⟩:=hm29.ownAt 1 rfl kz31;subst hA31;obtain ⟨rfl,_⟩:=hrel31;refine RT.vv 10 rfl (V.ixE kk31 underlying22 sizeOf5 rfl rfl ke31 kl31) ?_;refine RT.vv 11 rfl (V.ldR0 isAgg5 rfl hR31 rfl) ?_;refine RT.vv 12 rfl (V.mv rfl) ?_;refine RT.vv 13 rfl (V.subW rfl rfl) ?_;refine RT.vv 14 rfl (V.cv64 underlying3 underlying137 rfl) ?_;refine RT.vv 15 rfl (V.shl8 (a:=(255:UInt8)) (m:=(zAe (W64 (8-z16))).toNat) rfl rfl) ?_;refine RT.vv 16 rfl (V.and8 (a:=z31) (b:=shl8 (255:UInt8) ((zAe (W64 (8-z16))).toNat)) rfl rfl) ?_;obtain ⟨z32,e32,hM⟩:=zAb hM;obtain ⟨kk32,ke32,kz32,kl32⟩:=zGz e32;obtain ⟨vs32,hR32,hrel32⟩:=hm29.ownAtL 1 rfl kz32;obtain ⟨rfl,_⟩:=hrel32;refine RT.vv 17 rfl (V.ixE kk32 underlying22 sizeOf5 rfl rfl ke32 kl32) ?_;refine RT.tail ?_;refine RH.stI 18 (by kernel_rfl) hm29 1 rfl ke32 kl32 rfl rfl sizeOf5 rfl rfl rfl (vs:=[u8v (z31&&&(shl8 (255:UInt8) ((zAe (W64 (8-z16))).toNat)))]) rfl (⟨rfl,trivial⟩) ?_;intro w33 hm33;refine ⟨trivial,?_⟩;refine RH.doneP (by kernel_rfl) ?_;have hm34:=(hm33.reBox 0 rfl (congrArg (fun (n0:Nat)=>([.slice (some ⟨g31,0,none⟩) n0 c29_0,iv x0.n]:List Value)) (show (z11).length=((zGq z11 (W64 ((z11.length:Int)-1)) (z31&&&(shl8 (255:UInt8) ((zAe (W64 (8-z16))).toNat))))).length from ((zBc _ _ _)).symm.trans (rfl)))).nf [zAh _ _ [_,_],_] rfl;have hm36:=hm34.cu [] [0,1];obtain ⟨F35,hm35⟩:=hm36.fold (zA2.sh b0 ({ b:=(zGq z11 (W64 ((z11.length:Int)-1)) (z31&&&(shl8 (255:UInt8) ((zAe (W64 (8-z16))).toNat)))),n:=x0.n }:zA2)) ⟨(some ⟨g31,0,none⟩),c29_0,rfl⟩;exact hk2 (({ b:=(zGq z11 (W64 ((z11.length:Int)-1)) (z31&&&(shl8 (255:UInt8) ((zAe (W64 (8-z16))).toNat)))),n:=x0.n }:zA2),F35) _ _ sA (hm35.pk [0]) hM
  refine gg 1 rfl ?_;exact hk2 (({ b:=z11,n:=x0.n }:zA2),F17) _ _ sA (hm17.pk [0]) hM
 intro j1 hM hk1;refine zIu hM (Rn.partD (t:=8) rfl) (fun h37 hM=>?_) (fun h37 hM=>?_)
 ·refine gg 7 rfl ?_;exact hk1 (true,F0) _ _ sA (hm0.pk [0]) hM
 refine gg 4 rfl ?_;obtain ⟨_,⟨A38_0,c38_0,rfl⟩,hm38⟩:=hm0.unf 0 rfl;replace hm38:=hm38.nq;refine Rn.q rfl (V.ldB isAgg3 rfl (hm38.get 0 rfl) rfl) (gg 2 rfl ?_);have hm41:=hm38.cu [] [0,1];obtain ⟨F40,hm40⟩:=hm41.fold (zA2.sh b0 x0) ⟨A38_0,c38_0,rfl⟩;exact hk1 ((decide (x1>x0.n)),F40) _ _ sA (hm40.pk [0]) hM
theorem m_chunk_Chunk_Add_sim {x0:zAc} {x1:Int} {x2:zA6} {r:(Int×zAc)} (hM:zDn x0 x1 x2=some r) (hL:zIg Z0 w [zAc.obj F0 b0 x0,rdR 1 0 gl1,rdR 3 0 gl3,zPy zA6.rep cs2 x2]) :
 Calls prog 24 #[pt b0 0,iv x1,.agg cs2.toArray] w fun x w'=>∃ F_p0,x=.returned (iv r.1)∧Hp Z0 (LS [zAc.obj F0 b0 x0,rdR 1 0 gl1,rdR 3 0 gl3,zPy zA6.rep cs2 x2]) w w' [zAc.obj F_p0 b0 r.2]:=by
 have hm0:=hL.start;have h2:=hm0.get 3 rfl;obtain ⟨Ar2,cr2,Ar4,cr4,Ar6,cr6,rfl,fs2,fs4,fs6⟩:=zA6.relE h2;have hm11:=Hp.knowL [slR Ar2 cr2 zA.rep x2.Attrs,slR Ar4 cr4 zAq x2.Hist.Pos.Counts,slR Ar6 cr6 zAq x2.Hist.Neg.Counts] _ hm0 (knC (fun _ h=>h) fs2 (knC (fun _ h=>h) fs4 (knC (fun _ h=>h) fs6 kn0)));refine Rn.en func24 ?_;refine gg 2 rfl (Rn.box rfl rfl rfl rfl rfl ?_);intro b12 w12 hb12 m12 e12;have hm14:=(hm11.addBox hb12 e12 m12).nf [_,_,_,_,_,_,_,zAh _ _ [_,_,_,_,_,_,_,_,_,_,_,_,_,_,_,_,_]] rfl;refine gg 4 rfl (Rn.q rfl (V.ldBA [_,_,_,_,_,_,_,_,_,_,_,_,_,_,_,_,_] isAgg42 sizeOf42 rfl (hm14.get 7 rfl) rfl rfl) ?_);obtain ⟨p15,e15,hM⟩:=zAb hM
 refine Rn.c0 (cK func60) (zL8 (Z0:=All) e15 (show zA6.rep.rel All _ _ _ from ⟨_,_,rfl,⟨rfl,trivial⟩,⟨_,_,rfl,⟨_,_,rfl,(zA7 (hm14.get 4 rfl)).1,(zA7 (hm14.get 4 rfl)).2.1,(zA7 (hm14.get 4 rfl)).2.2⟩,⟨_,_,rfl,⟨rfl,trivial⟩,⟨_,_,rfl,⟨rfl,trivial⟩,⟨_,_,rfl,⟨rfl,trivial⟩,⟨_,_,rfl,⟨rfl,trivial⟩,⟨_,_,rfl,⟨rfl,trivial⟩,⟨_,_,rfl,⟨rfl,trivial⟩,⟨_,_,rfl,⟨rfl,trivial⟩,⟨_,_,rfl,⟨rfl,trivial⟩,⟨_,_,rfl,⟨_,_,rfl,⟨rfl,trivial⟩,⟨_,_,rfl,⟨rfl,trivial⟩,⟨_,_,rfl,⟨_,_,rfl,⟨rfl,trivial⟩,⟨_,_,rfl,(zA7 (hm14.get 5 rfl)).1,(zA7 (hm14.get 5 rfl)).2.1,(zA7 (hm14.get 5 rfl)).2.2⟩⟩,⟨_,_,rfl,⟨rfl,trivial⟩,⟨_,_,rfl,(zA7 (hm14.get 6 rfl)).1,(zA7 (hm14.get 6 rfl)).2.1,(zA7 (hm14.get 6 rfl)).2.2⟩⟩⟩⟩⟩,⟨rfl,trivial⟩⟩⟩⟩⟩⟩⟩⟩⟩⟩⟩⟩) :) hm14 fun w15 _ hm16=>?_
 refine gg 14 rfl ?_;refine aD hM (fun h17 hM=>?_) (fun h17 hM=>?_)
 ·refine gg 5 rfl ?_
  cases hM
  exact Rn.R1 func24 ⟨F0,rfl,hm16.pk [0]⟩
 refine gg 6 rfl ?_;obtain ⟨_,⟨F18_0,b18_0,F18_1,b18_1,F18_2,b18_2,F18_3,b18_3,F18_4,b18_4,F18_5,b18_5,F18_6,b18_6,F18_7,b18_7,rfl⟩,hm18⟩:=hm16.unf 0 rfl;replace hm18:=hm18.nq;refine Rn.q rfl (V.ldB isAgg9 rfl (hm18.get 7 rfl) rfl) (Rn.q rfl (V.neqS rfl rfl) (gg 2 rfl ?_));refine aD hM (fun h27 hM=>?_) (fun h27 hM=>?_)
 ·refine gg 4 rfl ?_;have hm29:=hm18.cu [0,1,2,3,4,5,6] [7,8,9,10,11,12,13,14,15];obtain ⟨F28,hm28⟩:=hm29.fold (zAc.sh b0 x0) ⟨F18_0,b18_0,F18_1,b18_1,F18_2,b18_2,F18_3,b18_3,F18_4,b18_4,F18_5,b18_5,F18_6,b18_6,F18_7,b18_7,rfl⟩
  cases hM
  exact Rn.R1 func24 ⟨F28,rfl,hm28.pk [7]⟩
 refine gg 5 rfl ?_;refine Rn.cutR [6] [(0,pt b0 0),(1,iv x1),(5,pt b12 0),(33,.bool (decide ((x1<0)∨(x1>4503599627370496))))] (fun hk30=>?_) ?_
 ·refine Rn.partD (t:=30) rfl (fun h31=>?_) (fun h31=>?_)
  ·refine gg 3 rfl ?_;exact hk30 _ sA
  refine gg 3 rfl ?_;exact hk30 _ sA
 refine gg 2 rfl ?_;refine aD hM (fun h32 hM=>?_) (fun h32 hM=>?_)
 ·refine gg 4 rfl ?_;have hm34:=hm18.cu [0,1,2,3,4,5,6] [7,8,9,10,11,12,13,14,15];obtain ⟨F33,hm33⟩:=hm34.fold (zAc.sh b0 x0) ⟨F18_0,b18_0,F18_1,b18_1,F18_2,b18_2,F18_3,b18_3,F18_4,b18_4,F18_5,b18_5,F18_6,b18_6,F18_7,b18_7,rfl⟩
  cases hM
  exact Rn.R1 func24 ⟨F33,rfl,hm33.pk [7]⟩
 refine gg 6 rfl (Rn.q rfl (V.ldB isAgg3 rfl (hm18.get 7 rfl) rfl) (gg 3 rfl ?_));refine aD hM (fun h35 hM=>?_) (fun h35 hM=>?_)
 ·refine gg 4 rfl ?_;have hm37:=hm18.cu [0,1,2,3,4,5,6] [7,8,9,10,11,12,13,14,15];obtain ⟨F36,hm36⟩:=hm37.fold (zAc.sh b0 x0) ⟨F18_0,b18_0,F18_1,b18_1,F18_2,b18_2,F18_3,b18_3,F18_4,b18_4,F18_5,b18_5,F18_6,b18_6,F18_7,b18_7,rfl⟩
  cases hM
  exact Rn.R1 func24 ⟨F36,rfl,hm36.pk [7]⟩
 refine gg 5 rfl (Rn.q rfl (V.ldB isAgg3 rfl (hm18.get 7 rfl) rfl) (gg 3 rfl ?_));refine aD hM (fun h38 hM=>?_) (fun h38 hM=>?_)
 ·refine gg 4 rfl ?_;have hm40:=hm18.cu [0,1,2,3,4,5,6] [7,8,9,10,11,12,13,14,15];obtain ⟨F39,hm39⟩:=hm40.fold (zAc.sh b0 x0) ⟨F18_0,b18_0,F18_1,b18_1,F18_2,b18_2,F18_3,b18_3,F18_4,b18_4,F18_5,b18_5,F18_6,b18_6,F18_7,b18_7,rfl⟩
  cases hM
  exact Rn.R1 func24 ⟨F39,rfl,hm39.pk [7]⟩
 refine gg 3 rfl ?_;have hm42:=hm18.cu [0,1,2,3,4,5,6] [7,8,9,10,11,12,13,14,15];obtain ⟨F41,hm41⟩:=hm42.fold (zAc.sh b0 x0) ⟨F18_0,b18_0,F18_1,b18_1,F18_2,b18_2,F18_3,b18_3,F18_4,b18_4,F18_5,b18_5,F18_6,b18_6,F18_7,b18_7,rfl⟩;refine Rn.jG hm0 hM (G:=Int×zAj×(Nat→Prop)×(Nat→Prop)×Nat) (fun g=>[(0,pt b0 0),(1,iv x1),(5,pt b12 0),(9,iv (g.1)),(10,pt (g.2.2.2.2) 0)]) (fun g=>[rdR 1 0 gl1,rdR 3 0 gl3,slR Ar2 cr2 zA.rep x2.Attrs,slR Ar4 cr4 zAq x2.Hist.Pos.Counts,slR Ar6 cr6 zAq x2.Hist.Neg.Counts,zAh b12 42 [Str (x2.Name),.slice Ar2 (x2.Attrs).length cr2,iv x2.Kind,iv x2.Temp,.bool (x2.Mono),iv x2.Start,iv x2.Time,iv x2.Int_,zAl x2.Re,zAl x2.Im,iv x2.Hist.Scale,zAl x2.Hist.Zero,iv x2.Hist.Pos.Offset,.slice Ar4 (x2.Hist.Pos.Counts).length cr4,iv x2.Hist.Neg.Offset,.slice Ar6 (x2.Hist.Neg.Counts).length cr6,iv x2.Flags],zAc.obj (g.2.2.1) b0 x0,zAj.obj (g.2.2.2.1) (g.2.2.2.2) (g.2.1)]) (fun j g=>j g.1 g.2.1) ?_ ?_
 ·rintro ⟨y44,y45,F43,F45,b45⟩ w47 hm47 hM
  try dsimp only at hM
  refine gg 1 rfl ?_;refine Rn.drawT 7 rfl hm47 (by kernel_rfl) ?_;intro w48 hm48;obtain ⟨_,⟨F49_0,b49_0,F49_1,b49_1,F49_2,b49_2,F49_3,b49_3,F49_4,b49_4,F49_5,b49_5,F49_6,b49_6,rfl⟩,hm49⟩:=hm48.unf 7 rfl;replace hm49:=hm49.nq;refine RT.vv 0 rfl (V.ldBA [_,_,_,_,_,_,_] isAgg80 sizeOf80 rfl (hm49.get 7 rfl) rfl rfl) ?_;refine RT.vv 1 rfl (V.mv rfl) ?_;refine RT.vv 2 rfl (V.nil rfl) ?_;refine RT.vv 3 rfl (V.fa underlying122 rfl sizeOf119 rfl rfl) ?_;obtain ⟨_,⟨F57_0,b57_0,F57_1,b57_1,F57_2,b57_2,F57_3,b57_3,F57_4,b57_4,F57_5,b57_5,F57_6,b57_6,F57_7,b57_7,rfl⟩,hm57⟩:=hm49.unf 6 rfl;replace hm57:=hm57.nq;refine RT.vv 4 rfl (V.ldB isAgg119 rfl (hm57.get 14 rfl) rfl) ?_;refine RT.vv 5 rfl (V.mv rfl) ?_;refine RT.vv 6 rfl (V.ldBA [_,_,_,_,_,_,_,_,_,_,_,_,_,_,_,_,_] isAgg42 sizeOf42 rfl (hm57.get 5 rfl) rfl rfl) ?_;refine RT.tail ?_;obtain ⟨p66,e66,hM⟩:=zAb hM;have hm67:=hm57.dup 0 rfl (fun _ h=>h);have hm69:=hm67.dup 1 rfl (fun _ h=>h);have hm71:=hm69.know (zPy zA6.rep [Str (x2.Name),.slice Ar2 (x2.Attrs).length cr2,iv x2.Kind,iv x2.Temp,.bool (x2.Mono),iv x2.Start,iv x2.Time,iv x2.Int_,zAl x2.Re,zAl x2.Im,iv x2.Hist.Scale,zAl x2.Hist.Zero,iv x2.Hist.Pos.Offset,.slice Ar4 (x2.Hist.Pos.Counts).length cr4,iv x2.Hist.Neg.Offset,.slice Ar6 (x2.Hist.Neg.Counts).length cr6,iv x2.Flags] x2) (fun _ h=>h) (show zA6.rep.rel _ _ _ _ from ⟨_,_,rfl,⟨rfl,trivial⟩,⟨_,_,rfl,⟨_,_,rfl,(hm69.get 2 rfl).1,(hm69.get 2 rfl).2.1,(hm69.get 2 rfl).2.2⟩,⟨_,_,rfl,⟨rfl,trivial⟩,⟨_,_,rfl,⟨rfl,trivial⟩,⟨_,_,rfl,⟨rfl,trivial⟩,⟨_,_,rfl,⟨rfl,trivial⟩,⟨_,_,rfl,⟨rfl,trivial⟩,⟨_,_,rfl,⟨rfl,trivial⟩,⟨_,_,rfl,⟨rfl,trivial⟩,⟨_,_,rfl,⟨rfl,trivial⟩,⟨_,_,rfl,⟨_,_,rfl,⟨rfl,trivial⟩,⟨_,_,rfl,⟨rfl,trivial⟩,⟨_,_,rfl,⟨_,_,rfl,⟨rfl,trivial⟩,⟨_,_,rfl,(hm69.get 3 rfl).1,(hm69.get 3 rfl).2.1,(hm69.get 3 rfl).2.2⟩⟩,⟨_,_,rfl,⟨rfl,trivial⟩,⟨_,_,rfl,(hm69.get 4 rfl).1,(hm69.get 4 rfl).2.1,(hm69.get 4 rfl).2.2⟩⟩⟩⟩⟩,⟨rfl,trivial⟩⟩⟩⟩⟩⟩⟩⟩⟩⟩⟩⟩);have hm73:=hm71.cu [0,1,2,3,4,5,6,14,16,17,18,19,20,21,22] [7,8,9,10,11,12,13,15,23,24,25];refine RH.cq (cK func64) 7 (m_chunk_rows_put_sim e66 hm73.lend :) ?_;rintro _ w66 ⟨F66_p0_ords,F66_p0_times,F66_p0_spans,F66_p0_ints,F66_p0_re,F66_p0_im,F66_p0_hists,F66_p1,rfl,hq66⟩;refine ⟨_,rfl,trivial,?_⟩;have hm82:=hm73.callAZ hq66;refine RH.doneP (by kernel_rfl) ?_;refine gg 5 rfl (Rn.q rfl (V.ldB isAgg3 rfl (hm82.get 7 rfl) rfl) (gg 3 rfl (Rn.sq rfl sizeOf3 rfl rfl (hm82.get 7 rfl) ?_)));intro w83 m83 x83;have hm84:=(hm82.st 7 rfl x83 m83).nf [_,_,_,_,_,_,_,zAh _ _ [_,_,_,_,_,_,_,_,_,_,_,_],_,_,_,_,_,_,_,_,_,_,_,_,_,_,_] rfl;refine gg 3 rfl ?_;refine Rn.drawH rfl hm84 ?_;intro w85 hm85;refine dq [0,2,3,4] ?_;refine RH.tk 5 rfl (fun w' hDr=>V.ldB isAgg3 rfl ((hm85.ext hDr).get 7 rfl) rfl) ?_;have hm88:=hm85.cu [0,1,2,3,4,5,6,15,16,17,18,19,20,21] [7,22,8,9,10,11,12,13,14];obtain ⟨F87,hm87⟩:=hm88.fold (zAc.sh b0 ({ key:=x0.key,most:=x0.most,n:=W64 (x0.n+1),last:=x0.last,w:=p66.2.2.2.2.2.2.2,rows:=x0.rows }:zAc)) ⟨F66_p1,b57_0,F57_1,b57_1,F57_2,b57_2,F57_3,b57_3,F57_4,b57_4,F57_5,b57_5,F57_6,b57_6,F57_7,b57_7,rfl⟩;obtain ⟨p86,e86,hM⟩:=zAb hM;refine RH.cq (cK func30) 1 (zKy (Z0:=All) e86 (zCe (hm87.get 14 rfl)) :) ?_;rintro _ w86 ⟨rfl,hq86⟩;refine ⟨_,rfl,((Ext.refl _).trans hq86.fr),?_⟩;have hm89:=hm87.call0 hq86;refine dq [6] ?_;refine RH.doneP (by kernel_rfl) ?_;refine aD hM (fun h90 hM=>?_) (fun h90 hM=>?_)
  ·refine gg 5 rfl ?_;obtain ⟨_,⟨F91_0,b91_0,F91_1,b91_1,F91_2,b91_2,F91_3,b91_3,F91_4,b91_4,F91_5,b91_5,F91_6,b91_6,F91_7,b91_7,rfl⟩,hm91⟩:=hm89.unf 14 rfl;replace hm91:=hm91.nq;refine Rn.q rfl (V.ldB isAgg3 rfl (hm91.get 14 rfl) rfl) (gg 3 rfl (Rn.sq rfl sizeOf3 rfl rfl (hm91.get 14 rfl) ?_));intro w100 m100 x100;have hm101:=(hm91.st 14 rfl x100 m100).nf [_,_,_,_,_,_,_,_,_,_,_,_,_,_,zAh _ _ [_,_,_,_,_,_,_,_,_,_,_,_],_,_,_,_,_,_,_,_] rfl;refine gg 6 rfl (Rn.q rfl (V.ldB isAgg119 rfl (hm101.get 14 rfl) rfl) (gg 1 rfl ?_));obtain ⟨p102,e102,hM⟩:=zAb hM;have hm103:=hm101.cu [0,1,2,3,4,5,6,7,8,9,10,11,12,13,14,16,17,18,19,20,21,22] [15]
   refine Rn.a1 (cK func65) (m_bitio_Writer_Cut_sim e102 hm103.lend :) hm103 fun F102_p0 w102 hm105=>?_
   refine gg 5 rfl ?_;have hm107:=hm105.cu [0,1,2,3,4,5,6,7,8,9,10,11,12,13] [14,22,15,16,17,18,19,20,21];obtain ⟨F106,hm106⟩:=hm107.fold (zAc.sh b0 ({ key:=x0.key,most:=x0.most,n:=W64 ((W64 (x0.n+1))-1),last:=x0.last,w:=p102.2,rows:=x0.rows }:zAc)) ⟨F102_p0,b91_0,F91_1,b91_1,F91_2,b91_2,F91_3,b91_3,F91_4,b91_4,F91_5,b91_5,F91_6,b91_6,F91_7,b91_7,rfl⟩
   cases hM
   exact Rn.R1 func24 ⟨F106,rfl,hm106.pk [14]⟩
  refine gg 5 rfl (Rn.q rfl (V.ldBA [_,_,_,_,_,_,_] isAgg80 sizeOf80 rfl (hm89.get 6 rfl) rfl rfl) (gg 3 rfl ?_));obtain ⟨_,⟨F108_0,b108_0,F108_1,b108_1,F108_2,b108_2,F108_3,b108_3,F108_4,b108_4,F108_5,b108_5,F108_6,b108_6,F108_7,b108_7,rfl⟩,hm108⟩:=hm89.unf 14 rfl;replace hm108:=hm108.nq;refine Rn.sq rfl sizeOf80 rfl rfl (hm108.get 14 rfl) ?_;intro w117 m117 x117;have hm118:=(hm108.st 14 rfl x117 m117).nf [_,_,_,_,_,_,_,_,_,_,_,_,_,_,zAh _ _ [_,_,_,_,_,_,_,_,_,_,_,_],_,_,_,_,_,_,_,_] rfl;refine gg 2 rfl (Rn.sq rfl sizeOf3 rfl rfl (hm118.get 14 rfl) ?_);intro w119 m119 x119;have hm120:=(hm118.st 14 rfl x119 m119).nf [_,_,_,_,_,_,_,_,_,_,_,_,_,_,zAh _ _ [_,_,_,_,_,_,_,_,_,_,_,_],_,_,_,_,_,_,_,_] rfl;refine gg 5 rfl ?_;have hm122:=hm120.cu [0,1,2,3,4,5,6,16,17,18,19,20,21,22] [14,15,7,8,9,10,11,12,13];obtain ⟨F121,hm121⟩:=hm122.fold (zAc.sh b0 ({ key:=x0.key,most:=x0.most,n:=W64 (x0.n+1),last:=x1,w:=p66.2.2.2.2.2.2.2,rows:=({ ords:=p66.1,times:=p66.2.1,spans:=p66.2.2.1,ints:=p66.2.2.2.1,re:=p66.2.2.2.2.1,im:=p66.2.2.2.2.2.1,hists:=p66.2.2.2.2.2.2.1 }:zAj) }:zAc)) ⟨F108_0,b108_0,F66_p0_ords,b49_0,F66_p0_times,b49_1,F66_p0_spans,b49_2,F66_p0_ints,b49_3,F66_p0_re,b49_4,F66_p0_im,b49_5,F66_p0_hists,b49_6,rfl⟩
  cases hM
  exact Rn.R1 func24 ⟨F121,rfl,hm121.pk [14]⟩
 intro j1 hM hk1;refine Rn.drawH rfl hm41 ?_;intro w123 hm123;refine dq [0,1,2] ?_;obtain ⟨_,⟨F124_0,b124_0,F124_1,b124_1,F124_2,b124_2,F124_3,b124_3,F124_4,b124_4,F124_5,b124_5,F124_6,b124_6,F124_7,b124_7,rfl⟩,hm124⟩:=hm123.unf 7 rfl;replace hm124:=hm124.nq;refine RH.tk 3 rfl (fun w' hDr=>V.ldB isAgg119 rfl ((hm124.ext hDr).get 7 rfl) rfl) ?_;refine dq [5,6,7] ?_;refine RH.tk 8 rfl (fun w' hDr=>V.ldBA [_,_,_,_,_,_,_] isAgg80 sizeOf80 rfl ((hm124.ext hDr).get 7 rfl) rfl rfl) ?_;obtain ⟨p133,e133,hM⟩:=zAb hM;obtain ⟨p135,e135,hM⟩:=zAb hM;refine RH.both 4 10 (by kernel_rfl) ?_ ?_
 ·have e149:=e133;refine RB.cl (cK func62) 4 rfl rfl rfl rfl (zEs (Z0:=All) e149 (zCe (hm124.get 8 rfl)) :) ?_;rintro _ w149 ⟨rfl,hq149⟩;refine ⟨_,rfl,((Ext.refl _).trans hq149.fr),?_⟩;have hm150:=hm124.call0 hq149;refine RG.str (S1:=fun w'=>Ext w149 w') (fun _ hh=>((Ext.refl _).trans hq149.fr).trans hh) (Ext.refl _) ?_;refine RH.both 9 10 (by kernel_rfl) ?_ ?_
  ·have e151:=e135;refine RB.cl (cK func63) 9 rfl rfl rfl rfl (zFx (Z0:=All) e151 (zCe (hm150.get 9 rfl)) (zCe (hm150.get 10 rfl)) (zCe (hm150.get 11 rfl)) (zCe (hm150.get 12 rfl)) (zCe (hm150.get 13 rfl)) (zCe (hm150.get 14 rfl)) (zCe (hm150.get 15 rfl)) :) ?_;rintro _ w151 ⟨F151_0_0,b151_0_0,F151_0_1,b151_0_1,F151_0_2,b151_0_2,F151_0_3,b151_0_3,F151_0_4,b151_0_4,F151_0_5,b151_0_5,F151_0_6,b151_0_6,rfl,hq151⟩;refine ⟨_,rfl,((Ext.refl _).trans hq151.fr),?_⟩;have hm159:=hm150.callF (flC ((zA8.oflat _ _ _)) (flC ((zA8.oflat _ _ _)) (flC ((zA8.oflat _ _ _)) (flC ((zA8.oflat _ _ _)) (flC ((zAg.oflat _ _ _)) (flC ((zAg.oflat _ _ _)) (flC ((zA4.oflat _ _ _)) fl0))))))) hq151;refine RH.alloc 10 (by kernel_rfl) rfl rfl rfl Tryz.zeroValue80 rfl ?_;intro b160 w160 hb160 m160 e160
   have hfr160:w149.heap.size≤b160:=by have hh:=(((Ext.refl _).trans hq151.fr):Ext w149 w151).size;omega
   have hm162:=(hm159.addBox hb160 e160 m160).nf [_,_,_,_,_,_,_,_,_,_,_,_,_,_,_,_,_,_,_,_,_,_,_,zAh _ _ [_,_,_,_,_,_,_]] rfl;refine ⟨(((Ext.refl _).trans hq151.fr).trans e160),?_⟩;refine dq [11] ?_;refine RH.st 12 (by kernel_rfl) rfl rfl sizeOf80 rfl rfl rfl rfl (by first|exact zJg rfl|(simp [Value.oneCell'];done)) (hm162.get 23 rfl) (by first|exact nbl rfl|(simp;done)) ?_;intro w163 m163 x163;have hm164:=(hm162.st 23 rfl x163 m163).nf [_,_,_,_,_,_,_,_,_,_,_,_,_,_,_,_,_,_,_,_,_,_,_,zAh _ _ [_,_,_,_,_,_,_]] rfl;refine ⟨(zM1 (((Ext.refl _).trans hq151.fr).trans e160) x163 hfr160),?_⟩;refine RH.doneP (by kernel_rfl) ?_;have hm166:=hm164.cu [0,1,2,3,4,5,6,16,17,18,19,20,21,22,23] [7,8,9,10,11,12,13,14,15];obtain ⟨F165,hm165⟩:=hm166.fold (zAc.sh b0 x0) ⟨F124_0,b124_0,F124_1,b124_1,F124_2,b124_2,F124_3,b124_3,F124_4,b124_4,F124_5,b124_5,F124_6,b124_6,F124_7,b124_7,rfl⟩;have hm168:=hm165.cu [0,1,2,3,4,5,6,15] [14,7,8,9,10,11,12,13];obtain ⟨F167,hm167⟩:=hm168.fold (zAj.sh b160 p135) ⟨F151_0_0,b151_0_0,F151_0_1,b151_0_1,F151_0_2,b151_0_2,F151_0_3,b151_0_3,F151_0_4,b151_0_4,F151_0_5,b151_0_5,F151_0_6,b151_0_6,rfl⟩;exact hk1 (p133,p135,F165,F167,b160) _ _ sA (hm167.pk [0,1,3,4,5,6,7,8]) hM
  refine RB.alloc 10 rfl rfl rfl Tryz.zeroValue80 rfl ?_;intro b169 w169 hb169 m169 e169
  have hfr169:w149.heap.size≤b169:=by have hh:=((Ext.refl _):Ext w149 w149).size;omega
  have hm171:=(hm150.addBox hb169 e169 m169).nf [_,_,_,_,_,_,_,_,_,_,_,_,_,_,_,_,zAh _ _ [_,_,_,_,_,_,_]] rfl;refine ⟨((Ext.refl _).trans e169),?_⟩;have e172:=e135;refine RH.cq (cK func63) 9 (zFx (Z0:=All) e172 (zCe (hm171.get 9 rfl)) (zCe (hm171.get 10 rfl)) (zCe (hm171.get 11 rfl)) (zCe (hm171.get 12 rfl)) (zCe (hm171.get 13 rfl)) (zCe (hm171.get 14 rfl)) (zCe (hm171.get 15 rfl)) :) ?_;rintro _ w172 ⟨F172_0_0,b172_0_0,F172_0_1,b172_0_1,F172_0_2,b172_0_2,F172_0_3,b172_0_3,F172_0_4,b172_0_4,F172_0_5,b172_0_5,F172_0_6,b172_0_6,rfl,hq172⟩;refine ⟨_,rfl,(((Ext.refl _).trans e169).trans hq172.fr),?_⟩;have hm180:=hm171.callF (flC ((zA8.oflat _ _ _)) (flC ((zA8.oflat _ _ _)) (flC ((zA8.oflat _ _ _)) (flC ((zA8.oflat _ _ _)) (flC ((zAg.oflat _ _ _)) (flC ((zAg.oflat _ _ _)) (flC ((zA4.oflat _ _ _)) fl0))))))) hq172;refine dq [11] ?_;refine RH.st 12 (by kernel_rfl) rfl rfl sizeOf80 rfl rfl rfl rfl (by first|exact zJg rfl|(simp [Value.oneCell'];done)) (hm180.get 16 rfl) (by first|exact nbl rfl|(simp;done)) ?_;intro w181 m181 x181;have hm182:=(hm180.st 16 rfl x181 m181).nf [_,_,_,_,_,_,_,_,_,_,_,_,_,_,_,_,zAh _ _ [_,_,_,_,_,_,_],_,_,_,_,_,_,_] rfl;refine ⟨(zM1 (((Ext.refl _).trans e169).trans hq172.fr) x181 hfr169),?_⟩;refine RH.doneP (by kernel_rfl) ?_;have hm184:=hm182.cu [0,1,2,3,4,5,6,16,17,18,19,20,21,22,23] [7,8,9,10,11,12,13,14,15];obtain ⟨F183,hm183⟩:=hm184.fold (zAc.sh b0 x0) ⟨F124_0,b124_0,F124_1,b124_1,F124_2,b124_2,F124_3,b124_3,F124_4,b124_4,F124_5,b124_5,F124_6,b124_6,F124_7,b124_7,rfl⟩;have hm186:=hm183.cu [0,1,2,3,4,5,6,15] [7,8,9,10,11,12,13,14];obtain ⟨F185,hm185⟩:=hm186.fold (zAj.sh b169 p135) ⟨F172_0_0,b172_0_0,F172_0_1,b172_0_1,F172_0_2,b172_0_2,F172_0_3,b172_0_3,F172_0_4,b172_0_4,F172_0_5,b172_0_5,F172_0_6,b172_0_6,rfl⟩;exact hk1 (p133,p135,F183,F185,b169) _ _ sA (hm185.pk [0,1,3,4,5,6,7,8]) hM
 refine RB.alloc 10 rfl rfl rfl Tryz.zeroValue80 rfl ?_;intro b187 w187 hb187 m187 e187
 have hfr187:w123.heap.size≤b187:=by have hh:=((Ext.refl _):Ext w123 w123).size;omega
 have hm189:=(hm124.addBox hb187 e187 m187).nf [_,_,_,_,_,_,_,_,_,_,_,_,_,_,_,_,zAh _ _ [_,_,_,_,_,_,_]] rfl;refine ⟨((Ext.refl _).trans e187),?_⟩;have e190:=e133;refine RH.cq (cK func62) 4 (zEs (Z0:=All) e190 (zCe (hm189.get 8 rfl)) :) ?_;rintro _ w190 ⟨rfl,hq190⟩;refine ⟨_,rfl,(((Ext.refl _).trans e187).trans hq190.fr),?_⟩;have hm191:=hm189.call0 hq190;have e192:=e135;refine RH.cq (cK func63) 9 (zFx (Z0:=All) e192 (zCe (hm191.get 9 rfl)) (zCe (hm191.get 10 rfl)) (zCe (hm191.get 11 rfl)) (zCe (hm191.get 12 rfl)) (zCe (hm191.get 13 rfl)) (zCe (hm191.get 14 rfl)) (zCe (hm191.get 15 rfl)) :) ?_;rintro _ w192 ⟨F192_0_0,b192_0_0,F192_0_1,b192_0_1,F192_0_2,b192_0_2,F192_0_3,b192_0_3,F192_0_4,b192_0_4,F192_0_5,b192_0_5,F192_0_6,b192_0_6,rfl,hq192⟩;refine ⟨_,rfl,((((Ext.refl _).trans e187).trans hq190.fr).trans hq192.fr),?_⟩;have hm200:=hm191.callF (flC ((zA8.oflat _ _ _)) (flC ((zA8.oflat _ _ _)) (flC ((zA8.oflat _ _ _)) (flC ((zA8.oflat _ _ _)) (flC ((zAg.oflat _ _ _)) (flC ((zAg.oflat _ _ _)) (flC ((zA4.oflat _ _ _)) fl0))))))) hq192;refine dq [11] ?_;refine RH.st 12 (by kernel_rfl) rfl rfl sizeOf80 rfl rfl rfl rfl (by first|exact zJg rfl|(simp [Value.oneCell'];done)) (hm200.get 16 rfl) (by first|exact nbl rfl|(simp;done)) ?_;intro w201 m201 x201;have hm202:=(hm200.st 16 rfl x201 m201).nf [_,_,_,_,_,_,_,_,_,_,_,_,_,_,_,_,zAh _ _ [_,_,_,_,_,_,_],_,_,_,_,_,_,_] rfl;refine ⟨(zM1 ((((Ext.refl _).trans e187).trans hq190.fr).trans hq192.fr) x201 hfr187),?_⟩;refine RH.doneP (by kernel_rfl) ?_;have hm204:=hm202.cu [0,1,2,3,4,5,6,16,17,18,19,20,21,22,23] [7,8,9,10,11,12,13,14,15];obtain ⟨F203,hm203⟩:=hm204.fold (zAc.sh b0 x0) ⟨F124_0,b124_0,F124_1,b124_1,F124_2,b124_2,F124_3,b124_3,F124_4,b124_4,F124_5,b124_5,F124_6,b124_6,F124_7,b124_7,rfl⟩;have hm206:=hm203.cu [0,1,2,3,4,5,6,15] [7,8,9,10,11,12,13,14];obtain ⟨F205,hm205⟩:=hm206.fold (zAj.sh b187 p135) ⟨F192_0_0,b192_0_0,F192_0_1,b192_0_1,F192_0_2,b192_0_2,F192_0_3,b192_0_3,F192_0_4,b192_0_4,F192_0_5,b192_0_5,F192_0_6,b192_0_6,rfl⟩;exact hk1 (p133,p135,F203,F205,b187) _ _ sA (hm205.pk [0,1,3,4,5,6,7,8]) hM
theorem zFe {x0:(List UInt8)} {r:(List UInt8)} (hM:zDs x0=some r) (f0:(slR A0 c0 zCn x0).H Z0 w) :
 Calls prog 75 #[.slice A0 (x0).length c0] w fun x w'=>∃ A_0_0 c_0_0,x=.returned (.slice A_0_0 (r).length c_0_0)∧Hp Z0 No w w' [zBi 5 A_0_0 c_0_0 zCn r]:=by
 exact zYd w A0 c0 x0 f0 hM
theorem zK6 {x0:zA2} {r:(List UInt8)} (hM:zF6 x0=some r) (f0:(fzR (zA2.obj F0 b0 x0)).H Z0 w) :
 Calls prog 68 #[pt b0 0] w fun x w'=>∃ A_0_0 c_0_0,x=.returned (.slice A_0_0 (r).length c_0_0)∧Hp Z0 No w w' [zBi 5 A_0_0 c_0_0 zCn r]:=by
 have hm0:=Hp.nil Z0 No w;have hc0:=Calm.nil;obtain ⟨hm2,hc0⟩:=hm0.kn hc0 f0;refine Rn.en func68 ?_;refine gg 9 rfl ?_;obtain ⟨_,⟨A3_0,c3_0,rfl⟩,hm3⟩:=hm2.unfz 0 rfl;replace hm3:=hm3.nq;have hm7:=hm3.fzSl 2 rfl;refine Rn.q rfl (V.ldB isAgg22 rfl (hm7.getz 1 rfl) rfl) ?_;obtain ⟨p8,e8,hM⟩:=zAb hM
 refine Rn.c2 (cK func75) (zFe (Z0:=All) e8 (zA7 (hm7.get 3 rfl)) :) fun A8_0_0 c8_0_0 w8 hq8=>?_
 have hm10:=hm7.callF (flC (zBf zFf _ _ _ _) fl0) hq8;refine gg 2 rfl ?_
 cases hM
 exact Rn.R1 func68 ⟨A8_0_0,c8_0_0,rfl,hm10.pk [4]⟩
theorem m_pack_Writer_Raw_sim {x0:zAd} {x1:(List UInt8)} {r:zAd} (hM:zHq x0 x1=some r) (hL:zIg Z0 w [zAd.obj F0 b0 x0,slR A1 c1 zCn x1]) :
 Calls prog 67 #[pt b0 0,.slice A1 (x1).length c1] w fun x w'=>∃ F_p0,x=.returned (.tuple #[])∧Hp Z0 (LS [zAd.obj F0 b0 x0,slR A1 c1 zCn x1]) w w' [zAd.obj F_p0 b0 r]:=by
 have hm0:=hL.start;refine Rn.en func67 ?_;refine gg 5 rfl ?_;obtain ⟨_,⟨A3_0,c3_0,rfl⟩,hm3⟩:=hm0.unf 0 rfl;replace hm3:=hm3.nq;refine Rn.q rfl (V.ldB isAgg22 rfl (hm3.get 1 rfl) rfl) (gg 1 rfl ?_);obtain ⟨z5,e5,hM⟩:=zAb hM;refine Rn.appH hm3 2 rfl e5 rfl rfl rfl underlying22 el5 rfl rfl rfl rfl (hm3.src 0 rfl) ?_;intro A5 c5 w5 hm5;refine gg 2 rfl (Rn.sq rfl sizeOf22 rfl rfl (hm5.get 1 rfl) ?_);intro w7 m7 x7;have hm8:=(hm5.st 1 rfl x7 m7).nf [_,zAh _ _ [_],_] rfl;refine gg 1 rfl ?_;have hm10:=hm8.cu [0] [1,2];obtain ⟨F9,hm9⟩:=hm10.fold (zAd.sh b0 ({ b:=z5 }:zAd)) ⟨A5,c5,rfl⟩;refine Rn.end0 func67 rfl ?_;obtain rfl:=zDt hM;exact ⟨F9,rfl,hm9.pk [1]⟩
theorem zKi {x0:zAd} {r:(List UInt8)} (hM:zGy x0=some r) (f0:(fzR (zAd.obj F0 b0 x0)).H Z0 w) :
 Calls prog 69 #[pt b0 0] w fun x w'=>∃ A_0_0 c_0_0,x=.returned (.slice A_0_0 (r).length c_0_0)∧Hp Z0 No w w' [zBi 5 A_0_0 c_0_0 zCn r]:=by
 have hm0:=Hp.nil Z0 No w;have hc0:=Calm.nil;obtain ⟨hm2,hc0⟩:=hm0.kn hc0 f0;refine Rn.en func69 ?_;refine gg 9 rfl ?_;obtain ⟨_,⟨A3_0,c3_0,rfl⟩,hm3⟩:=hm2.unfz 0 rfl;replace hm3:=hm3.nq;have hm7:=hm3.fzSl 2 rfl;refine Rn.q rfl (V.ldB isAgg22 rfl (hm7.getz 1 rfl) rfl) ?_;obtain ⟨p8,e8,hM⟩:=zAb hM
 refine Rn.c2 (cK func75) (zFe (Z0:=All) e8 (zA7 (hm7.get 3 rfl)) :) fun A8_0_0 c8_0_0 w8 hq8=>?_
 have hm10:=hm7.callF (flC (zBf zFf _ _ _ _) fl0) hq8;refine gg 2 rfl ?_
 cases hM
 exact Rn.R1 func69 ⟨A8_0_0,c8_0_0,rfl,hm10.pk [4]⟩
theorem zHe {x0:zAc} {r:(List UInt8)} (hM:zEl x0=some r) (f0:(fzR (zAc.obj F0 b0 x0)).H Z0 w) :
 Calls prog 25 #[pt b0 0] w fun x w'=>∃ A_0_0 c_0_0,x=.returned (.slice A_0_0 (r).length c_0_0)∧Hp Z0 No w w' [zBi 5 A_0_0 c_0_0 zCn r]:=by
 have hm0:=Hp.nil Z0 No w;have hc0:=Calm.nil;obtain ⟨hm2,hc0⟩:=hm0.kn hc0 f0;refine Rn.en func25 ?_;refine gg 7 rfl ?_;obtain ⟨p3,e3,hM⟩:=zAb hM
 refine Rn.c2 (cK func66) (zHl (Z0:=All) e3 (zQm (hm2.get 0 rfl)) :) fun F3_0 b3_0 w3 hq3=>?_
 have hm5:=hm2.callF (flC ((zAd.oflat _ _ _)) fl0) hq3;refine gg 8 rfl ?_;obtain ⟨_,⟨F6_0,b6_0,F6_1,b6_1,F6_2,b6_2,F6_3,b6_3,F6_4,b6_4,F6_5,b6_5,F6_6,b6_6,F6_7,b6_7,rfl⟩,hm6⟩:=hm5.unfz 0 rfl;replace hm6:=hm6.nq;refine Rn.q rfl (V.ldB isAgg119 rfl (hm6.getz 2 rfl) rfl) ?_;obtain ⟨p16,e16,hM⟩:=zAb hM
 refine Rn.c2 (cK func68) (zK6 (Z0:=All) e16 (zQm (hm6.get 3 rfl)) :) fun A16_0_0 c16_0_0 w16 hq16=>?_
 have hm18:=hm6.callF (flC (zBf zFf _ _ _ _) fl0) hq16;replace hm18:=hm18.nq;have hm21:=hm18.freeze 11 rfl;obtain ⟨p19,e19,hM⟩:=zAb hM;have hm22:=hm21.dup 11 rfl (fun _ h=>h);have hm24:=hm22.cu [0,2,3,4,5,6,7,8,9,10,11] [1,12]
 refine Rn.a1 (cK func67) (m_pack_Writer_Raw_sim e19 hm24.lend :) hm24 fun F19_p0 w19 hm26=>?_
 refine gg 4 rfl ?_;obtain ⟨p27,e27,hM⟩:=zAb hM
 refine Rn.c2 (cK func69) (zKi (Z0:=All) e27 (zCe (hm26.get 11 rfl)) :) fun A27_0_0 c27_0_0 w27 hq27=>?_
 have hm29:=hm26.callF (flC (zBf zFf _ _ _ _) fl0) hq27;replace hm29:=hm29.nq;refine gg 2 rfl ?_
 cases hM
 exact Rn.R1 func25 ⟨A27_0_0,c27_0_0,rfl,hm29.pk [12]⟩
theorem zO3 {x0:(List zAm)} {r:((List UInt8)×Int)} (hM:zNr x0=some r) (f0:(slR A0 c0 zAm.rep x0).H Z0 w) (f1:(rdR 1 0 gl1).H Z0 w) (f2:(rdR 3 0 gl3).H Z0 w) :
 Calls prog 12 #[.slice A0 (x0).length c0] w fun x w'=>∃ A_0_0 c_0_0,x=.returned (.tuple #[.slice A_0_0 (r.1).length c_0_0,iv r.2])∧Hp Z0 No w w' [zBi 5 A_0_0 c_0_0 zCn r.1]:=by
 have hm0:=Hp.nil Z0 No w;have hc0:=Calm.nil;obtain ⟨hm4,hc0⟩:=hm0.kn hc0 f0;obtain ⟨hm5,hc0⟩:=hm4.kn hc0 f1;obtain ⟨hm6,hc0⟩:=hm5.kn hc0 f2;refine Rn.en func12 ?_;refine gg 9 rfl (Rn.q rfl (V.lenV underlying24 rfl) (gg 2 rfl ?_));refine aD hM (fun h7 hM=>?_) (fun h7 hM=>?_)
 ·refine gg 5 rfl ?_;have hm8:=hm6.addNil 5 zCn
  cases hM
  exact Rn.R2 func12 ⟨none,0,rfl,hm8.pk [3]⟩
 refine gg 4 rfl ?_;obtain ⟨z10,e10,hM⟩:=zAb hM;refine Rn.ixH hm6 0 rfl e10 rfl rfl rfl underlying24 sizeOf44 rfl rfl rfl rfl ?_;rintro b10 o10 vs10 hr10 hm10;obtain ⟨Ar11,cr11,Ar13,cr13,Ar15,cr15,rfl,fs11,fs13,fs15⟩:=zAm.relE hr10;have hm18:=Hp.know1 (M:=[slR Ar11 cr11 zA.rep z10.Point.Attrs,slR Ar13 cr13 zAq z10.Point.Hist.Pos.Counts,slR Ar15 cr15 zAq z10.Point.Hist.Neg.Counts]) hm10 (fun _ h=>h) (knC (fun _ h=>h) fs11 (knC (fun _ h=>h) fs13 (knC (fun _ h=>h) fs15 kn0)));refine gg 1 rfl (Rn.q rfl (V.ldA (vs:=[_,_,_,_,_,_,_,_,_,_,_,_,_,_,_,_,_]) isAgg42 sizeOf42 rfl (Rd.sub (hm18.get 3 rfl).2 1 17) rfl) ?_);obtain ⟨p19,e19,hM⟩:=zAb hM
 refine Rn.c2 (cK func23) (zLc (Z0:=All) e19 (show zA6.rep.rel All _ _ _ from ⟨_,_,rfl,⟨rfl,trivial⟩,⟨_,_,rfl,⟨_,_,rfl,(zA7 (hm18.get 4 rfl)).1,(zA7 (hm18.get 4 rfl)).2.1,(zA7 (hm18.get 4 rfl)).2.2⟩,⟨_,_,rfl,⟨rfl,trivial⟩,⟨_,_,rfl,⟨rfl,trivial⟩,⟨_,_,rfl,⟨rfl,trivial⟩,⟨_,_,rfl,⟨rfl,trivial⟩,⟨_,_,rfl,⟨rfl,trivial⟩,⟨_,_,rfl,⟨rfl,trivial⟩,⟨_,_,rfl,⟨rfl,trivial⟩,⟨_,_,rfl,⟨rfl,trivial⟩,⟨_,_,rfl,⟨_,_,rfl,⟨rfl,trivial⟩,⟨_,_,rfl,⟨rfl,trivial⟩,⟨_,_,rfl,⟨_,_,rfl,⟨rfl,trivial⟩,⟨_,_,rfl,(zA7 (hm18.get 5 rfl)).1,(zA7 (hm18.get 5 rfl)).2.1,(zA7 (hm18.get 5 rfl)).2.2⟩⟩,⟨_,_,rfl,⟨rfl,trivial⟩,⟨_,_,rfl,(zA7 (hm18.get 6 rfl)).1,(zA7 (hm18.get 6 rfl)).2.1,(zA7 (hm18.get 6 rfl)).2.2⟩⟩⟩⟩⟩,⟨rfl,trivial⟩⟩⟩⟩⟩⟩⟩⟩⟩⟩⟩⟩) :) fun F19_0 b19_0 w19 hq19=>?_
 have hm21:=hm18.callF (flC (zRf fun _=>(zAc.oflat _ _ _)) fl0) hq19;refine gg 12 rfl ?_;refine aD hM (fun h22 hM=>?_) (fun h22 hM=>?_)
 ·refine gg 6 rfl ?_;have hm23:=hm21.addNil 5 zCn
  cases hM
  exact Rn.R2 func12 ⟨none,0,rfl,hm23.pk [8]⟩
 refine gg 5 rfl (Rn.q rfl (V.lenV underlying24 rfl) (gg 2 rfl ?_));refine Rn.jG hm0 hM (G:=(Option zAc)×(Nat→Prop)) (fun g=>[(4,.pointer (zWm b19_0 (g.1)))]) (fun g=>[rdR 1 0 gl1,rdR 3 0 gl3,zU0 (g.1) (fun z=>zAc.obj (g.2) b19_0 z)]) (fun j g=>j g.1) ?_ ?_
 ·rintro ⟨y25,F25⟩ w26 hm26 hM
  try dsimp only at hM
  refine gg 3 rfl ?_;obtain ⟨z28,e28,hM⟩:=zAb hM;have hm29:=hm26.optSome 2 rfl e28;refine Rn.say (t:=39) (pt b19_0 0) rfl (by rw [e28];rfl) ?_;obtain ⟨p27,e27,hM⟩:=zAb hM
  refine Rn.c2 (cK func25) (zHe (Z0:=All) e27 (zCe (hm29.get 2 rfl)) :) fun A27_0_0 c27_0_0 w27 hq27=>?_
  have hm31:=hm29.callF (flC (zBf zFf _ _ _ _) fl0) hq27;refine gg 3 rfl ?_
  cases hM
  exact Rn.R2 func12 ⟨A27_0_0,c27_0_0,rfl,hm31.pk [3]⟩
 intro j1 hM hk1;refine gg 1 rfl ?_;refine Rn.loopF (G:=Int×(Option zAc)×(Nat→Prop)) (fun g=>[(4,.pointer (zWm b19_0 (g.2.1))),(23,.slice A0 (x0).length c0),(24,iv (x0.length:Int)),(25,iv (g.1))]) (fun g w'=>Hp Z0 No w w' [slR A0 c0 zAm.rep x0,rdR 1 0 gl1,rdR 3 0 gl3,zU0 (g.2.1) (fun z=>zAc.obj (g.2.2) b19_0 z)]) (fun n g=>zG7 x0 j1 n g.1 g.2.1) fuel (0,p19.1,F19_0) sA (hm21.pk [0,1,2,7]) hM (fun _=>rfl) ?_;clear hM;rintro m34 ⟨y32,y33,F33⟩ w34 hm34 hM hn34;replace hM:zG7 x0 j1 (m34+1) y32 y33=some r:=hM;rw [zG7] at hM;refine gg 5 rfl ?_;refine aD hM (fun h35 hM=>?_) (fun h35 hM=>?_)
 ·refine gg 5 rfl ?_;obtain ⟨z36,e36,hM⟩:=zAb hM;refine Rn.ixH hm34 0 rfl e36 rfl rfl rfl underlying24 sizeOf44 rfl rfl rfl rfl ?_;rintro b36 o36 vs36 hr36 hm36;obtain ⟨Ar37,cr37,Ar39,cr39,Ar41,cr41,rfl,fs37,fs39,fs41⟩:=zAm.relE hr36;have hm44:=Hp.know1 (M:=[slR Ar37 cr37 zA.rep z36.Point.Attrs,slR Ar39 cr39 zAq z36.Point.Hist.Pos.Counts,slR Ar41 cr41 zAq z36.Point.Hist.Neg.Counts]) hm36 (fun _ h=>h) (knC (fun _ h=>h) fs37 (knC (fun _ h=>h) fs39 (knC (fun _ h=>h) fs41 kn0)));refine Rn.q rfl (V.ldA (vs:=[_,_,_,_,_,_,_,_,_,_,_,_,_,_,_,_,_,_]) isAgg44 sizeOf44 rfl (Rd.pre (hm44.get 4 rfl).2 18) rfl) (Rn.als rfl rfl rfl Tryz.zeroValue44 rfl sizeOf44 rfl rfl rfl rfl (by first|exact zJg rfl|(simp [Value.oneCell'];done)) ?_);intro b45 w45 hb45 m45 e45;have hm47:=(hm44.addBox hb45 e45 m45).nf [_,_,_,_,_,_,_,_,zAh _ _ [_,_,_,_,_,_,_,_,_,_,_,_,_,_,_,_,_,_]] rfl;refine gg 5 rfl (Rn.q rfl (V.ldB isAgg3 rfl (hm47.get 8 rfl) rfl) (gg 1 rfl (Rn.q rfl (V.ldBA [_,_,_,_,_,_,_,_,_,_,_,_,_,_,_,_,_] isAgg42 sizeOf42 rfl (hm47.get 8 rfl) rfl rfl) ?_)));obtain ⟨z49,e49,hM⟩:=zAb hM;have hm50:=hm47.optSome 3 rfl e49;refine Rn.say (t:=29) (pt b19_0 0) rfl (by rw [e49];rfl) ?_;obtain ⟨p48,e48,hM⟩:=zAb hM;have hm51:=hm50.dup 1 rfl (fun _ h=>h);have hm53:=hm51.dup 2 rfl (fun _ h=>h);have hm55:=hm53.know (zPy zA6.rep [Str (z36.Point.Name),.slice Ar37 (z36.Point.Attrs).length cr37,iv z36.Point.Kind,iv z36.Point.Temp,.bool (z36.Point.Mono),iv z36.Point.Start,iv z36.Point.Time,iv z36.Point.Int_,zAl z36.Point.Re,zAl z36.Point.Im,iv z36.Point.Hist.Scale,zAl z36.Point.Hist.Zero,iv z36.Point.Hist.Pos.Offset,.slice Ar39 (z36.Point.Hist.Pos.Counts).length cr39,iv z36.Point.Hist.Neg.Offset,.slice Ar41 (z36.Point.Hist.Neg.Counts).length cr41,iv z36.Point.Flags] z36.Point) (fun _ h=>h) (show zA6.rep.rel _ _ _ _ from ⟨_,_,rfl,⟨rfl,trivial⟩,⟨_,_,rfl,⟨_,_,rfl,(hm53.get 5 rfl).1,(hm53.get 5 rfl).2.1,(hm53.get 5 rfl).2.2⟩,⟨_,_,rfl,⟨rfl,trivial⟩,⟨_,_,rfl,⟨rfl,trivial⟩,⟨_,_,rfl,⟨rfl,trivial⟩,⟨_,_,rfl,⟨rfl,trivial⟩,⟨_,_,rfl,⟨rfl,trivial⟩,⟨_,_,rfl,⟨rfl,trivial⟩,⟨_,_,rfl,⟨rfl,trivial⟩,⟨_,_,rfl,⟨rfl,trivial⟩,⟨_,_,rfl,⟨_,_,rfl,⟨rfl,trivial⟩,⟨_,_,rfl,⟨rfl,trivial⟩,⟨_,_,rfl,⟨_,_,rfl,⟨rfl,trivial⟩,⟨_,_,rfl,(hm53.get 6 rfl).1,(hm53.get 6 rfl).2.1,(hm53.get 6 rfl).2.2⟩⟩,⟨_,_,rfl,⟨rfl,trivial⟩,⟨_,_,rfl,(hm53.get 7 rfl).1,(hm53.get 7 rfl).2.1,(hm53.get 7 rfl).2.2⟩⟩⟩⟩⟩,⟨rfl,trivial⟩⟩⟩⟩⟩⟩⟩⟩⟩⟩⟩⟩);have hm57:=hm55.cu [0,1,2,4,5,6,7,8] [3,9,10,11]
  refine Rn.a1 (cK func24) (m_chunk_Chunk_Add_sim e48 hm57.lend :) hm57 fun F48_p0 w48 hm59=>?_
  refine gg 7 rfl ?_;refine aD hM (fun h60 hM=>?_) (fun h60 hM=>?_)
  ·refine gg 6 rfl ?_;have hm61:=hm59.addNil 5 zCn
   cases hM
   exact Rn.R2 func12 ⟨none,0,rfl,hm61.pk [9]⟩
  refine gg 6 rfl ?_;refine Rn.say (t:=4) (pt b19_0 0) rfl (by rw [e49];rfl) ?_;have hm63:=hm59.toSome (R:=(fun z=>zAc.obj F48_p0 b19_0 z)) 8 rfl;exact hn34 ((W64 (y32+1)),(some p48.2),F48_p0) _ _ sA (hm63.pk [0,1,2,8]) hM
 refine gg 1 rfl ?_;exact hk1 (y33,F33) _ _ sA (hm34.pk [1,2,3]) hM
theorem zLv {x0:(List UInt8)} {r:zAa} (hM:zGv x0=some r) (f0:(slR A0 c0 zCn x0).H Z0 w) :
 Calls prog 31 #[.slice A0 (x0).length c0] w fun x w'=>∃ F_0 b_0,x=.returned (pt b_0 0)∧Hp Z0 No w w' [zAa.obj F_0 b_0 r]:=by
 have hm0:=Hp.nil Z0 No w;have hc0:=Calm.nil;obtain ⟨hm2,hc0⟩:=hm0.kn hc0 f0;refine Rn.en func31 ?_;refine gg 7 rfl ?_;obtain ⟨p3,e3,hM⟩:=zAb hM
 refine Rn.c2 (cK func75) (zFe (Z0:=All) e3 (zA7 (hm2.get 0 rfl)) :) fun A3_0_0 c3_0_0 w3 hq3=>?_
 have hm5:=hm2.callF (flC (zBf zFf _ _ _ _) fl0) hq3;refine Rn.q rfl (V.bldS (cs:=[_,_,_]) st134 rfl rfl) (Rn.box rfl rfl rfl rfl rfl ?_);intro b6 w6 hb6 m6 e6;have hm8:=(hm5.addBox hb6 e6 m6).nf [_,_,zAh _ _ [_,_,_]] rfl;refine gg 2 rfl ?_;have hm10:=hm8.freeze 1 rfl;have hm11:=hm10.dup 1 rfl (fun _ h=>h);have hm14:=hm11.cu [0,1] [2,3];obtain ⟨F13,hm13⟩:=hm14.fold (zAa.sh b6 ({ b:=p3,at_:=0,e:=0 }:zAa)) ⟨A3_0_0,c3_0_0,rfl⟩
 cases hM
 exact Rn.R1 func31 ⟨F13,b6,rfl,hm13.pk [2]⟩
theorem zEn {x0:zAa} {r:Int} (hM:zDa x0=some r) (f0:(fzR (zAa.obj F0 b0 x0)).H Z0 w) :
 Calls prog 78 #[pt b0 0] w fun x w'=>x=.returned (iv r)∧Hp Z0 No w w' []:=by
 have hm0:=Hp.nil Z0 No w;have hc0:=Calm.nil;obtain ⟨hm2,hc0⟩:=hm0.kn hc0 f0;refine Rn.en func78 ?_;refine gg 5 rfl ?_;obtain ⟨_,⟨A4_0,c4_0,rfl⟩,hm4⟩:=hm2.unfz 0 rfl;replace hm4:=hm4.nq;have hm8:=hm4.fzS 2 rfl;refine Rn.drawP rfl hm8 ?_;intro w3 hm3;refine dq [0,1,2] ?_;refine RH.takeP 3 (by kernel_rfl) rfl rfl rfl rfl (V.ldB isAgg22 rfl (hm3.getz 1 rfl) rfl) ?_;refine RH.takeP 4 (by kernel_rfl) rfl rfl rfl rfl (V.lenV underlying22 rfl) ?_;refine dq [5,6,7] ?_;refine RH.takeP 8 (by kernel_rfl) rfl rfl rfl rfl (V.ldB isAgg3 rfl (hm3.getz 1 rfl) rfl) ?_;refine dq [9,10] ?_;refine RH.doneP (by kernel_rfl) ?_
 cases hM
 exact Rn.R1 func78 ⟨rfl,hm3.pk []⟩
theorem zLw {x0:UInt8} {r:Int} (hM:zKr x0=some r)  :
 Calls prog 190 #[u8v x0] w fun x w'=>x=.returned (iv r)∧Hp Z0 No w w' []:=by
 have hm0:=Hp.nil Z0 No w;have hc0:=Calm.nil;refine Rn.en func190 ?_;refine gg 7 rfl ?_;obtain ⟨z1,e1,hM⟩:=zAb hM;refine Rn.q rfl (V.idxSZ underlying9 rfl rfl e1) (Rn.q rfl (V.cv8i (a:=z1) underlying5 underlying3 rfl) (gg 2 rfl ?_))
 cases hM
 exact Rn.R1 func190 ⟨rfl,hm0.pk []⟩
theorem zIj {x0:UInt8} {r:Int} (hM:zCy x0=some r)  :
 Calls prog 132 #[u8v x0] w fun x w'=>x=.returned (iv r)∧Hp Z0 No w w' []:=by
 have hm0:=Hp.nil Z0 No w;have hc0:=Calm.nil;refine Rn.en func132 ?_;refine gg 7 rfl ?_;obtain ⟨p1,e1,hM⟩:=zAb hM
 refine Rn.c0 (cK func190) (zLw (Z0:=All) e1  :) hm0 fun w1 _ hm2=>?_
 refine gg 3 rfl ?_
 cases hM
 exact Rn.R1 func132 ⟨rfl,hm2.pk []⟩
theorem m_pack_Reader_fail_sim {x0:zAa} {x1:Int} {r:zAa} (hM:zE x0 x1=some r) (hL:zIg Z0 w [zAa.obj F0 b0 x0]) :
 Calls prog 77 #[pt b0 0,iv x1] w fun x w'=>∃ F_p0,x=.returned (.tuple #[])∧Hp Z0 (LS [zAa.obj F0 b0 x0]) w w' [zAa.obj F_p0 b0 r]:=by
 have hm0:=hL.start;refine Rn.en func77 ?_;refine gg 5 rfl ?_;obtain ⟨_,⟨A2_0,c2_0,rfl⟩,hm2⟩:=hm0.unf 0 rfl;replace hm2:=hm2.nq;refine Rn.q rfl (V.ldB isAgg25 rfl (hm2.get 0 rfl) rfl) (gg 2 rfl ?_);refine aD hM (fun h4 hM=>?_) (fun h4 hM=>?_)
 ·refine gg 5 rfl (Rn.sq rfl sizeOf25 rfl rfl (hm2.get 0 rfl) ?_);intro w5 m5 x5;have hm6:=(hm2.st 0 rfl x5 m5).nf [zAh _ _ [_,_,_],_] rfl;refine gg 1 rfl ?_;have hm7:=hm6.dup 1 rfl (fun _ h=>h);have hm10:=hm7.cu [1] [0,2];obtain ⟨F9,hm9⟩:=hm10.fold (zAa.sh b0 ({ b:=x0.b,at_:=x0.at_,e:=x1 }:zAa)) ⟨A2_0,c2_0,rfl⟩;refine Rn.end0 func77 rfl ?_;obtain rfl:=zDt hM;exact ⟨F9,rfl,hm9.pk [1]⟩
 refine gg 1 rfl ?_;have hm11:=hm2.dup 1 rfl (fun _ h=>h);have hm14:=hm11.cu [1] [0,2];obtain ⟨F13,hm13⟩:=hm14.fold (zAa.sh b0 x0) ⟨A2_0,c2_0,rfl⟩;refine Rn.end0 func77 rfl ?_;obtain rfl:=zDt hM;exact ⟨F13,rfl,hm13.pk [1]⟩
theorem m_pack_Reader_Num_sim {x0:zAa} {r:(UInt64×zAa)} (hM:zGd x0=some r) (hL:zIg Z0 w [zAa.obj F0 b0 x0]) :
 Calls prog 76 #[pt b0 0] w fun x w'=>∃ F_p0,x=.returned (zAl r.1)∧Hp Z0 (LS [zAa.obj F0 b0 x0]) w w' [zAa.obj F_p0 b0 r.2]:=by
 have hm0:=hL.start;refine Rn.en func76 ?_;refine gg 5 rfl ?_;obtain ⟨j1,hj1,hM⟩:=jnE hM;refine Rn.joinL (r:=r) (G:=(Nat→Prop)) 0 rfl (fun g=>[(0,pt b0 0)]) (fun g w'=>Hp Z0 (LS [zAa.obj F0 b0 x0]) w w' [zAa.obj g b0 x0]) (fun g=>j1 ()) ?_ ?_
 ·subst hj1;clear hM;rintro F2 w3 hm3 hM
  try dsimp only at hM
  refine gg 3 rfl ?_;obtain ⟨p4,e4,hM⟩:=zAb hM;have hm5:=hm3.cu [] [0]
  refine Rn.a1 (cK func77) (m_pack_Reader_fail_sim e4 hm5.lend :) hm5 fun F4_p0 w4 hm7=>?_
  refine gg 5 rfl ?_
  cases hM
  exact Rn.R1 func76 ⟨F4_p0,rfl,hm7.pk [0]⟩
 intro hk1;clear hj1;refine gg 14 rfl ?_;obtain ⟨_,⟨A8_0,c8_0,rfl⟩,hm8⟩:=hm0.unf 0 rfl;replace hm8:=hm8.nq;refine Rn.q rfl (V.ldB isAgg25 rfl (hm8.get 0 rfl) rfl) (gg 2 rfl ?_);refine aD hM (fun h10 hM=>?_) (fun h10 hM=>?_)
 ·refine gg 4 rfl ?_;have hm11:=hm8.dup 1 rfl (fun _ h=>h);have hm14:=hm11.cu [1] [0,2];obtain ⟨F13,hm13⟩:=hm14.fold (zAa.sh b0 x0) ⟨A8_0,c8_0,rfl⟩
  cases hM
  exact Rn.R1 func76 ⟨F13,rfl,hm13.pk [1]⟩
 refine gg 5 rfl ?_;have hm16:=hm8.dup 1 rfl (fun _ h=>h);have hm19:=hm16.cu [1] [0,2];obtain ⟨F18,hm18⟩:=hm19.fold (zAa.sh b0 x0) ⟨A8_0,c8_0,rfl⟩;obtain ⟨p15,e15,hM⟩:=zAb hM
 refine Rn.c0 (cK func78) (zEn (Z0:=All) e15 (zCe (hm18.get 1 rfl)) :) hm18 fun w15 _ hm20=>?_
 refine gg 2 rfl ?_;refine aD hM (fun h21 hM=>?_) (fun h21 hM=>?_)
 ·refine gg 3 rfl ?_;exact hk1 F18 _ _ sA (hm20.pk [1]) hM
 refine gg 2 rfl ?_;refine Rn.drawH rfl hm20 ?_;intro w22 hm22;refine dq [0,1,2] ?_;obtain ⟨_,⟨A23_0,c23_0,rfl⟩,hm23⟩:=hm22.unf 1 rfl;replace hm23:=hm23.nq;refine RH.tk 3 rfl (fun w' hDr=>V.ldB isAgg22 rfl ((hm23.ext hDr).get 1 rfl) rfl) ?_;refine dq [4,5,6] ?_
 refine RH.here fun hS7=>RH.on 7 rfl (V.ldB isAgg3 rfl (hm23.get 1 rfl) rfl) hS7 ?_
 obtain ⟨z25,e25,hM⟩:=zAb hM;obtain ⟨kk25,ke25,kz25,kl25⟩:=zGz e25;obtain ⟨b25,o25,vs25,hA25,hD25,hR25,hrel25⟩:=Hp.at hm23 2 rfl kz25;obtain ⟨rfl,_⟩:=hrel25;have hm27:=Hp.knowL [rdR b25 (o25+kk25*1) [u8v z25]] _ hm23 (knC (fun _ h=>h) ⟨fun _=>hD25,hR25⟩ kn0)
 refine RH.here fun hS8=>RH.on 8 rfl (V.ixA' hA25 kk25 underlying22 sizeOf5 rfl rfl ke25 kl25) hS8 ?_
 refine RH.here fun hS9=>RH.on 9 rfl (V.ldR0 isAgg5 rfl (hm27.get 3 rfl).2 rfl) hS9 ?_
 refine RH.here fun hS10=>RH.on 10 rfl (V.com8 (a:=z25) rfl) hS10 ?_
 obtain ⟨p28,e28,hM⟩:=zAb hM;refine RH.cq (cK func132) 11 (zIj (Z0:=All) e28  :) ?_;rintro _ w28 ⟨rfl,hq28⟩;refine ⟨_,rfl,((Ext.refl _).trans hq28.fr),?_⟩;have hm29:=hm27.call0 hq28;refine dq [12] ?_;refine RH.doneP (by kernel_rfl) ?_;refine gg 5 rfl ?_;have hm31:=hm29.dup 2 rfl (fun _ h=>h);have hm34:=hm31.cu [0,2,3] [1,4];obtain ⟨F33,hm33⟩:=hm34.fold (zAa.sh b0 x0) ⟨A23_0,c23_0,rfl⟩;obtain ⟨p30,e30,hM⟩:=zAb hM
 refine Rn.c0 (cK func78) (zEn (Z0:=All) e30 (zCe (hm33.get 3 rfl)) :) hm33 fun w30 _ hm35=>?_
 refine gg 2 rfl ?_;refine aD hM (fun h36 hM=>?_) (fun h36 hM=>?_)
 ·refine gg 3 rfl ?_;exact hk1 F33 _ _ sA (hm35.pk [3]) hM
 refine gg 7 rfl ?_;refine Rn.jG hm0 hM (G:=UInt64×(Nat→Prop)) (fun g=>[(0,pt b0 0),(3,iv p28),(4,zAl (g.1))]) (fun g=>[zAa.obj (g.2) b0 x0]) (fun j g=>j g.1) ?_ ?_
 ·rintro ⟨y38,F37⟩ w39 hm39 hM
  try dsimp only at hM
  refine gg 2 rfl ?_;refine Rn.drawP rfl hm39 ?_;intro w40 hm40;refine dq [0,1,2] ?_;obtain ⟨_,⟨A41_0,c41_0,rfl⟩,hm41⟩:=hm40.unf 0 rfl;replace hm41:=hm41.nq;refine RH.takeP 3 (by kernel_rfl) rfl rfl rfl rfl (V.ldB isAgg22 rfl (hm41.get 0 rfl) rfl) ?_;refine dq [4,5,6] ?_;refine RH.takeP 7 (by kernel_rfl) rfl rfl rfl rfl (V.ldB isAgg3 rfl (hm41.get 0 rfl) rfl) ?_;refine dq [8,9,10,11] ?_;refine RH.takeP 12 (by kernel_rfl) rfl rfl rfl rfl (V.ldB isAgg3 rfl (hm41.get 0 rfl) rfl) ?_;refine dq [13,14,15] ?_;obtain ⟨z43,e43,hM⟩:=zAb hM;refine RH.cutH 16 (by kernel_rfl) hm41 1 rfl e43 rfl rfl rfl underlying22 sizeOf5 rfl rfl rfl rfl rfl ?_;intro A43 c43 hm43;refine RH.takeP 17 (by kernel_rfl) rfl rfl rfl rfl (V.lenV underlying22 rfl) ?_;refine dq [18] ?_;refine RH.doneP (by kernel_rfl) ?_;have hm45:=hm43.dup 1 rfl (fun _ h=>h);have hm48:=hm45.cu [1,2] [0,3];obtain ⟨F47,hm47⟩:=hm48.fold (zAa.sh b0 x0) ⟨A41_0,c41_0,rfl⟩;refine Rn.jG hm0 hM (G:=UInt64×(Nat→Prop)) (fun g=>[(0,pt b0 0),(3,iv p28),(4,zAl (g.1))]) (fun g=>[zAa.obj (g.2) b0 x0]) (fun j g=>j g.1) ?_ ?_
  ·rintro ⟨y50,F49⟩ w51 hm51 hM
   try dsimp only at hM
   refine gg 4 rfl ?_;obtain ⟨p52,e52,hM⟩:=zAb hM
   refine Rn.c0 (cK func133) (zK0 (Z0:=All) e52  :) hm51 fun w52 _ hm53=>?_
   refine gg 3 rfl ?_;refine aD hM (fun h54 hM=>?_) (fun h54 hM=>?_)
   ·refine gg 3 rfl ?_;obtain ⟨p55,e55,hM⟩:=zAb hM;have hm56:=hm53.cu [] [0]
    refine Rn.a1 (cK func77) (m_pack_Reader_fail_sim e55 hm56.lend :) hm56 fun F55_p0 w55 hm58=>?_
    refine gg 5 rfl ?_
    cases hM
    exact Rn.R1 func76 ⟨F55_p0,rfl,hm58.pk [0]⟩
   refine gg 6 rfl ?_;obtain ⟨_,⟨A59_0,c59_0,rfl⟩,hm59⟩:=hm53.unf 0 rfl;replace hm59:=hm59.nq;refine Rn.q rfl (V.ldB isAgg3 rfl (hm59.get 0 rfl) rfl) (gg 5 rfl (Rn.sq rfl sizeOf3 rfl rfl (hm59.get 0 rfl) ?_));intro w61 m61 x61;have hm62:=(hm59.st 0 rfl x61 m61).nf [zAh _ _ [_,_,_],_] rfl;refine gg 7 rfl ?_;have hm63:=hm62.dup 1 rfl (fun _ h=>h);have hm66:=hm63.cu [1] [0,2];obtain ⟨F65,hm65⟩:=hm66.fold (zAa.sh b0 ({ b:=x0.b,at_:=W64 (x0.at_+(W64 (1+p28))),e:=x0.e }:zAa)) ⟨A59_0,c59_0,rfl⟩
   cases hM
   exact Rn.R1 func76 ⟨F65,rfl,hm65.pk [1]⟩
  intro j3 hM hk3;refine gg 1 rfl ?_;refine Rn.loopF (G:=UInt64×Int×(Nat→Prop)) (fun g=>[(0,pt b0 0),(3,iv p28),(4,zAl (g.1)),(64,.slice A43 (z43).length c43),(65,iv (z43.length:Int)),(66,iv (g.2.1))]) (fun g w'=>Hp Z0 (LS [zAa.obj F0 b0 x0]) w w' [slR A43 c43 zCn z43,zAa.obj (g.2.2) b0 x0]) (fun n g=>zCj z43 j3 n g.1 g.2.1) fuel (y38,0,F47) sA (hm47.pk [1,2]) hM (fun _=>rfl) ?_;clear hM;rintro m70 ⟨y68,y69,F67⟩ w70 hm70 hM hn70;replace hM:zCj z43 j3 (m70+1) y68 y69=some r:=hM;rw [zCj] at hM;refine gg 5 rfl ?_;refine aD hM (fun h71 hM=>?_) (fun h71 hM=>?_)
  ·refine gg 5 rfl ?_;obtain ⟨z72,e72,hM⟩:=zAb hM;refine Rn.ixH hm70 0 rfl e72 rfl rfl rfl underlying22 sizeOf5 rfl rfl rfl rfl ?_;rintro b72 o72 vs72 ⟨rfl,_⟩ hm72;refine Rn.q rfl (V.ldR0 isAgg5 rfl (hm72.get 2 rfl).2 rfl) (gg 4 rfl (Rn.q rfl (V.sh64 rfl rfl _ 8 rfl rfl (zWd _ _ _ 8 (by decide))) (gg 1 rfl (Rn.q rfl (V.cv64 underlying5 underlying35 rfl) (Rn.q rfl (V.o64 rfl rfl (y68<<<UInt64.ofNat 8) (zAe ((z72).toNat:Int)) rfl rfl (zTt _ _ _)) (gg 7 rfl ?_))))));exact hn70 (((y68<<<UInt64.ofNat 8)|||(zAe ((z72).toNat:Int))),(W64 (y69+1)),F67) _ _ sA (hm72.pk [0,1]) hM
  refine gg 1 rfl ?_;exact hk3 (y68,F67) _ _ sA (hm70.pk [1]) hM
 intro j2 hM hk2;refine aD hM (fun h74 hM=>?_) (fun h74 hM=>?_)
 ·refine Rn.drawP rfl hm35 ?_;intro w75 hm75;refine dq [0,1,2] ?_;obtain ⟨_,⟨A76_0,c76_0,rfl⟩,hm76⟩:=hm75.unf 3 rfl;replace hm76:=hm76.nq;refine RH.takeP 3 (by kernel_rfl) rfl rfl rfl rfl (V.ldB isAgg22 rfl (hm76.get 3 rfl) rfl) ?_;refine dq [4,5,6] ?_;refine RH.takeP 7 (by kernel_rfl) rfl rfl rfl rfl (V.ldB isAgg3 rfl (hm76.get 3 rfl) rfl) ?_;obtain ⟨z78,e78,hM⟩:=zAb hM;obtain ⟨kk78,ke78,kz78,kl78⟩:=zGz e78;obtain ⟨b78,o78,vs78,hA78,hD78,hR78,hrel78⟩:=Hp.at hm76 4 rfl kz78;obtain ⟨rfl,_⟩:=hrel78;have hm80:=Hp.knowL [rdR b78 (o78+kk78*1) [u8v z78]] _ hm76 (knC (fun _ h=>h) ⟨fun _=>hD78,hR78⟩ kn0);refine RH.takeP 8 (by kernel_rfl) rfl rfl rfl rfl (V.ixA' hA78 kk78 underlying22 sizeOf5 rfl rfl ke78 kl78) ?_;refine RH.takeP 9 (by kernel_rfl) rfl rfl rfl rfl (V.ldR0 isAgg5 rfl (hm80.get 5 rfl).2 rfl) ?_;refine dq [10] ?_;refine RH.takeP 11 (by kernel_rfl) rfl rfl rfl rfl (V.cv64 underlying3 underlying137 rfl) ?_;refine RH.takeP 12 (by kernel_rfl) rfl rfl rfl rfl (V.shr8 (a:=(127:UInt8)) (m:=(zAe p28).toNat) rfl rfl) ?_;refine RH.takeP 13 (by kernel_rfl) rfl rfl rfl rfl (V.and8 (a:=z78) (b:=shr8 (127:UInt8) ((zAe p28).toNat)) rfl rfl) ?_;refine RH.takeP 14 (by kernel_rfl) rfl rfl rfl rfl (V.cv64 underlying5 underlying35 rfl) ?_;refine dq [15] ?_;refine RH.doneP (by kernel_rfl) ?_;have hm81:=hm80.dup 4 rfl (fun _ h=>h);have hm84:=hm81.cu [0,1,2,4,5] [3,6];obtain ⟨F83,hm83⟩:=hm84.fold (zAa.sh b0 x0) ⟨A76_0,c76_0,rfl⟩;exact hk2 ((zAe ((z78&&&(shr8 (127:UInt8) ((zAe p28).toNat))).toNat:Int)),F83) _ _ sA (hm83.pk [5]) hM
 refine gg 1 rfl ?_;exact hk2 ((0:UInt64),F33) _ _ sA (hm35.pk [3]) hM
theorem m_pack_Reader_Count_sim {x0:zAa} {x1:Int} {r:(Int×zAa)} (hM:zCp x0 x1=some r) (hL:zIg Z0 w [zAa.obj F0 b0 x0]) :
 Calls prog 33 #[pt b0 0,iv x1] w fun x w'=>∃ F_p0,x=.returned (iv r.1)∧Hp Z0 (LS [zAa.obj F0 b0 x0]) w w' [zAa.obj F_p0 b0 r.2]:=by
 have hm0:=hL.start;refine Rn.en func33 ?_;refine gg 9 rfl ?_;obtain ⟨_,⟨A2_0,c2_0,rfl⟩,hm2⟩:=hm0.unf 0 rfl;replace hm2:=hm2.nq;refine Rn.q rfl (V.ldB isAgg3 rfl (hm2.get 0 rfl) rfl) (gg 5 rfl ?_);have hm5:=hm2.dup 1 rfl (fun _ h=>h);have hm8:=hm5.cu [1] [0,2];obtain ⟨F7,hm7⟩:=hm8.fold (zAa.sh b0 x0) ⟨A2_0,c2_0,rfl⟩;obtain ⟨p4,e4,hM⟩:=zAb hM;have hm9:=hm7.cu [0] [1]
 refine Rn.a1 (cK func76) (m_pack_Reader_Num_sim e4 hm9.lend :) hm9 fun F4_p0 w4 hm11=>?_
 refine gg 8 rfl ?_;obtain ⟨_,⟨A12_0,c12_0,rfl⟩,hm12⟩:=hm11.unf 1 rfl;replace hm12:=hm12.nq;refine Rn.q rfl (V.ldB isAgg25 rfl (hm12.get 1 rfl) rfl) (gg 2 rfl ?_);refine Rn.cutR [] [(0,pt b0 0),(5,iv x0.at_),(6,zAl p4.1),(27,.bool (decide ((p4.2.e=0)∧((x1<0)∨(((p4.1).toNat:Int)>((zAe x1).toNat:Int))))))] (fun hk14=>?_) ?_
 ·refine Rn.partD (t:=18) rfl (fun h15=>?_) (fun h15=>?_)
  ·refine gg 3 rfl ?_;refine Rn.cutR [14] [(0,pt b0 0),(5,iv x0.at_),(6,zAl p4.1),(18,.bool true),(26,.bool (decide ((x1<0)∨(((p4.1).toNat:Int)>((zAe x1).toNat:Int)))))] (fun hk16=>?_) ?_
   ·refine Rn.partD (t:=21) rfl (fun h17=>?_) (fun h17=>?_)
    ·refine gg 5 rfl ?_;exact hk16 _ sA
    refine gg 2 rfl (Rn.q rfl (V.cv64 underlying3 underlying35 rfl) (Rn.q rfl (V.gtr rfl rfl) (gg 1 rfl ?_)));exact hk16 _ sA
   refine gg 1 rfl ?_;exact hk14 _ sA
  refine gg 9 rfl ?_;exact hk14 _ sA
 refine gg 1 rfl ?_;refine aD hM (fun h18 hM=>?_) (fun h18 hM=>?_)
 ·refine gg 6 rfl (Rn.sq rfl sizeOf3 rfl rfl (hm12.get 1 rfl) ?_);intro w19 m19 x19;have hm20:=(hm12.st 1 rfl x19 m19).nf [_,zAh _ _ [_,_,_],_] rfl;refine gg 4 rfl ?_;have hm22:=hm20.dup 2 rfl (fun _ h=>h);have hm25:=hm22.cu [0,2] [1,3];obtain ⟨F24,hm24⟩:=hm25.fold (zAa.sh b0 ({ b:=p4.2.b,at_:=x0.at_,e:=p4.2.e }:zAa)) ⟨A12_0,c12_0,rfl⟩;obtain ⟨p21,e21,hM⟩:=zAb hM;have hm26:=hm24.cu [0,1] [2]
  refine Rn.a1 (cK func77) (m_pack_Reader_fail_sim e21 hm26.lend :) hm26 fun F21_p0 w21 hm28=>?_
  refine gg 5 rfl ?_
  cases hM
  exact Rn.R1 func33 ⟨F21_p0,rfl,hm28.pk [2]⟩
 refine gg 4 rfl (Rn.q rfl (V.cvW underlying35 underlying3 rfl) (gg 2 rfl ?_));have hm29:=hm12.dup 2 rfl (fun _ h=>h);have hm32:=hm29.cu [0,2] [1,3];obtain ⟨F31,hm31⟩:=hm32.fold (zAa.sh b0 p4.2) ⟨A12_0,c12_0,rfl⟩
 cases hM
 exact Rn.R1 func33 ⟨F31,rfl,hm31.pk [2]⟩
theorem m_pack_Reader_Raw_sim {x0:zAa} {x1:Int} {r:((List UInt8)×zAa)} (hM:zF9 x0 x1=some r) (hL:zIg Z0 w [zAa.obj F0 b0 x0]) :
 Calls prog 34 #[pt b0 0,iv x1] w fun x w'=>∃ A_0_0 c_0_0 F_p0,x=.returned (.slice A_0_0 (r.1).length c_0_0)∧Hp Z0 (LS [zAa.obj F0 b0 x0]) w w' [zBi 5 A_0_0 c_0_0 zCn r.1,zAa.obj F_p0 b0 r.2]:=by
 have hm0:=hL.start;refine Rn.en func34 ?_;refine gg 11 rfl ?_;obtain ⟨_,⟨A2_0,c2_0,rfl⟩,hm2⟩:=hm0.unf 0 rfl;replace hm2:=hm2.nq;refine Rn.q rfl (V.ldB isAgg25 rfl (hm2.get 0 rfl) rfl) (gg 3 rfl ?_);refine aD hM (fun h4 hM=>?_) (fun h4 hM=>?_)
 ·refine gg 4 rfl ?_;have hm5:=hm2.addNil 5 zCn;have hm7:=hm5.dup 1 rfl (fun _ h=>h);have hm10:=hm7.cu [1,2] [0,3];obtain ⟨F9,hm9⟩:=hm10.fold (zAa.sh b0 x0) ⟨A2_0,c2_0,rfl⟩
  cases hM
  exact Rn.R1 func34 ⟨none,0,F9,rfl,hm9.pk [1,2]⟩
 refine gg 6 rfl ?_;refine aD hM (fun h11 hM=>?_) (fun h11 hM=>?_)
 ·refine gg 3 rfl ?_;have hm13:=hm2.dup 1 rfl (fun _ h=>h);have hm16:=hm13.cu [1] [0,2];obtain ⟨F15,hm15⟩:=hm16.fold (zAa.sh b0 x0) ⟨A2_0,c2_0,rfl⟩;obtain ⟨p12,e12,hM⟩:=zAb hM;have hm17:=hm15.cu [0] [1]
  refine Rn.a1 (cK func77) (m_pack_Reader_fail_sim e12 hm17.lend :) hm17 fun F12_p0 w12 hm19=>?_
  refine gg 5 rfl ?_;have hm20:=hm19.addNil 5 zCn
  cases hM
  exact Rn.R1 func34 ⟨none,0,F12_p0,rfl,hm20.pk [2,1]⟩
 refine gg 4 rfl ?_;have hm23:=hm2.dup 1 rfl (fun _ h=>h);have hm26:=hm23.cu [1] [0,2];obtain ⟨F25,hm25⟩:=hm26.fold (zAa.sh b0 x0) ⟨A2_0,c2_0,rfl⟩;obtain ⟨p22,e22,hM⟩:=zAb hM
 refine Rn.c0 (cK func78) (zEn (Z0:=All) e22 (zCe (hm25.get 1 rfl)) :) hm25 fun w22 _ hm27=>?_
 refine gg 3 rfl ?_;refine aD hM (fun h28 hM=>?_) (fun h28 hM=>?_)
 ·refine gg 3 rfl ?_;obtain ⟨p29,e29,hM⟩:=zAb hM;have hm30:=hm27.cu [0] [1]
  refine Rn.a1 (cK func77) (m_pack_Reader_fail_sim e29 hm30.lend :) hm30 fun F29_p0 w29 hm32=>?_
  refine gg 5 rfl ?_;have hm33:=hm32.addNil 5 zCn
  cases hM
  exact Rn.R1 func34 ⟨none,0,F29_p0,rfl,hm33.pk [2,1]⟩
 refine gg 7 rfl ?_;obtain ⟨_,⟨A35_0,c35_0,rfl⟩,hm35⟩:=hm27.unf 1 rfl;replace hm35:=hm35.nq;refine Rn.q rfl (V.ldB isAgg3 rfl (hm35.get 1 rfl) rfl) (gg 4 rfl (Rn.sq rfl sizeOf3 rfl rfl (hm35.get 1 rfl) ?_));intro w37 m37 x37;have hm38:=(hm35.st 1 rfl x37 m37).nf [_,zAh _ _ [_,_,_],_] rfl;refine gg 2 rfl ?_;refine Rn.drawH rfl hm38 ?_;intro w39 hm39;refine dq [0,1,2] ?_;refine RH.tk 3 rfl (fun w' hDr=>V.ldB isAgg22 rfl ((hm39.ext hDr).get 1 rfl) rfl) ?_;refine dq [4,5,6] ?_;refine RH.tk 7 rfl (fun w' hDr=>V.ldB isAgg3 rfl ((hm39.ext hDr).get 1 rfl) rfl) ?_;refine dq [8,9,10,11,12] ?_
 refine RH.here fun hS13=>RH.on 13 rfl (V.ldB isAgg3 rfl (hm39.get 1 rfl) rfl) hS13 ?_
 obtain ⟨z40,e40,hM⟩:=zAb hM;refine RH.cutH 14 (by kernel_rfl) hm39 2 rfl e40 rfl rfl rfl underlying22 sizeOf5 rfl rfl rfl rfl rfl ?_;intro A40 c40 hm40;obtain ⟨p42,e42,hM⟩:=zAb hM;refine RH.cq (cK func75) 15 (zFe (Z0:=All) e42 (zA7 (hm40.get 3 rfl)) :) ?_;rintro _ w42 ⟨A42_0_0,c42_0_0,rfl,hq42⟩;refine ⟨_,rfl,((Ext.refl _).trans hq42.fr),?_⟩;have hm44:=hm40.callF (flC (zBf zFf _ _ _ _) fl0) hq42;refine dq [16] ?_;refine RH.doneP (by kernel_rfl) ?_;have hm45:=hm44.dup 2 rfl (fun _ h=>h);have hm48:=hm45.cu [0,2,3,4] [1,5];obtain ⟨F47,hm47⟩:=hm48.fold (zAa.sh b0 ({ b:=x0.b,at_:=W64 (x0.at_+x1),e:=x0.e }:zAa)) ⟨A35_0,c35_0,rfl⟩
 cases hM
 exact Rn.R1 func34 ⟨A42_0_0,c42_0_0,F47,rfl,hm47.pk [3,4]⟩
theorem m_pack_Reader_Text_sim {x0:zAa} {x1:Int} {r:((List UInt8)×zAa)} (hM:zEy x0 x1=some r) (hL:zIg Z0 w [zAa.obj F0 b0 x0]) :
 Calls prog 32 #[pt b0 0,iv x1] w fun x w'=>∃ F_p0,x=.returned (Str (r.1))∧Hp Z0 (LS [zAa.obj F0 b0 x0]) w w' [zAa.obj F_p0 b0 r.2]:=by
 have hm0:=hL.start;refine Rn.en func32 ?_;refine gg 9 rfl ?_;obtain ⟨_,⟨A2_0,c2_0,rfl⟩,hm2⟩:=hm0.unf 0 rfl;replace hm2:=hm2.nq;refine Rn.q rfl (V.ldB isAgg3 rfl (hm2.get 0 rfl) rfl) (gg 7 rfl ?_);have hm5:=hm2.dup 1 rfl (fun _ h=>h);have hm8:=hm5.cu [1] [0,2];obtain ⟨F7,hm7⟩:=hm8.fold (zAa.sh b0 x0) ⟨A2_0,c2_0,rfl⟩;obtain ⟨p4,e4,hM⟩:=zAb hM;have hm9:=hm7.cu [0] [1]
 refine Rn.a1 (cK func33) (m_pack_Reader_Count_sim e4 hm9.lend :) hm9 fun F4_p0 w4 hm11=>?_
 obtain ⟨p12,e12,hM⟩:=zAb hM;have hm13:=hm11.cu [0] [1];refine Rn.cq (cK func34) (m_pack_Reader_Raw_sim e12 hm13.lend :) ?_;rintro _ w12 ⟨A12_0_0,c12_0_0,F12_p0,rfl,hq12⟩;refine ⟨_,rfl,?_⟩;have hm16:=hm13.callAZ hq12;refine gg 8 rfl ?_;obtain ⟨_,⟨A17_0,c17_0,rfl⟩,hm17⟩:=hm16.unf 2 rfl;replace hm17:=hm17.nq;refine Rn.q rfl (V.ldB isAgg25 rfl (hm17.get 2 rfl) rfl) (gg 2 rfl ?_);have hm19:=hm17.dup 3 rfl (fun _ h=>h);have hm22:=hm19.cu [0,1,3] [2,4];obtain ⟨F21,hm21⟩:=hm22.fold (zAa.sh b0 p12.2) ⟨A17_0,c17_0,rfl⟩;refine Rn.jG hm0 hM (G:=zAa×(Nat→Prop)) (fun g=>[(6,.slice A12_0_0 (p12.1).length c12_0_0)]) (fun g=>[zBi 5 A12_0_0 c12_0_0 zCn p12.1,zAa.obj (g.2) b0 (g.1)]) (fun j g=>j g.1) ?_ ?_
 ·rintro ⟨y23,F23⟩ w24 hm24 hM
  try dsimp only at hM
  refine gg 3 rfl (Rn.q rfl (V.b2s underlying22 underlying9 underlying5 rfl rfl (Own.sl (hm24.get 0 rfl))) (gg 2 rfl ?_))
  cases hM
  exact Rn.R1 func32 ⟨F23,rfl,hm24.pk [1]⟩
 intro j1 hM hk1;refine aD hM (fun h25 hM=>?_) (fun h25 hM=>?_)
 ·refine gg 5 rfl ?_;obtain ⟨_,⟨A26_0,c26_0,rfl⟩,hm26⟩:=hm21.unf 3 rfl;replace hm26:=hm26.nq;refine Rn.sq rfl sizeOf3 rfl rfl (hm26.get 3 rfl) ?_;intro w28 m28 x28;have hm29:=(hm26.st 3 rfl x28 m28).nf [_,_,_,zAh _ _ [_,_,_],_] rfl;refine gg 1 rfl ?_;have hm30:=hm29.dup 4 rfl (fun _ h=>h);have hm33:=hm30.cu [0,1,2,4] [3,5];obtain ⟨F32,hm32⟩:=hm33.fold (zAa.sh b0 ({ b:=p12.2.b,at_:=x0.at_,e:=p12.2.e }:zAa)) ⟨A26_0,c26_0,rfl⟩;exact hk1 (({ b:=p12.2.b,at_:=x0.at_,e:=p12.2.e }:zAa),F32) _ _ sA (hm32.pk [1,4]) hM
 refine gg 1 rfl ?_;exact hk1 (p12.2,F21) _ _ sA (hm21.pk [1,3]) hM
theorem zKw {x0:zAa} {r:Int} (hM:zFz x0=some r) (f0:(fzR (zAa.obj F0 b0 x0)).H Z0 w) :
 Calls prog 35 #[pt b0 0] w fun x w'=>x=.returned (iv r)∧Hp Z0 No w w' []:=by
 have hm0:=Hp.nil Z0 No w;have hc0:=Calm.nil;obtain ⟨hm2,hc0⟩:=hm0.kn hc0 f0;refine Rn.en func35 ?_;refine gg 10 rfl ?_;obtain ⟨_,⟨A3_0,c3_0,rfl⟩,hm3⟩:=hm2.unfz 0 rfl;replace hm3:=hm3.nq;have hm7:=hm3.fzS 2 rfl;refine Rn.q rfl (V.ldB isAgg25 rfl (hm7.getz 1 rfl) rfl) (gg 2 rfl ?_);refine Rn.jR hm0 hM (G:=Bool) [] (fun g=>[(0,pt b0 0),(12,.bool (g))]) (fun g=>[fzR (zAa.obj F0 b0 x0),fzR (zAh b0 134 [.slice A3_0 (x0.b).length c3_0,iv x0.at_,iv x0.e]),slR A3_0 c3_0 zCn x0.b]) (fun j g=>j g) ?_ ?_
 ·rintro y8 w9 hm9 hM
  try dsimp only at hM
  refine gg 1 rfl ?_;refine aS hM (fun h10 hM=>?_) (fun h10 hM=>?_)
  ·refine gg 4 rfl ?_
   cases hM
   exact Rn.R1 func35 ⟨rfl,hm9.pk []⟩
  refine gg 6 rfl (Rn.q rfl (V.ldB isAgg25 rfl (hm9.getz 1 rfl) rfl) (gg 2 rfl ?_))
  cases hM
  exact Rn.R1 func35 ⟨rfl,hm9.pk []⟩
 intro j1 hM hk1;refine zIu hM (Rn.partD (t:=8) rfl) (fun h11 hM=>?_) (fun h11 hM=>?_)
 ·refine gg 1 rfl ?_;obtain ⟨p12,e12,hM⟩:=zAb hM
  refine Rn.c0 (cK func78) (zEn (Z0:=All) e12 (zQm (hm7.get 0 rfl)) :) hm7 fun w12 _ hm13=>?_
  refine gg 2 rfl ?_;exact hk1 (decide (p12>0)) _ _ sA (hm13.pk [0,1,3]) hM
 refine gg 4 rfl ?_;exact hk1 false _ _ sA (hm7.pk [0,1,3]) hM
theorem zGu {x0:(List UInt8)} {x1:UInt8} {r:Int} (hM:zDf x0 x1=some r)  :
 Calls prog 204 #[Str (x0),u8v x1] w fun x w'=>x=.returned (iv r)∧Hp Z0 No w w' []:=by
 have hm0:=Hp.nil Z0 No w;have hc0:=Calm.nil;refine Rn.en func204 ?_;refine gg 8 rfl (Rn.q rfl (V.indexByte (s:=x0) (c:=x1) func228 (by kernel_rfl) (by kernel_rfl) (by kernel_rfl) (by kernel_rfl) rfl) (gg 2 rfl ?_))
 cases hM
 exact Rn.R1 func204 ⟨rfl,hm0.pk []⟩
theorem zHi {x0:(List UInt8)} {x1:(List UInt8)} {r:Int} (hM:zD8 x0 x1=some r)  :
 Calls prog 161 #[Str (x0),Str (x1)] w fun x w'=>x=.returned (iv r)∧Hp Z0 No w w' []:=by
 have hm0:=Hp.nil Z0 No w;have hc0:=Calm.nil;refine Rn.en func161 ?_;refine gg 7 rfl (Rn.q rfl (V.lenS underlying9 rfl) (gg 9 rfl ?_));refine Rn.cutR [7] [(0,Str (x0)),(1,Str (x1)),(5,iv (x1.length:Int)),(23,.bool (decide (((x1.length:Int)=0)∨(x1=x0))))] (fun hk1=>?_) ?_
 ·refine Rn.partD (t:=19) rfl (fun h2=>?_) (fun h2=>?_)
  ·refine gg 4 rfl ?_;exact hk1 _ sA
  refine gg 2 rfl (Rn.q rfl (V.eqlS rfl rfl) (gg 1 rfl ?_));exact hk1 _ sA
 refine gg 2 rfl ?_;refine aD hM (fun h3 hM=>?_) (fun h3 hM=>?_)
 ·refine gg 4 rfl ?_
  cases hM
  exact Rn.R1 func161 ⟨rfl,hm0.pk []⟩
 refine gg 6 rfl ?_;refine aD hM (fun h4 hM=>?_) (fun h4 hM=>?_)
 ·refine gg 4 rfl ?_;obtain ⟨z5,e5,hM⟩:=zAb hM;refine Rn.q rfl (V.idxSZ underlying9 rfl rfl e5) ?_;obtain ⟨p6,e6,hM⟩:=zAb hM
  refine Rn.c0 (cK func204) (zGu (Z0:=All) e6  :) hm0 fun w6 _ hm7=>?_
  refine gg 2 rfl ?_
  cases hM
  exact Rn.R1 func161 ⟨rfl,hm7.pk []⟩
 refine gg 4 rfl (Rn.q rfl (V.lenS underlying9 rfl) (gg 3 rfl ?_));refine aD hM (fun h8 hM=>?_) (fun h8 hM=>?_)
 ·refine gg 4 rfl ?_
  cases hM
  exact Rn.R1 func161 ⟨rfl,hm0.pk []⟩
 cases hM
theorem zId {x0:(List UInt8)} {x1:(List UInt8)} {r:((List UInt8)×(List UInt8)×Bool)} (hM:zEu x0 x1=some r)  :
 Calls prog 102 #[Str (x0),Str (x1)] w fun x w'=>x=.returned (.tuple #[Str (r.1),Str (r.2.1),.bool (r.2.2)])∧Hp Z0 No w w' []:=by
 have hm0:=Hp.nil Z0 No w;have hc0:=Calm.nil;refine Rn.en func102 ?_;refine gg 11 rfl ?_;obtain ⟨p1,e1,hM⟩:=zAb hM
 refine Rn.c0 (cK func161) (zHi (Z0:=All) e1  :) hm0 fun w1 _ hm2=>?_
 refine gg 7 rfl ?_;refine aD hM (fun h3 hM=>?_) (fun h3 hM=>?_)
 ·refine gg 1 rfl ?_;refine Rn.drawP rfl hm2 ?_;intro w4 hm4;refine dq [0,1] ?_;obtain ⟨z5,e5,hM⟩:=zAb hM;refine RH.takeP 2 (by kernel_rfl) rfl rfl rfl rfl (V.cutSZ underlying9 rfl e5 rfl rfl) ?_;refine dq [3,4,5] ?_;refine RH.takeP 6 (by kernel_rfl) rfl rfl rfl rfl (V.lenS underlying9 rfl) ?_;refine dq [7] ?_;obtain ⟨z6,e6,hM⟩:=zAb hM;refine RH.takeP 8 (by kernel_rfl) rfl rfl rfl rfl (V.cutSZ underlying9 rfl e6 rfl rfl) ?_;refine dq [9,10,11] ?_;refine RH.doneP (by kernel_rfl) ?_;refine Rn.retG3 func102 rfl (rvT rfl) (rvT rfl) (rvT rfl) ?_;obtain rfl:=zDt hM;exact ⟨rfl,hm4.pk []⟩
 refine gg 8 rfl ?_;refine Rn.retG3 func102 rfl (rvT rfl) (rvT rfl) (rvT rfl) ?_;obtain rfl:=zDt hM;exact ⟨rfl,hm2.pk []⟩
theorem zGc {x0:(List UInt8)} {x1:(List UInt8)} {r:((List UInt8)×(List UInt8)×Bool)} (hM:zFk x0 x1=some r)  :
 Calls prog 55 #[Str (x0),Str (x1)] w fun x w'=>x=.returned (.tuple #[Str (r.1),Str (r.2.1),.bool (r.2.2)])∧Hp Z0 No w w' []:=by
 have hm0:=Hp.nil Z0 No w;have hc0:=Calm.nil;refine Rn.en func55 ?_;refine gg 10 rfl ?_;obtain ⟨p1,e1,hM⟩:=zAb hM
 refine Rn.c0 (cK func102) (zId (Z0:=All) e1  :) hm0 fun w1 _ hm2=>?_
 refine gg 7 rfl ?_;refine Rn.retG3 func55 rfl (rvT rfl) (rvT rfl) (rvT rfl) ?_;obtain rfl:=zDt hM;exact ⟨rfl,hm2.pk []⟩
theorem zO {x0:(List UInt8)} {r:(zA×Int)} (hM:zJq x0=some r)  :
 Calls prog 104 #[Str (x0)] w fun x w'=>x=.returned (.tuple #[.agg [Str (r.1.Key),Str (r.1.Val)].toArray,iv r.2])∧Hp Z0 No w w' []:=by
 have hm0:=Hp.nil Z0 No w;have hc0:=Calm.nil;refine Rn.en func104 ?_;refine gg 2 rfl (Rn.alloc rfl rfl rfl Tryz.zeroValue118 rfl ?_);intro b1 w1 hb1 m1 e1;have hm3:=(hm0.addBox hb1 e1 m1).nf [zAh _ _ [_,_]] rfl;refine gg 5 rfl ?_;obtain ⟨p4,e4,hM⟩:=zAb hM
 refine Rn.c0 (cK func55) (zGc (Z0:=All) e4  :) hm3 fun w4 _ hm5=>?_
 refine gg 12 rfl (Rn.q rfl (V.notB rfl) (gg 1 rfl ?_));refine Rn.jR hm0 hM (G:=Bool) [7,8,9,10,11] (fun g=>[(2,pt b1 0),(4,Str (p4.1)),(5,Str (p4.2.1)),(19,.bool (g))]) (fun g=>[zAh b1 118 [Str (([]:List UInt8)),Str (([]:List UInt8))]]) (fun j g=>j g) ?_ ?_
 ·rintro y6 w7 hm7 hM
  try dsimp only at hM
  refine gg 1 rfl ?_;refine Rn.jR hm0 hM (G:=Bool) [] (fun g=>[(2,pt b1 0),(4,Str (p4.1)),(5,Str (p4.2.1)),(24,.bool (g))]) (fun g=>[zAh b1 118 [Str (([]:List UInt8)),Str (([]:List UInt8))]]) (fun j g=>j g) ?_ ?_
  ·rintro y8 w9 hm9 hM
   try dsimp only at hM
   refine gg 1 rfl ?_;refine aS hM (fun h10 hM=>?_) (fun h10 hM=>?_)
   ·refine gg 2 rfl (Rn.q rfl (V.bldS (cs:=[_,_]) zc rfl rfl) (Rn.sq rfl sizeOf118 rfl rfl (hm9.get 0 rfl) ?_));intro w11 m11 x11;have hm12:=(hm9.st 0 rfl x11 m11).nf [zAh _ _ [_,_]] rfl;refine gg 2 rfl ?_;refine Rn.retG2 func104 rfl (rvC rfl isAgg118 sizeOf118 (hm12.get 0 rfl) rfl) (rvT rfl) ?_;obtain rfl:=zDt hM;exact ⟨rfl,hm12.pk []⟩
   refine gg 5 rfl (Rn.q rfl (V.bldS (cs:=[_,_]) zc rfl rfl) (Rn.sq rfl sizeOf118 rfl rfl (hm9.get 0 rfl) ?_));intro w13 m13 x13;have hm14:=(hm9.st 0 rfl x13 m13).nf [zAh _ _ [_,_]] rfl;refine gg 2 rfl ?_;refine Rn.retG2 func104 rfl (rvC rfl isAgg118 sizeOf118 (hm14.get 0 rfl) rfl) (rvT rfl) ?_;obtain rfl:=zDt hM;exact ⟨rfl,hm14.pk []⟩
  intro j2 hM hk2;refine zWq hM (Rn.part (t:=20) rfl) (fun h15 hM=>?_) (fun h15 hM=>?_)
  ·refine gg 4 rfl ?_;exact hk2 true _ _ sA (hm7.pk [0]) hM
  refine gg 1 rfl ?_;obtain ⟨p16,e16,hM⟩:=zAb hM
  refine Rn.c0 (cK func163) (zJa (Z0:=All) e16  :) hm7 fun w16 _ hm17=>?_
  refine Rn.q rfl (V.notB rfl) (gg 1 rfl ?_);exact hk2 (!p16) _ _ sA (hm17.pk [0]) hM
 intro j1 hM hk1;refine zWq hM (Rn.part (t:=15) rfl) (fun h18 hM=>?_) (fun h18 hM=>?_)
 ·refine gg 4 rfl ?_;exact hk1 true _ _ sA (hm5.pk [0]) hM
 refine gg 1 rfl ?_;obtain ⟨p19,e19,hM⟩:=zAb hM
 refine Rn.c0 (cK func103) (zG0 (Z0:=All) e19  :) hm5 fun w19 _ hm20=>?_
 refine Rn.q rfl (V.notB rfl) (gg 1 rfl ?_);exact hk1 (!p19) _ _ sA (hm20.pk [0]) hM
theorem zM6 {x0:(List zA)} {x1:(List UInt8)} {r:Int} (hM:zHa x0 x1=some r) (f0:(slR A0 c0 zA.rep x0).H Z0 w) :
 Calls prog 105 #[.slice A0 (x0).length c0,Str (x1)] w fun x w'=>x=.returned (iv r)∧Hp Z0 No w w' []:=by
 have hm0:=Hp.nil Z0 No w;have hc0:=Calm.nil;obtain ⟨hm2,hc0⟩:=hm0.kn hc0 f0;refine Rn.en func105 ?_;refine gg 8 rfl (Rn.q rfl (V.lenV underlying34 rfl) (gg 2 rfl ?_));refine Rn.jG hm0 hM (G:=Unit) (fun g=>[(0,.slice A0 (x0).length c0),(1,Str (x1))]) (fun g=>[slR A0 c0 zA.rep x0]) (fun j g=>j ()) ?_ ?_
 ·rintro _ w3 hm3 hM
  try dsimp only at hM
  refine gg 6 rfl (Rn.q rfl (V.lenV underlying34 rfl) (gg 1 rfl ?_));obtain ⟨z4,e4,hM⟩:=zAb hM;refine Rn.ixH hm3 0 rfl e4 rfl rfl rfl underlying34 sizeOf118 rfl rfl rfl rfl ?_;rintro b4 o4 vs4 hr4 hm4;obtain rfl:=zA.relE hr4;refine gg 1 rfl (Rn.q rfl (V.ldR0 isAgg9 rfl (hm4.get 1 rfl).2 rfl) (Rn.q rfl (V.lssS rfl rfl) (gg 1 rfl ?_)));refine aS hM (fun h6 hM=>?_) (fun h6 hM=>?_)
  ·refine gg 4 rfl ?_
   cases hM
   exact Rn.R1 func105 ⟨rfl,hm4.pk []⟩
  refine gg 5 rfl ?_
  cases hM
  exact Rn.R1 func105 ⟨rfl,hm4.pk []⟩
 intro j1 hM hk1;refine gg 1 rfl ?_;refine Rn.loopF (G:=Int) (fun g=>[(0,.slice A0 (x0).length c0),(1,Str (x1)),(7,.slice A0 (x0).length c0),(8,iv (x0.length:Int)),(9,iv g)]) (fun g w'=>Hp Z0 No w w' [slR A0 c0 zA.rep x0]) (fun n g=>zBw x0 x1 j1 n g) fuel 0 sA (hm2.pk [0]) hM (fun _=>rfl) ?_;clear hM;rintro m8 y7 w8 hm8 hM hn8;replace hM:zBw x0 x1 j1 (m8+1) y7=some r:=hM;rw [zBw] at hM;refine gg 5 rfl ?_;refine aD hM (fun h9 hM=>?_) (fun h9 hM=>?_)
 ·refine gg 5 rfl ?_;obtain ⟨z10,e10,hM⟩:=zAb hM;refine Rn.ixH hm8 0 rfl e10 rfl rfl rfl underlying34 sizeOf118 rfl rfl rfl rfl ?_;rintro b10 o10 vs10 hr10 hm10;obtain rfl:=zA.relE hr10;refine Rn.q rfl (V.ldA (vs:=[_,_]) isAgg118 sizeOf118 rfl (Rd.pre (hm10.get 1 rfl).2 2) rfl) (Rn.als rfl rfl rfl Tryz.zeroValue118 rfl sizeOf118 rfl rfl rfl rfl (by first|exact zJg rfl|(simp [Value.oneCell'];done)) ?_);intro b12 w12 hb12 m12 e12;have hm14:=(hm10.addBox hb12 e12 m12).nf [_,_,zAh _ _ [_,_]] rfl;refine gg 4 rfl (Rn.q rfl (V.ldB isAgg9 rfl (hm14.get 2 rfl) rfl) (gg 1 rfl (Rn.q rfl (V.eqlS rfl rfl) (gg 1 rfl ?_))));refine aD hM (fun h15 hM=>?_) (fun h15 hM=>?_)
  ·refine gg 4 rfl ?_
   cases hM
   exact Rn.R1 func105 ⟨rfl,hm14.pk []⟩
  refine gg 6 rfl ?_;exact hn8 (W64 (y7+1)) _ _ sA (hm14.pk [0]) hM
 refine gg 1 rfl ?_;exact hk1 () _ _ sA (hm8.pk [0]) hM
theorem zNc {x0:(List UInt8)} {r:((List UInt8)×(List zA)×Int×Int)} (hM:zIq x0=some r)  :
 Calls prog 56 #[Str (x0)] w fun x w'=>∃ A_1_0 c_1_0,x=.returned (.tuple #[Str (r.1),.slice A_1_0 (r.2.1).length c_1_0,iv r.2.2.1,iv r.2.2.2])∧Hp Z0 No w w' [zBi 118 A_1_0 c_1_0 zA.rep r.2.1]:=by
 have hm0:=Hp.nil Z0 No w;have hc0:=Calm.nil;refine Rn.en func56 ?_;refine gg 10 rfl ?_;obtain ⟨p1,e1,hM⟩:=zAb hM
 refine Rn.c0 (cK func55) (zGc (Z0:=All) e1  :) hm0 fun w1 _ hm2=>?_
 refine gg 12 rfl ?_;obtain ⟨p3,e3,hM⟩:=zAb hM
 refine Rn.c0 (cK func103) (zG0 (Z0:=All) e3  :) hm2 fun w3 _ hm4=>?_
 refine Rn.q rfl (V.notB rfl) (gg 1 rfl ?_);refine aS hM (fun h5 hM=>?_) (fun h5 hM=>?_)
 ·refine gg 7 rfl ?_;have hm6:=hm4.addNil 118 zA.rep;refine Rn.retG4 func56 rfl (rvT rfl) (rvT rfl) (rvT rfl) (rvT rfl) ?_;obtain rfl:=zDt hM;exact ⟨none,0,rfl,hm6.pk [0]⟩
 refine gg 5 rfl (Rn.q rfl (V.lenS underlying9 rfl) (gg 3 rfl ?_));refine Rn.jG hm0 hM (G:=(List zA)×Option Addr×Nat) (fun g=>[(2,Str (p1.1)),(3,.slice (g.2.1) ((g.1)).length (g.2.2))]) (fun g=>[zBi 118 (g.2.1) (g.2.2) zA.rep (g.1)]) (fun j g=>j g.1) ?_ ?_
 ·rintro ⟨y8,A9,c9⟩ w11 hm11 hM
  try dsimp only at hM
  refine gg 9 rfl ?_;refine Rn.retG4 func56 rfl (rvT rfl) (rvT rfl) (rvT rfl) (rvT rfl) ?_;obtain rfl:=zDt hM;exact ⟨A9,c9,rfl,hm11.pk [0]⟩
 intro j1 hM hk1;refine gg 1 rfl ?_;have hm18:=hm4.addNil 118 zA.rep;refine Rn.loopF (G:=(List zA)×Int×(List UInt8)×Bool×Option Addr×Nat) (fun g=>[(2,Str (p1.1)),(3,.slice (g.2.2.2.2.1) ((g.1)).length (g.2.2.2.2.2)),(4,iv (g.2.1)),(6,Str ((g.2.2.1))),(7,.bool ((g.2.2.2.1)))]) (fun g w'=>Hp Z0 No w w' [zBi 118 (g.2.2.2.2.1) (g.2.2.2.2.2) zA.rep (g.1)]) (fun n g=>zD0 j1 n g.1 g.2.1 g.2.2.1 g.2.2.2.1) fuel (([]:List zA),(W64 ((p1.1.length:Int)+1)),p1.2.1,p1.2.2,none,0) sA (hm18.pk [0]) hM (fun _=>rfl) ?_;clear hM;rintro m20 ⟨y12,y15,y16,y17,A13,c13⟩ w20 hm20 hM hn20;replace hM:zD0 j1 (m20+1) y12 y15 y16 y17=some r:=hM;rw [zD0] at hM;refine gg 5 rfl ?_;refine aS hM (fun h21 hM=>?_) (fun h21 hM=>?_)
 ·refine gg 9 rfl ?_;obtain ⟨p22,e22,hM⟩:=zAb hM
  refine Rn.c0 (cK func55) (zGc (Z0:=All) e22  :) hm20 fun w22 _ hm23=>?_
  refine gg 11 rfl ?_;obtain ⟨p24,e24,hM⟩:=zAb hM
  refine Rn.c0 (cK func104) (zO (Z0:=All) e24  :) hm23 fun w24 _ hm25=>?_
  refine gg 3 rfl (Rn.als rfl rfl rfl Tryz.zeroValue118 rfl sizeOf118 rfl rfl rfl rfl (by first|exact zJg rfl|(simp [Value.oneCell'];done)) ?_);intro b26 w26 hb26 m26 e26;have hm28:=(hm25.addBox hb26 e26 m26).nf [_,zAh _ _ [_,_]] rfl;refine gg 6 rfl (Rn.q rfl (V.lenV underlying34 rfl) (gg 2 rfl ?_));refine Rn.jG hm0 hM (G:=Int) (fun g=>[(2,Str (p1.1)),(3,.slice A13 (y12).length c13),(4,iv y15),(6,Str (p22.2.1)),(7,.bool (p22.2.2)),(8,Str (p22.1)),(9,pt b26 0),(10,iv g)]) (fun g=>[zBi 118 A13 c13 zA.rep y12,zAh b26 118 [Str (p24.1.Key),Str (p24.1.Val)]]) (fun j g=>j g) ?_ ?_
  ·rintro y29 w30 hm30 hM
   try dsimp only at hM
   refine gg 6 rfl ?_;refine Rn.cutR [] [(2,Str (p1.1)),(3,.slice A13 (y12).length c13),(4,iv y15),(6,Str (p22.2.1)),(7,.bool (p22.2.2)),(8,Str (p22.1)),(9,pt b26 0),(10,iv y29),(44,.bool (decide ((y29=0)∧((y12.length:Int)>0))))] (fun hk31=>?_) ?_
   ·refine Rn.partD (t:=40) rfl (fun h32=>?_) (fun h32=>?_)
    ·refine gg 1 rfl (Rn.q rfl (V.lenV underlying34 rfl) (gg 2 rfl ?_));exact hk31 _ sA
    refine gg 4 rfl ?_;exact hk31 _ sA
   refine gg 1 rfl ?_;refine Rn.jG hm0 hM (G:=Int) (fun g=>[(2,Str (p1.1)),(3,.slice A13 (y12).length c13),(4,iv y15),(6,Str (p22.2.1)),(7,.bool (p22.2.2)),(8,Str (p22.1)),(9,pt b26 0),(10,iv g)]) (fun g=>[zBi 118 A13 c13 zA.rep y12,zAh b26 118 [Str (p24.1.Key),Str (p24.1.Val)]]) (fun j g=>j g) ?_ ?_
   ·rintro y33 w34 hm34 hM
    try dsimp only at hM
    refine gg 6 rfl ?_;refine aD hM (fun h35 hM=>?_) (fun h35 hM=>?_)
    ·refine gg 9 rfl ?_;have hm36:=hm34.addNil 118 zA.rep;refine Rn.retG4 func56 rfl (rvT rfl) (rvT rfl) (rvT rfl) (rvT rfl) ?_;obtain rfl:=zDt hM;exact ⟨none,0,rfl,hm36.pk [2]⟩
    refine gg 4 rfl (Rn.q rfl (V.ldBA [_,_] isAgg118 sizeOf118 rfl (hm34.get 1 rfl) rfl rfl) ?_);obtain ⟨z38,e38,hM⟩:=zAb hM;refine Rn.pushH (z:=p24.1) (vs:=[Str (p24.1.Key),Str (p24.1.Val)]) hm34 0 rfl e38 rfl rfl rfl rfl underlying34 zU9 rfl rfl rfl rfl (fun _=>rfl) (⟨_,_,rfl,⟨rfl,trivial⟩,⟨rfl,trivial⟩⟩) ?_;intro A38 c38 w38 u38 hm38;refine gg 5 rfl (Rn.q rfl (V.lenS underlying9 rfl) (gg 5 rfl ?_));exact hn20 (z38,(W64 (y15+(W64 ((p22.1.length:Int)+1)))),p22.2.1,p22.2.2,A38,c38) _ _ sA (hm38.pk [0]) hM
   intro j3 hM hk3;refine aD hM (fun h40 hM=>?_) (fun h40 hM=>?_)
   ·refine gg 3 rfl (Rn.q rfl (V.ldB isAgg9 rfl (hm30.get 1 rfl) rfl) ?_);obtain ⟨p41,e41,hM⟩:=zAb hM
    refine Rn.c0 (cK func105) (zM6 (Z0:=All) e41 (zB4 (hm30.get 0 rfl)) :) hm30 fun w41 _ hm42=>?_
    refine gg 2 rfl ?_;exact hk3 p41 _ _ sA (hm42.pk [0,1]) hM
   refine gg 1 rfl ?_;exact hk3 y29 _ _ sA (hm30.pk [0,1]) hM
  intro j2 hM hk2;refine aD hM (fun h43 hM=>?_) (fun h43 hM=>?_)
  ·refine gg 3 rfl ?_;exact hk2 4 _ _ sA (hm28.pk [0,1]) hM
  refine gg 1 rfl ?_;exact hk2 p24.2 _ _ sA (hm28.pk [0,1]) hM
 refine gg 1 rfl ?_;exact hk1 (y12,A13,c13) _ _ sA (hm20.pk [0]) hM
theorem zMr {x0:(List UInt8)} {r:(zA6×Int)} (hM:zI4 x0=some r)  :
 Calls prog 18 #[Str (x0)] w fun x w'=>∃ A_0_0 c_0_0 A_0_1 c_0_1 A_0_2 c_0_2,x=.returned (.tuple #[.agg [Str (r.1.Name),.slice A_0_0 (r.1.Attrs).length c_0_0,iv r.1.Kind,iv r.1.Temp,.bool (r.1.Mono),iv r.1.Start,iv r.1.Time,iv r.1.Int_,zAl r.1.Re,zAl r.1.Im,iv r.1.Hist.Scale,zAl r.1.Hist.Zero,iv r.1.Hist.Pos.Offset,.slice A_0_1 (r.1.Hist.Pos.Counts).length c_0_1,iv r.1.Hist.Neg.Offset,.slice A_0_2 (r.1.Hist.Neg.Counts).length c_0_2,iv r.1.Flags].toArray,iv r.2])∧Hp Z0 No w w' [slR A_0_0 c_0_0 zA.rep r.1.Attrs,slR A_0_1 c_0_1 zAq r.1.Hist.Pos.Counts,slR A_0_2 c_0_2 zAq r.1.Hist.Neg.Counts]:=by
 have hm0:=Hp.nil Z0 No w;have hc0:=Calm.nil;refine Rn.en func18 ?_;refine gg 2 rfl (Rn.alloc rfl rfl rfl Tryz.zeroValue42 rfl ?_);intro b1 w1 hb1 m1 e1;have hm3:=(hm0.addBox hb1 e1 m1).nf [zAh _ _ [_,_,_,_,_,_,_,_,_,_,_,_,_,_,_,_,_]] rfl;refine gg 5 rfl ?_;obtain ⟨p4,e4,hM⟩:=zAb hM
 refine Rn.c0 (cK func55) (zGc (Z0:=All) e4  :) hm3 fun w4 _ hm5=>?_
 refine gg 11 rfl ?_;obtain ⟨p6,e6,hM⟩:=zAb hM
 refine Rn.c2 (cK func56) (zNc (Z0:=All) e6  :) fun A6_1_0 c6_1_0 w6 hq6=>?_
 have hm8:=hm5.callF (flC (zBf zA.flat _ _ _ _) fl0) hq6;refine gg 14 rfl (Rn.q rfl (V.notB rfl) (gg 1 rfl ?_));refine Rn.cutR [6,7,8,9,10,11,12,13,14,15,16,17,18,19,20] [(2,pt b1 0),(5,Str (p4.2.1)),(7,Str (p6.1)),(8,.slice A6_1_0 (p6.2.1).length c6_1_0),(31,.bool (decide (((!p4.2.2)=true)∨(p6.2.2.2≠0))))] (fun hk9=>?_) ?_
 ·refine Rn.part (t:=28) rfl (fun h10=>?_) (fun h10=>?_)
  ·refine gg 3 rfl ?_;exact hk9 _ sA
  refine gg 3 rfl ?_;exact hk9 _ sA
 refine gg 1 rfl ?_;refine Rn.cutR [11,12,13,14,15,16,17,18,19,20] [(2,pt b1 0),(5,Str (p4.2.1)),(7,Str (p6.1)),(8,.slice A6_1_0 (p6.2.1).length c6_1_0),(36,.bool (decide ((((!p4.2.2)=true)∨(p6.2.2.2≠0))∨((p4.2.1.length:Int)≠3))))] (fun hk11=>?_) ?_
 ·refine Rn.partD (t:=32) rfl (fun h12=>?_) (fun h12=>?_)
  ·refine gg 4 rfl ?_;exact hk11 _ sA
  refine gg 1 rfl (Rn.q rfl (V.lenS underlying9 rfl) (gg 2 rfl ?_));exact hk11 _ sA
 refine gg 1 rfl ?_;refine Rn.jR hm0 hM (G:=Bool) [] (fun g=>[(2,pt b1 0),(5,Str (p4.2.1)),(7,Str (p6.1)),(8,.slice A6_1_0 (p6.2.1).length c6_1_0),(46,.bool (g))]) (fun g=>[zAh b1 42 [Str (([]:List UInt8)),.slice none 0 0,iv 0,iv 0,.bool false,iv 0,iv 0,iv 0,zAl (0:UInt64),zAl (0:UInt64),iv 0,zAl (0:UInt64),iv 0,.slice none 0 0,iv 0,.slice none 0 0,iv 0],zBi 118 A6_1_0 c6_1_0 zA.rep p6.2.1]) (fun j g=>j g) ?_ ?_
 ·rintro y13 w14 hm14 hM
  try dsimp only at hM
  refine gg 1 rfl ?_;refine aS hM (fun h15 hM=>?_) (fun h15 hM=>?_)
  ·refine gg 2 rfl (Rn.q rfl (V.bldS (cs:=[_,_,_,_,_,_,_,_,_,_,_,_,_,_,_,_,_]) zd rfl rfl) (Rn.sq rfl sizeOf42 rfl rfl (hm14.get 0 rfl) ?_));intro w16 m16 x16;have hm17:=(hm14.st 0 rfl x16 m16).nf [zAh _ _ [_,_,_,_,_,_,_,_,_,_,_,_,_,_,_,_,_],_] rfl;refine gg 2 rfl ?_;have hm18:=hm17.addNil 118 zA.rep;have hm21:=hm18.freeze 2 rfl;have hm22:=hm21.addNil 35 zAq;have hm25:=hm22.freeze 3 rfl;have hm26:=hm25.addNil 35 zAq;have hm29:=hm26.freeze 4 rfl;refine Rn.retG2 func18 rfl (rvC rfl isAgg42 sizeOf42 (hm17.get 0 rfl) rfl) (rvT rfl) ?_;obtain rfl:=zDt hM;exact ⟨none,0,none,0,none,0,rfl,hm29.pk [2,3,4]⟩
  refine gg 2 rfl ?_;refine Rn.drawH rfl hm14 ?_;intro w30 hm30;refine dq [0,1,2] ?_;obtain ⟨z31,e31,hM⟩:=zAb hM;refine RH.tk 3 rfl (fun w' hDr=>V.idxSZ underlying9 rfl rfl e31) ?_;refine RH.tk 4 rfl (fun w' hDr=>V.cv8i (a:=z31) underlying5 underlying3 rfl) ?_;refine dq [5,6] ?_;obtain ⟨z32,e32,hM⟩:=zAb hM;refine RH.tk 7 rfl (fun w' hDr=>V.idxSZ underlying9 rfl rfl e32) ?_;refine RH.tk 8 rfl (fun w' hDr=>V.cv8i (a:=z32) underlying5 underlying3 rfl) ?_;refine dq [9,10] ?_;obtain ⟨z33,e33,hM⟩:=zAb hM;refine RH.tk 11 rfl (fun w' hDr=>V.idxSZ underlying9 rfl rfl e33) ?_;refine RH.tk 12 rfl (fun w' hDr=>V.eql rfl rfl) ?_;refine RH.tk 13 rfl (fun w' hDr=>V.bldS (cs:=[_,_,_,_,_,_,_,_,_,_,_,_,_,_,_,_,_]) zd rfl rfl) ?_;refine RH.alloc 14 (by kernel_rfl) rfl rfl rfl Tryz.zeroValue42 rfl ?_;intro b34 w34 hb34 m34 e34
  have hfr34:w30.heap.size≤b34:=by have hh:=((Ext.refl _):Ext w30 w30).size;omega
  have hm36:=(hm30.addBox hb34 e34 m34).nf [_,_,zAh _ _ [_,_,_,_,_,_,_,_,_,_,_,_,_,_,_,_,_]] rfl;refine ⟨((Ext.refl _).trans e34),?_⟩;refine RH.st 15 (by kernel_rfl) rfl rfl sizeOf42 rfl rfl rfl rfl (by first|exact zJg rfl|(simp [Value.oneCell'];done)) (hm36.get 2 rfl) (by first|exact nbl rfl|(simp;done)) ?_;intro w37 m37 x37;have hm38:=(hm36.st 2 rfl x37 m37).nf [_,_,zAh _ _ [_,_,_,_,_,_,_,_,_,_,_,_,_,_,_,_,_]] rfl;refine ⟨(zM1 ((Ext.refl _).trans e34) x37 hfr34),?_⟩;refine RH.doneP (by kernel_rfl) ?_;refine gg 2 rfl (Rn.q rfl (V.ldBA [_,_,_,_,_,_,_,_,_,_,_,_,_,_,_,_,_] isAgg42 sizeOf42 rfl (hm38.get 2 rfl) rfl rfl) ?_);have hm40:=hm38.freeze 1 rfl;refine Rn.als rfl rfl rfl Tryz.zeroValue42 rfl sizeOf42 rfl rfl rfl rfl (by first|exact zJg rfl|(simp [Value.oneCell'];done)) ?_;intro b41 w41 hb41 m41 e41;have hm43:=(hm40.addBox hb41 e41 m41).nf [_,_,_,zAh _ _ [_,_,_,_,_,_,_,_,_,_,_,_,_,_,_,_,_]] rfl;refine gg 5 rfl (Rn.sq rfl sizeOf3 rfl rfl (hm43.get 3 rfl) ?_);intro w44 m44 x44;have hm45:=(hm43.st 3 rfl x44 m44).nf [_,_,_,zAh _ _ [_,_,_,_,_,_,_,_,_,_,_,_,_,_,_,_,_]] rfl;refine gg 4 rfl (Rn.q rfl (V.ldB isAgg3 rfl (hm45.get 3 rfl) rfl) (gg 2 rfl ?_));refine Rn.jG hm0 hM (G:=zA6×Option Addr×Nat×Option Addr×Nat×Option Addr×Nat) (fun g=>[(2,pt b1 0),(11,pt b34 0),(12,pt b41 0)]) (fun g=>[zAh b1 42 [Str (([]:List UInt8)),.slice none 0 0,iv 0,iv 0,.bool false,iv 0,iv 0,iv 0,zAl (0:UInt64),zAl (0:UInt64),iv 0,zAl (0:UInt64),iv 0,.slice none 0 0,iv 0,.slice none 0 0,iv 0],slR A6_1_0 c6_1_0 zA.rep p6.2.1,zAh b34 42 [Str (p6.1),.slice A6_1_0 (p6.2.1).length c6_1_0,iv (W64 ((z31.toNat:Int)-48)),iv (W64 ((z32.toNat:Int)-48)),.bool (decide (((z33).toNat:Int)=49)),iv 0,iv 0,iv 0,zAl (0:UInt64),zAl (0:UInt64),iv 0,zAl (0:UInt64),iv 0,.slice none 0 0,iv 0,.slice none 0 0,iv 0],slR (g.2.1) (g.2.2.1) zA.rep (g.1).Attrs,zBi 35 (g.2.2.2.1) (g.2.2.2.2.1) zAq (g.1).Hist.Pos.Counts,zBi 35 (g.2.2.2.2.2.1) (g.2.2.2.2.2.2) zAq (g.1).Hist.Neg.Counts,zAh b41 42 [Str ((g.1).Name),.slice (g.2.1) ((g.1).Attrs).length (g.2.2.1),iv (g.1).Kind,iv (g.1).Temp,.bool ((g.1).Mono),iv (g.1).Start,iv (g.1).Time,iv (g.1).Int_,zAl (g.1).Re,zAl (g.1).Im,iv (g.1).Hist.Scale,zAl (g.1).Hist.Zero,iv (g.1).Hist.Pos.Offset,.slice (g.2.2.2.1) ((g.1).Hist.Pos.Counts).length (g.2.2.2.2.1),iv (g.1).Hist.Neg.Offset,.slice (g.2.2.2.2.2.1) ((g.1).Hist.Neg.Counts).length (g.2.2.2.2.2.2),iv (g.1).Flags]]) (fun j g=>j g.1) ?_ ?_
  ·rintro ⟨y46,A47,c47,A49,c49,A51,c51⟩ w53 hm53 hM
   try dsimp only at hM
   refine gg 3 rfl (Rn.q rfl (V.ldBA [_,_,_,_,_,_,_,_,_,_,_,_,_,_,_,_,_] isAgg42 sizeOf42 rfl (hm53.get 6 rfl) rfl rfl) ?_);obtain ⟨p54,e54,hM⟩:=zAb hM
   refine Rn.c0 (cK func57) (zHp (Z0:=All) e54 (show zA6.rep.rel All _ _ _ from ⟨_,_,rfl,⟨rfl,trivial⟩,⟨_,_,rfl,⟨_,_,rfl,(zA7 (hm53.get 3 rfl)).1,(zA7 (hm53.get 3 rfl)).2.1,(zA7 (hm53.get 3 rfl)).2.2⟩,⟨_,_,rfl,⟨rfl,trivial⟩,⟨_,_,rfl,⟨rfl,trivial⟩,⟨_,_,rfl,⟨rfl,trivial⟩,⟨_,_,rfl,⟨rfl,trivial⟩,⟨_,_,rfl,⟨rfl,trivial⟩,⟨_,_,rfl,⟨rfl,trivial⟩,⟨_,_,rfl,⟨rfl,trivial⟩,⟨_,_,rfl,⟨rfl,trivial⟩,⟨_,_,rfl,⟨_,_,rfl,⟨rfl,trivial⟩,⟨_,_,rfl,⟨rfl,trivial⟩,⟨_,_,rfl,⟨_,_,rfl,⟨rfl,trivial⟩,⟨_,_,rfl,(zB4 (hm53.get 4 rfl)).1,(zB4 (hm53.get 4 rfl)).2.1,(zB4 (hm53.get 4 rfl)).2.2⟩⟩,⟨_,_,rfl,⟨rfl,trivial⟩,⟨_,_,rfl,(zB4 (hm53.get 5 rfl)).1,(zB4 (hm53.get 5 rfl)).2.1,(zB4 (hm53.get 5 rfl)).2.2⟩⟩⟩⟩⟩,⟨rfl,trivial⟩⟩⟩⟩⟩⟩⟩⟩⟩⟩⟩⟩) :) hm53 fun w54 _ hm55=>?_
   refine gg 2 rfl ?_;refine aD hM (fun h56 hM=>?_) (fun h56 hM=>?_)
   ·refine gg 2 rfl (Rn.q rfl (V.bldS (cs:=[_,_,_,_,_,_,_,_,_,_,_,_,_,_,_,_,_]) zd rfl rfl) (Rn.sq rfl sizeOf42 rfl rfl (hm55.get 0 rfl) ?_));intro w57 m57 x57;have hm58:=(hm55.st 0 rfl x57 m57).nf [zAh _ _ [_,_,_,_,_,_,_,_,_,_,_,_,_,_,_,_,_],_,_,_,_,_,_] rfl;refine gg 2 rfl ?_;have hm59:=hm58.addNil 118 zA.rep;have hm62:=hm59.freeze 7 rfl;have hm63:=hm62.addNil 35 zAq;have hm66:=hm63.freeze 8 rfl;have hm67:=hm66.addNil 35 zAq;have hm70:=hm67.freeze 9 rfl;refine Rn.retG2 func18 rfl (rvC rfl isAgg42 sizeOf42 (hm58.get 0 rfl) rfl) (rvT rfl) ?_;obtain rfl:=zDt hM;exact ⟨none,0,none,0,none,0,rfl,hm70.pk [7,8,9]⟩
   refine gg 3 rfl (Rn.q rfl (V.ldBA [_,_,_,_,_,_,_,_,_,_,_,_,_,_,_,_,_] isAgg42 sizeOf42 rfl (hm55.get 2 rfl) rfl rfl) (Rn.sq rfl sizeOf42 rfl rfl (hm55.get 0 rfl) ?_));intro w71 m71 x71;have hm72:=(hm55.st 0 rfl x71 m71).nf [zAh _ _ [_,_,_,_,_,_,_,_,_,_,_,_,_,_,_,_,_],_,_,_,_,_,_] rfl;refine gg 2 rfl ?_;have hm73:=hm72.addNil 35 zAq;have hm76:=hm73.freeze 7 rfl;have hm77:=hm76.addNil 35 zAq;have hm80:=hm77.freeze 8 rfl;refine Rn.retG2 func18 rfl (rvC rfl isAgg42 sizeOf42 (hm72.get 0 rfl) rfl) (rvT rfl) ?_;obtain rfl:=zDt hM;exact ⟨A6_1_0,c6_1_0,none,0,none,0,rfl,hm80.pk [1,7,8]⟩
  intro j2 hM hk2;refine aD hM (fun h81 hM=>?_) (fun h81 hM=>?_)
  ·refine gg 2 rfl (Rn.sq rfl sizeOf3 rfl rfl (hm45.get 3 rfl) ?_);intro w82 m82 x82;have hm83:=(hm45.st 3 rfl x82 m82).nf [_,_,_,zAh _ _ [_,_,_,_,_,_,_,_,_,_,_,_,_,_,_,_,_]] rfl;refine gg 1 rfl ?_;have hm84:=hm83.addNil 35 zAq;have hm86:=hm84.addNil 35 zAq;have hm88:=hm86.dup 1 rfl (fun _ h=>h);exact hk2 (({ Name:=p6.1,Attrs:=p6.2.1,Kind:=W64 ((z31.toNat:Int)-48),Temp:=W64 ((z32.toNat:Int)-48),Mono:=decide (((z33).toNat:Int)=49),Start:=1,Time:=1,Int_:=0,Re:=(0:UInt64),Im:=(0:UInt64),Hist:=({ Scale:=0,Zero:=(0:UInt64),Pos:=({ Offset:=0,Counts:=([]:List UInt64) }:zA9),Neg:=({ Offset:=0,Counts:=([]:List UInt64) }:zA9) }:zA3),Flags:=0 }:zA6),A6_1_0,c6_1_0,none,0,none,0) _ _ sA (hm88.pk [0,1,2,6,4,5,3]) hM
  refine gg 1 rfl ?_;have hm90:=hm45.addNil 35 zAq;have hm92:=hm90.addNil 35 zAq;have hm94:=hm92.dup 1 rfl (fun _ h=>h);exact hk2 (({ Name:=p6.1,Attrs:=p6.2.1,Kind:=W64 ((z31.toNat:Int)-48),Temp:=W64 ((z32.toNat:Int)-48),Mono:=decide (((z33).toNat:Int)=49),Start:=0,Time:=1,Int_:=0,Re:=(0:UInt64),Im:=(0:UInt64),Hist:=({ Scale:=0,Zero:=(0:UInt64),Pos:=({ Offset:=0,Counts:=([]:List UInt64) }:zA9),Neg:=({ Offset:=0,Counts:=([]:List UInt64) }:zA9) }:zA3),Flags:=0 }:zA6),A6_1_0,c6_1_0,none,0,none,0) _ _ sA (hm94.pk [0,1,2,6,4,5,3]) hM
 intro j1 hM hk1;refine zIu hM (Rn.partD (t:=37) rfl) (fun h96 hM=>?_) (fun h96 hM=>?_)
 ·refine gg 9 rfl ?_;exact hk1 true _ _ sA (hm8.pk [0,1]) hM
 refine gg 1 rfl ?_;obtain ⟨z97,e97,hM⟩:=zAb hM;refine Rn.q rfl (V.idxSZ underlying9 rfl rfl e97) (Rn.q rfl (V.neq rfl rfl) (gg 1 rfl ?_));refine Rn.jR hm0 hM (G:=Bool) [20] (fun g=>[(2,pt b1 0),(5,Str (p4.2.1)),(7,Str (p6.1)),(8,.slice A6_1_0 (p6.2.1).length c6_1_0),(37,.bool false),(45,.bool (g))]) (fun g=>[zAh b1 42 [Str (([]:List UInt8)),.slice none 0 0,iv 0,iv 0,.bool false,iv 0,iv 0,iv 0,zAl (0:UInt64),zAl (0:UInt64),iv 0,zAl (0:UInt64),iv 0,.slice none 0 0,iv 0,.slice none 0 0,iv 0],zBi 118 A6_1_0 c6_1_0 zA.rep p6.2.1]) (fun j g=>j g) ?_ ?_
 ·rintro y98 w99 hm99 hM
  try dsimp only at hM
  refine gg 1 rfl ?_;exact hk1 y98 _ _ sA (hm99.pk [0,1]) hM
 intro j3 hM hk3;refine zIu hM (Rn.partD (t:=41) rfl) (fun h100 hM=>?_) (fun h100 hM=>?_)
 ·refine gg 1 rfl ?_;obtain ⟨z101,e101,hM⟩:=zAb hM;refine Rn.q rfl (V.idxSZ underlying9 rfl rfl e101) (Rn.q rfl (V.neq rfl rfl) (gg 1 rfl ?_));exact hk3 (decide (((z101).toNat:Int)≠49)) _ _ sA (hm8.pk [0,1]) hM
 refine gg 4 rfl ?_;exact hk3 false _ _ sA (hm8.pk [0,1]) hM
theorem zLf {x0:(List UInt8)} {x1:Int} {r:((Option zA0)×Int)} (hM:zGh x0 x1=some r) (f0:(slR A0 c0 zCn x0).H Z0 w) :
 Calls prog 36 #[.slice A0 (x0).length c0,iv x1] w fun x w'=>∃ F_0 b_0,x=.returned (.tuple #[.pointer (zWm b_0 r.1),iv r.2])∧Hp Z0 No w w' [zU0 r.1 (fun z=>zA0.obj F_0 b_0 z)]:=by
 have hm0:=Hp.nil Z0 No w;have hc0:=Calm.nil;obtain ⟨hm2,hc0⟩:=hm0.kn hc0 f0;refine Rn.en func36 ?_;refine gg 13 rfl ?_;refine aD hM (fun h3 hM=>?_) (fun h3 hM=>?_)
 ·refine gg 5 rfl ?_;have hm5:=hm2.addNone (fun z=>zA0.obj No 0 z)
  cases hM
  exact Rn.R2 func36 ⟨No,0,rfl,hm5.pk [1]⟩
 refine gg 3 rfl (Rn.q rfl (V.lenV underlying22 rfl) (gg 1 rfl ?_));obtain ⟨z6,e6,hM⟩:=zAb hM;refine Rn.q rfl (V.quoZ rfl rfl e6) (gg 2 rfl ?_);refine Rn.jR hm0 hM (G:=Bool) [17] (fun g=>[(0,.slice A0 (x0).length c0),(1,iv x1),(26,.bool (g))]) (fun g=>[slR A0 c0 zCn x0]) (fun j g=>j g) ?_ ?_
 ·rintro y7 w8 hm8 hM
  try dsimp only at hM
  refine gg 2 rfl ?_;refine aS hM (fun h9 hM=>?_) (fun h9 hM=>?_)
  ·refine gg 5 rfl ?_;have hm11:=hm8.addNone (fun z=>zA0.obj No 0 z)
   cases hM
   exact Rn.R2 func36 ⟨No,0,rfl,hm11.pk [1]⟩
  refine gg 3 rfl (Rn.q rfl (V.lenV underlying22 rfl) (gg 2 rfl ?_));obtain ⟨z12,e12,hM⟩:=zAb hM;refine Rn.q rfl (V.quoZ rfl rfl e12) (gg 3 rfl ?_);refine aD hM (fun h13 hM=>?_) (fun h13 hM=>?_)
  ·refine gg 5 rfl ?_;have hm15:=hm8.addNone (fun z=>zA0.obj No 0 z)
   cases hM
   exact Rn.R2 func36 ⟨No,0,rfl,hm15.pk [1]⟩
  refine gg 3 rfl ?_;obtain ⟨z16,e16,hM⟩:=zAb hM;refine Rn.q rfl (V.remZ rfl rfl e16) (gg 2 rfl ?_);refine Rn.jR hm0 hM (G:=Bool) [15] (fun g=>[(0,.slice A0 (x0).length c0),(1,iv x1),(49,.bool (g))]) (fun g=>[slR A0 c0 zCn x0]) (fun j g=>j g) ?_ ?_
  ·rintro y17 w18 hm18 hM
   try dsimp only at hM
   refine gg 2 rfl ?_;refine aS hM (fun h19 hM=>?_) (fun h19 hM=>?_)
   ·refine gg 5 rfl ?_;have hm21:=hm18.addNone (fun z=>zA0.obj No 0 z)
    cases hM
    exact Rn.R2 func36 ⟨No,0,rfl,hm21.pk [1]⟩
   refine gg 5 rfl ?_;obtain ⟨p22,e22,hM⟩:=zAb hM
   refine Rn.c2 (cK func75) (zFe (Z0:=All) e22 (zA7 (hm18.get 0 rfl)) :) fun A22_0_0 c22_0_0 w22 hq22=>?_
   have hm24:=hm18.callF (flC (zBf zFf _ _ _ _) fl0) hq22;refine gg 1 rfl (Rn.q rfl (V.bldS (cs:=[_,_,_]) st139 rfl rfl) (Rn.box rfl rfl rfl rfl rfl ?_));intro b25 w25 hb25 m25 e25;have hm27:=(hm24.addBox hb25 e25 m25).nf [_,_,zAh _ _ [_,_,_]] rfl;refine gg 3 rfl ?_;have hm29:=hm27.freeze 1 rfl;have hm30:=hm29.dup 1 rfl (fun _ h=>h);have hm33:=hm30.cu [0,1] [2,3];obtain ⟨F32,hm32⟩:=hm33.fold (zA0.sh b25 ({ b:=p22,n:=x1,at_:=0 }:zA0)) ⟨A22_0_0,c22_0_0,rfl⟩;have hm34:=hm32.toSome (R:=(fun z=>zA0.obj F32 b25 z)) 2 rfl
   cases hM
   exact Rn.R2 func36 ⟨F32,b25,rfl,hm34.pk [2]⟩
  intro j2 hM hk2;refine zIu hM (Rn.partD (t:=38) rfl) (fun h35 hM=>?_) (fun h35 hM=>?_)
  ·refine gg 2 rfl ?_;obtain ⟨z36,e36,hM⟩:=zAb hM;refine Rn.q rfl (V.quoZ rfl rfl e36) ?_;obtain ⟨z37,e37,hM⟩:=zAb hM;refine Rn.ixH hm8 0 rfl e37 rfl rfl rfl underlying22 sizeOf5 rfl rfl rfl rfl ?_;rintro b37 o37 vs37 ⟨rfl,_⟩ hm37;refine Rn.q rfl (V.ldR0 isAgg5 rfl (hm37.get 1 rfl).2 rfl) (gg 1 rfl ?_);obtain ⟨z39,e39,hM⟩:=zAb hM;refine Rn.q rfl (V.remZ rfl rfl e39) (Rn.q rfl (V.cv64 underlying3 underlying137 rfl) (Rn.q rfl (V.shl8 (a:=z37) (m:=(zAe z39).toNat) rfl rfl) (Rn.q rfl (V.neq rfl rfl) (gg 1 rfl ?_))));exact hk2 (decide (((shl8 z37 ((zAe z39).toNat)).toNat:Int)≠0)) _ _ sA (hm37.pk [0]) hM
  refine gg 11 rfl ?_;exact hk2 false _ _ sA (hm8.pk [0]) hM
 intro j1 hM hk1;refine zIu hM (Rn.partD (t:=15) rfl) (fun h40 hM=>?_) (fun h40 hM=>?_)
 ·refine gg 11 rfl ?_;exact hk1 true _ _ sA (hm2.pk [0]) hM
 refine gg 1 rfl (Rn.q rfl (V.lenV underlying22 rfl) (gg 1 rfl ?_));obtain ⟨z41,e41,hM⟩:=zAb hM;refine Rn.q rfl (V.quoZ rfl rfl e41) (gg 2 rfl ?_);refine Rn.jR hm0 hM (G:=Bool) [16,17] (fun g=>[(0,.slice A0 (x0).length c0),(1,iv x1),(15,.bool false),(25,.bool (g))]) (fun g=>[slR A0 c0 zCn x0]) (fun j g=>j g) ?_ ?_
 ·rintro y42 w43 hm43 hM
  try dsimp only at hM
  refine gg 1 rfl ?_;exact hk1 y42 _ _ sA (hm43.pk [0]) hM
 intro j3 hM hk3;refine zIu hM (Rn.partD (t:=21) rfl) (fun h44 hM=>?_) (fun h44 hM=>?_)
 ·refine gg 1 rfl ?_;obtain ⟨z45,e45,hM⟩:=zAb hM;refine Rn.q rfl (V.remZ rfl rfl e45) (gg 2 rfl ?_);exact hk3 (decide (z45>0)) _ _ sA (hm2.pk [0]) hM
 refine gg 4 rfl ?_;exact hk3 false _ _ sA (hm2.pk [0]) hM
theorem zNb {x0:zA6} {r:zA6} (hM:zH8 x0=some r) (h0:zA6.rep.rel Z0 w cs0 x0) :
 Calls prog 39 #[.agg cs0.toArray] w fun x w'=>∃ A_0_0 c_0_0 A_0_1 c_0_1 A_0_2 c_0_2,x=.returned (.agg [Str (r.Name),.slice A_0_0 (r.Attrs).length c_0_0,iv r.Kind,iv r.Temp,.bool (r.Mono),iv r.Start,iv r.Time,iv r.Int_,zAl r.Re,zAl r.Im,iv r.Hist.Scale,zAl r.Hist.Zero,iv r.Hist.Pos.Offset,.slice A_0_1 (r.Hist.Pos.Counts).length c_0_1,iv r.Hist.Neg.Offset,.slice A_0_2 (r.Hist.Neg.Counts).length c_0_2,iv r.Flags].toArray)∧Hp Z0 No w w' [zBi 118 A_0_0 c_0_0 zA.rep r.Attrs,zBi 35 A_0_1 c_0_1 zAq r.Hist.Pos.Counts,zBi 35 A_0_2 c_0_2 zAq r.Hist.Neg.Counts]:=by
 have hm0:=Hp.nil Z0 No w;have hc0:=Calm.nil;obtain ⟨Ar1,cr1,Ar3,cr3,Ar5,cr5,rfl,fs1,fs3,fs5⟩:=zA6.relE h0;obtain ⟨hm7,hc0⟩:=hm0.kn (r:=slR Ar1 cr1 zA.rep x0.Attrs) hc0 fs1;obtain ⟨hm8,hc0⟩:=hm7.kn (r:=slR Ar3 cr3 zAq x0.Hist.Pos.Counts) hc0 fs3;obtain ⟨hm9,hc0⟩:=hm8.kn (r:=slR Ar5 cr5 zAq x0.Hist.Neg.Counts) hc0 fs5;refine Rn.en func39 ?_;refine gg 2 rfl (Rn.box rfl rfl rfl rfl rfl ?_);intro b10 w10 hb10 m10 e10;have hm12:=(hm9.addBox hb10 e10 m10).nf [_,_,_,zAh _ _ [_,_,_,_,_,_,_,_,_,_,_,_,_,_,_,_,_]] rfl;refine Rn.alloc rfl rfl rfl Tryz.zeroValue42 rfl ?_;intro b13 w13 hb13 m13 e13;have hm15:=(hm12.addBox hb13 e13 m13).nf [_,_,_,_,zAh _ _ [_,_,_,_,_,_,_,_,_,_,_,_,_,_,_,_,_]] rfl;refine gg 4 rfl (Rn.q rfl (V.ldB isAgg34 rfl (hm15.get 3 rfl) rfl) ?_);obtain ⟨p16,e16,hM⟩:=zAb hM
 refine Rn.c2 (cK func89) (zEg (Z0:=All) e16 (zA7 (hm15.get 0 rfl)) :) fun A16_0_0 c16_0_0 w16 hq16=>?_
 have hm18:=hm15.callF (flC (zBf zA.flat _ _ _ _) fl0) hq16;refine gg 1 rfl (Rn.sq rfl sizeOf34 rfl rfl (hm18.get 3 rfl) ?_);intro w19 m19 x19;have hm20:=(hm18.st 3 rfl x19 m19).nf [_,_,_,zAh _ _ [_,_,_,_,_,_,_,_,_,_,_,_,_,_,_,_,_],_,_] rfl;refine gg 4 rfl (Rn.q rfl (V.ldBA [_,_,_,_,_,_] isAgg40 sizeOf40 rfl (hm20.get 3 rfl) rfl rfl) ?_);obtain ⟨p21,e21,hM⟩:=zAb hM;refine Rn.cq (cK func90) (zFr (Z0:=All) e21 (show zA3.rep.rel All _ _ _ from ⟨_,_,rfl,⟨rfl,trivial⟩,⟨_,_,rfl,⟨rfl,trivial⟩,⟨_,_,rfl,⟨_,_,rfl,⟨rfl,trivial⟩,⟨_,_,rfl,(zA7 (hm20.get 1 rfl)).1,(zA7 (hm20.get 1 rfl)).2.1,(zA7 (hm20.get 1 rfl)).2.2⟩⟩,⟨_,_,rfl,⟨rfl,trivial⟩,⟨_,_,rfl,(zA7 (hm20.get 2 rfl)).1,(zA7 (hm20.get 2 rfl)).2.1,(zA7 (hm20.get 2 rfl)).2.2⟩⟩⟩⟩⟩) :) ?_;rintro _ w21 ⟨A21_0_0,c21_0_0,A21_0_1,c21_0_1,rfl,hq21⟩;refine ⟨_,rfl,?_⟩;have hm24:=hm20.callF (flC (zBf zDy _ _ _ _) (flC (zBf zDy _ _ _ _) fl0)) hq21;refine gg 1 rfl (Rn.sq rfl sizeOf40 rfl rfl (hm24.get 3 rfl) ?_);intro w25 m25 x25;have hm26:=(hm24.st 3 rfl x25 m25).nf [_,_,_,zAh _ _ [_,_,_,_,_,_,_,_,_,_,_,_,_,_,_,_,_],_,_,_,_] rfl;refine gg 3 rfl (Rn.q rfl (V.ldBA [_,_,_,_,_,_,_,_,_,_,_,_,_,_,_,_,_] isAgg42 sizeOf42 rfl (hm26.get 3 rfl) rfl rfl) (Rn.sq rfl sizeOf42 rfl rfl (hm26.get 4 rfl) ?_));intro w27 m27 x27;have hm28:=(hm26.st 4 rfl x27 m27).nf [_,_,_,_,zAh _ _ [_,_,_,_,_,_,_,_,_,_,_,_,_,_,_,_,_],_,_,_] rfl;refine gg 1 rfl ?_;refine Rn.retG1 func39 rfl (rvC rfl isAgg42 sizeOf42 (hm28.get 4 rfl) rfl) ?_;obtain rfl:=zDt hM;exact ⟨A16_0_0,c16_0_0,A21_0_0,c21_0_0,A21_0_1,c21_0_1,rfl,hm28.pk [5,6,7]⟩
theorem zEc {x0:zA0} {r:Int} (hM:zBy x0=some r) (f0:(fzR (zA0.obj F0 b0 x0)).H Z0 w) :
 Calls prog 40 #[pt b0 0] w fun x w'=>x=.returned (iv r)∧Hp Z0 No w w' []:=by
 have hm0:=Hp.nil Z0 No w;have hc0:=Calm.nil;obtain ⟨hm2,hc0⟩:=hm0.kn hc0 f0;refine Rn.en func40 ?_;refine gg 5 rfl ?_;obtain ⟨_,⟨A4_0,c4_0,rfl⟩,hm4⟩:=hm2.unfz 0 rfl;replace hm4:=hm4.nq;have hm8:=hm4.fzS 2 rfl;refine Rn.drawP rfl hm8 ?_;intro w3 hm3;refine dq [0,1,2] ?_;refine RH.takeP 3 (by kernel_rfl) rfl rfl rfl rfl (V.ldB isAgg3 rfl (hm3.getz 1 rfl) rfl) ?_;refine dq [4,5,6] ?_;refine RH.takeP 7 (by kernel_rfl) rfl rfl rfl rfl (V.ldB isAgg3 rfl (hm3.getz 1 rfl) rfl) ?_;refine dq [8,9] ?_;refine RH.doneP (by kernel_rfl) ?_
 cases hM
 exact Rn.R1 func40 ⟨rfl,hm3.pk []⟩
theorem zDe {x0:zA0} {x1:Int} {r:(UInt64×Bool)} (hM:zCa x0 x1=some r) (f0:(fzR (zA0.obj F0 b0 x0)).H Z0 w) :
 Calls prog 194 #[pt b0 0,iv x1] w fun x w'=>x=.returned (.tuple #[zAl r.1,.bool (r.2)])∧Hp Z0 No w w' []:=by
 have hm0:=Hp.nil Z0 No w;have hc0:=Calm.nil;obtain ⟨hm2,hc0⟩:=hm0.kn hc0 f0;refine Rn.en func194 ?_;refine gg 11 rfl ?_;refine Rn.cutR [6,7,8,9,10,11] [(0,pt b0 0),(1,iv x1),(16,.bool (decide ((x1<0)∨(x1>64))))] (fun hk3=>?_) ?_
 ·refine Rn.partD (t:=13) rfl (fun h4=>?_) (fun h4=>?_)
  ·refine gg 3 rfl ?_;exact hk3 _ sA
  refine gg 3 rfl ?_;exact hk3 _ sA
 refine gg 1 rfl ?_;refine Rn.jR hm0 hM (G:=Bool) [] (fun g=>[(0,pt b0 0),(1,iv x1),(22,.bool (g))]) (fun g=>[fzR (zA0.obj F0 b0 x0)]) (fun j g=>j g) ?_ ?_
 ·rintro y5 w6 hm6 hM
  try dsimp only at hM
  refine gg 1 rfl ?_;refine aS hM (fun h7 hM=>?_) (fun h7 hM=>?_)
  ·refine gg 5 rfl ?_
   cases hM
   exact Rn.R2 func194 ⟨rfl,hm6.pk []⟩
  refine gg 11 rfl ?_;obtain ⟨_,⟨A8_0,c8_0,rfl⟩,hm8⟩:=hm6.unfz 0 rfl;replace hm8:=hm8.nq;have hm12:=hm8.fzS 2 rfl;refine Rn.q rfl (V.ldB isAgg3 rfl (hm12.getz 1 rfl) rfl) (gg 2 rfl ?_);refine Rn.jG hm0 hM (G:=UInt64) (fun g=>[(6,zAl g)]) (fun g=>[]) (fun j g=>j g) ?_ ?_
  ·rintro y13 w14 hm14 hM
   try dsimp only at hM
   refine gg 6 rfl ?_
   cases hM
   exact Rn.R2 func194 ⟨rfl,hm14.pk []⟩
  intro j2 hM hk2;refine gg 1 rfl ?_;refine Rn.loopF (G:=Int×UInt64×Int) (fun g=>[(0,pt b0 0),(1,iv (g.1)),(6,zAl (g.2.1)),(7,iv (g.2.2))]) (fun g w'=>Hp Z0 No w w' [fzR (zA0.obj F0 b0 x0),fzR (zAh b0 139 [.slice A8_0 (x0.b).length c8_0,iv x0.n,iv x0.at_]),slR A8_0 c8_0 zCn x0.b]) (fun n g=>zCk x0 j2 n g.1 g.2.1 g.2.2) fuel (x1,(0:UInt64),x0.at_) sA (hm12.pk [0,1,3]) hM (fun _=>rfl) ?_;clear hM;rintro m18 ⟨y15,y16,y17⟩ w18 hm18 hM hn18;replace hM:zCk x0 j2 (m18+1) y15 y16 y17=some r:=hM;rw [zCk] at hM;refine gg 6 rfl ?_;refine aD hM (fun h19 hM=>?_) (fun h19 hM=>?_)
  ·refine gg 5 rfl ?_;obtain ⟨z20,e20,hM⟩:=zAb hM;refine Rn.q rfl (V.remZ rfl rfl e20) (gg 7 rfl (Rn.q rfl (V.mini rfl rfl) (gg 7 rfl (Rn.q rfl (V.ldB isAgg22 rfl (hm18.getz 1 rfl) rfl) (gg 1 rfl ?_)))));obtain ⟨z21,e21,hM⟩:=zAb hM;refine Rn.q rfl (V.quoZ rfl rfl e21) ?_;obtain ⟨z22,e22,hM⟩:=zAb hM;refine Rn.ixH hm18 2 rfl e22 rfl rfl rfl underlying22 sizeOf5 rfl rfl rfl rfl ?_;rintro b22 o22 vs22 ⟨rfl,_⟩ hm22;refine Rn.q rfl (V.ldR0 isAgg5 rfl (hm22.get 3 rfl).2 rfl) (gg 3 rfl (Rn.q rfl (V.cv64 underlying3 underlying137 rfl) (Rn.q rfl (V.shr8 (a:=z22) (m:=(zAe (W64 ((W64 (8-z20))-(min y15 (W64 (8-z20)))))).toNat) rfl rfl) (gg 1 rfl (Rn.q rfl (V.cv64 underlying3 underlying137 rfl) (Rn.q rfl (V.shl8 (a:=(1:UInt8)) (m:=(zAe (min y15 (W64 (8-z20)))).toNat) rfl rfl) (Rn.q rfl (V.ari8 (a:=shl8 (1:UInt8) ((zAe (min y15 (W64 (8-z20)))).toNat)) (b:=(1:UInt8)) rfl rfl _ rfl (zWz _ _)) (Rn.q rfl (V.and8 (a:=shr8 z22 ((zAe (W64 ((W64 (8-z20))-(min y15 (W64 (8-z20)))))).toNat)) (b:=(shl8 (1:UInt8) ((zAe (min y15 (W64 (8-z20)))).toNat))-(1:UInt8)) rfl rfl) (gg 6 rfl (Rn.q rfl (V.cv64 underlying3 underlying137 rfl) (Rn.q rfl (V.shl64 (a:=y16) (m:=(zAe (min y15 (W64 (8-z20)))).toNat) rfl rfl) (gg 1 rfl (Rn.q rfl (V.cv64 underlying5 underlying35 rfl) (Rn.q rfl (V.o64 rfl rfl (shl64 y16 ((zAe (min y15 (W64 (8-z20)))).toNat)) (zAe (((shr8 z22 ((zAe (W64 ((W64 (8-z20))-(min y15 (W64 (8-z20)))))).toNat))&&&((shl8 (1:UInt8) ((zAe (min y15 (W64 (8-z20)))).toNat))-(1:UInt8))).toNat:Int)) rfl rfl (zTt _ _ _)) (gg 16 rfl ?_)))))))))))))));exact hn18 ((W64 (y15-(min y15 (W64 (8-z20))))),((shl64 y16 ((zAe (min y15 (W64 (8-z20)))).toNat))|||(zAe (((shr8 z22 ((zAe (W64 ((W64 (8-z20))-(min y15 (W64 (8-z20)))))).toNat))&&&((shl8 (1:UInt8) ((zAe (min y15 (W64 (8-z20)))).toNat))-(1:UInt8))).toNat:Int))),(W64 (y17+(min y15 (W64 (8-z20)))))) _ _ sA (hm22.pk [0,1,2]) hM
  refine gg 1 rfl ?_;exact hk2 y16 _ _ sA (hm18.pk []) hM
 intro j1 hM hk1;refine zIu hM (Rn.partD (t:=17) rfl) (fun h24 hM=>?_) (fun h24 hM=>?_)
 ·refine gg 5 rfl ?_;exact hk1 true _ _ sA (hm2.pk [0]) hM
 refine gg 2 rfl ?_;obtain ⟨p25,e25,hM⟩:=zAb hM
 refine Rn.c0 (cK func40) (zEc (Z0:=All) e25 (zQm (hm2.get 0 rfl)) :) hm2 fun w25 _ hm26=>?_
 refine gg 2 rfl ?_;exact hk1 (decide (x1>p25)) _ _ sA (hm26.pk [0]) hM
theorem m_bitio_Reader_Skip_sim {x0:zA0} {x1:Int} {r:(Bool×zA0)} (hM:zBx x0 x1=some r) (hL:zIg Z0 w [zA0.obj F0 b0 x0]) :
 Calls prog 145 #[pt b0 0,iv x1] w fun x w'=>∃ F_p0,x=.returned (.bool (r.1))∧Hp Z0 (LS [zA0.obj F0 b0 x0]) w w' [zA0.obj F_p0 b0 r.2]:=by
 have hm0:=hL.start;refine Rn.en func145 ?_;refine gg 10 rfl ?_;refine Rn.jR hm0 hM (G:=Bool×(Nat→Prop)) [] (fun g=>[(0,pt b0 0),(1,iv x1),(12,.bool ((g.1)))]) (fun g=>[zA0.obj (g.2) b0 x0]) (fun j g=>j g.1) ?_ ?_
 ·rintro ⟨y3,F2⟩ w4 hm4 hM
  try dsimp only at hM
  refine gg 1 rfl ?_;refine aS hM (fun h5 hM=>?_) (fun h5 hM=>?_)
  ·refine gg 4 rfl ?_
   cases hM
   exact Rn.R1 func145 ⟨F2,rfl,hm4.pk [0]⟩
  refine gg 6 rfl ?_;obtain ⟨_,⟨A6_0,c6_0,rfl⟩,hm6⟩:=hm4.unf 0 rfl;replace hm6:=hm6.nq;refine Rn.q rfl (V.ldB isAgg3 rfl (hm6.get 0 rfl) rfl) (gg 4 rfl (Rn.sq rfl sizeOf3 rfl rfl (hm6.get 0 rfl) ?_));intro w8 m8 x8;have hm9:=(hm6.st 0 rfl x8 m8).nf [zAh _ _ [_,_,_],_] rfl;refine gg 5 rfl ?_;have hm10:=hm9.dup 1 rfl (fun _ h=>h);have hm13:=hm10.cu [1] [0,2];obtain ⟨F12,hm12⟩:=hm13.fold (zA0.sh b0 ({ b:=x0.b,n:=x0.n,at_:=W64 (x0.at_+x1) }:zA0)) ⟨A6_0,c6_0,rfl⟩
  cases hM
  exact Rn.R1 func145 ⟨F12,rfl,hm12.pk [1]⟩
 intro j1 hM hk1;refine zIu hM (Rn.partD (t:=7) rfl) (fun h14 hM=>?_) (fun h14 hM=>?_)
 ·refine gg 5 rfl ?_;exact hk1 (true,F0) _ _ sA (hm0.pk [0]) hM
 refine gg 2 rfl ?_;obtain ⟨p15,e15,hM⟩:=zAb hM
 refine Rn.c0 (cK func40) (zEc (Z0:=All) e15 (zCe (hm0.get 0 rfl)) :) hm0 fun w15 _ hm16=>?_
 refine gg 2 rfl ?_;exact hk1 ((decide (x1>p15)),F0) _ _ sA (hm16.pk [0]) hM
theorem zOx {x0:zA0} {x1:Int} {r:UInt64} (hM:zKe x0 x1=some r) (f0:(fzR (zA0.obj F0 b0 x0)).H Z0 w) :
 Calls prog 195 #[pt b0 0,iv x1] w fun x w'=>x=.returned (zAl r)∧Hp Z0 No w w' []:=by
 have hm0:=Hp.nil Z0 No w;have hc0:=Calm.nil;obtain ⟨hm2,hc0⟩:=hm0.kn hc0 f0;refine Rn.en func195 ?_;refine gg 7 rfl ?_;obtain ⟨p3,e3,hM⟩:=zAb hM
 refine Rn.c0 (cK func194) (zDe (Z0:=All) e3 (zQm (hm2.get 0 rfl)) :) hm2 fun w3 _ hm4=>?_
 refine gg 10 rfl ?_;obtain ⟨_,⟨A5_0,c5_0,rfl⟩,hm5⟩:=hm4.unfz 0 rfl;replace hm5:=hm5.nq;have hm9:=hm5.fzS 2 rfl;refine Rn.q rfl (V.ldBA [_,_,_] isAgg139 sizeOf139 rfl (hm9.getz 1 rfl) rfl rfl) (Rn.als rfl rfl rfl Tryz.zeroValue139 rfl sizeOf139 rfl rfl rfl rfl (by first|exact zJg rfl|(simp [Value.oneCell'];done)) ?_);intro b10 w10 hb10 m10 e10;have hm12:=(hm9.addBox hb10 e10 m10).nf [_,_,_,_,zAh _ _ [_,_,_]] rfl;refine gg 3 rfl ?_;have hm14:=hm12.dup 3 rfl (fun _ h=>h);have hm17:=hm14.cu [0,1,2,3] [4,5];obtain ⟨F16,hm16⟩:=hm17.fold (zA0.sh b10 x0) ⟨A5_0,c5_0,rfl⟩;obtain ⟨p13,e13,hM⟩:=zAb hM;have hm18:=hm16.cu [0,1,2,3] [4]
 refine Rn.a1 (cK func145) (m_bitio_Reader_Skip_sim e13 hm18.lend :) hm18 fun F13_p0 w13 hm20=>?_
 refine gg 4 rfl ?_;obtain ⟨p21,e21,hM⟩:=zAb hM
 refine Rn.c0 (cK func194) (zDe (Z0:=All) e21 (zCe (hm20.get 4 rfl)) :) hm20 fun w21 _ hm22=>?_
 refine gg 10 rfl (Rn.q rfl (V.cv64 underlying3 underlying137 rfl) (Rn.q rfl (V.shl64 (a:=p3.1) (m:=(zAe x1).toNat) rfl rfl) (gg 1 rfl (Rn.q rfl (V.o64 rfl rfl (shl64 p3.1 ((zAe x1).toNat)) p21.1 rfl rfl (zTt _ _ _)) (gg 2 rfl ?_)))))
 cases hM
 exact Rn.R1 func195 ⟨rfl,hm22.pk []⟩
theorem m_vary_Get_sim {x0:zA0} {r:(UInt64×Int×zA0)} (hM:zIv x0=some r) (hL:zIg Z0 w [zA0.obj F0 b0 x0]) :
 Calls prog 135 #[pt b0 0] w fun x w'=>∃ F_p0,x=.returned (.tuple #[zAl r.1,iv r.2.1])∧Hp Z0 (LS [zA0.obj F0 b0 x0]) w w' [zA0.obj F_p0 b0 r.2.2]:=by
 have hm0:=hL.start;refine Rn.en func135 ?_;refine gg 8 rfl ?_;obtain ⟨p2,e2,hM⟩:=zAb hM
 refine Rn.c0 (cK func194) (zDe (Z0:=All) e2 (zCe (hm0.get 0 rfl)) :) hm0 fun w2 _ hm3=>?_
 refine gg 10 rfl (Rn.q rfl (V.notB rfl) (gg 1 rfl ?_));refine aS hM (fun h4 hM=>?_) (fun h4 hM=>?_)
 ·refine gg 5 rfl ?_
  cases hM
  exact Rn.R2 func135 ⟨F0,rfl,hm3.pk [0]⟩
 refine gg 3 rfl ?_;obtain ⟨p5,e5,hM⟩:=zAb hM
 refine Rn.c0 (cK func180) (zIh (Z0:=All) e5  :) hm3 fun w5 _ hm6=>?_
 refine gg 1 rfl ?_;obtain ⟨z7,e7,hM⟩:=zAb hM;refine Rn.q rfl (V.arE1 zYk isAgg3 rfl rfl (zNs e7 rfl) (zNh (fun x:Int=>(.int .i64 x:Value)) e7)) (gg 8 rfl ?_);obtain ⟨p8,e8,hM⟩:=zAb hM
 refine Rn.c0 (cK func40) (zEc (Z0:=All) e8 (zCe (hm6.get 0 rfl)) :) hm6 fun w8 _ hm9=>?_
 refine gg 2 rfl ?_;refine aD hM (fun h10 hM=>?_) (fun h10 hM=>?_)
 ·refine gg 5 rfl ?_
  cases hM
  exact Rn.R2 func135 ⟨F0,rfl,hm9.pk [0]⟩
 refine gg 6 rfl (Rn.q rfl (V.mini rfl rfl) ?_);obtain ⟨p11,e11,hM⟩:=zAb hM
 refine Rn.c0 (cK func194) (zDe (Z0:=All) e11 (zCe (hm9.get 0 rfl)) :) hm9 fun w11 _ hm12=>?_
 refine gg 12 rfl ?_;refine Rn.jG hm0 hM (G:=UInt64×(Nat→Prop)) (fun g=>[(0,pt b0 0),(4,zAl p2.1),(6,iv z7),(7,zAl (g.1))]) (fun g=>[zA0.obj (g.2) b0 x0]) (fun j g=>j g.1) ?_ ?_
 ·rintro ⟨y14,F13⟩ w15 hm15 hM
  try dsimp only at hM
  refine gg 4 rfl ?_;obtain ⟨p16,e16,hM⟩:=zAb hM
  refine Rn.c0 (cK func179) (zKq (Z0:=All) e16  :) hm15 fun w16 _ hm17=>?_
  refine gg 1 rfl (Rn.q rfl (V.cvW underlying35 underlying3 rfl) (gg 2 rfl ?_));refine aD hM (fun h18 hM=>?_) (fun h18 hM=>?_)
  ·refine gg 5 rfl ?_
   cases hM
   exact Rn.R2 func135 ⟨F13,rfl,hm17.pk [0]⟩
  refine gg 6 rfl ?_;obtain ⟨p19,e19,hM⟩:=zAb hM;have hm20:=hm17.cu [] [0]
  refine Rn.a1 (cK func145) (m_bitio_Reader_Skip_sim e19 hm20.lend :) hm20 fun F19_p0 w19 hm22=>?_
  refine gg 7 rfl ?_
  cases hM
  exact Rn.R2 func135 ⟨F19_p0,rfl,hm22.pk [0]⟩
 intro j1 hM hk1;refine aD hM (fun h23 hM=>?_) (fun h23 hM=>?_)
 ·refine gg 3 rfl (Rn.q rfl (V.cv64 underlying3 underlying137 rfl) (Rn.q rfl (V.shl64 (a:=(1:UInt64)) (m:=(zAe z7).toNat) rfl rfl) (Rn.q rfl (V.ari64 (a:=shl64 (1:UInt64) ((zAe z7).toNat)) (b:=(1:UInt64)) rfl rfl _ rfl (zI5 _ _)) (Rn.q rfl (V.o64 rfl rfl p11.1 ((shl64 (1:UInt64) ((zAe z7).toNat))-(1:UInt64)) rfl rfl (zPd _ _ _)) (gg 2 rfl ?_)))));exact hk1 ((p11.1&&&((shl64 (1:UInt64) ((zAe z7).toNat))-(1:UInt64))),F0) _ _ sA (hm12.pk [0]) hM
 refine gg 2 rfl ?_;obtain ⟨p24,e24,hM⟩:=zAb hM
 refine Rn.c0 (cK func195) (zOx (Z0:=All) e24 (zCe (hm12.get 0 rfl)) :) hm12 fun w24 _ hm25=>?_
 refine gg 2 rfl ?_;exact hk1 (p24,F0) _ _ sA (hm25.pk [0]) hM
theorem zPm {x0:UInt64} {r:Int} (hM:zK1 x0=some r)  :
 Calls prog 224 #[zAl x0] w fun x w'=>x=.returned (iv r)∧Hp Z0 No w w' []:=by
 have hm0:=Hp.nil Z0 No w;have hc0:=Calm.nil;refine Rn.en func224 ?_;refine gg 7 rfl (Rn.q rfl (V.sh64 rfl rfl _ 1 rfl rfl (zKm _ _ _ 1 (by decide))) (Rn.q rfl (V.cvW underlying35 underlying3 rfl) (gg 1 rfl (Rn.q rfl (V.o64 rfl rfl x0 (1:UInt64) rfl rfl (zPd _ _ _)) (Rn.q rfl (V.cvW underlying35 underlying3 rfl) (Rn.q rfl (V.negI rfl) (Rn.q rfl (V.xorZ rfl rfl) (gg 2 rfl ?_))))))))
 cases hM
 exact Rn.R1 func224 ⟨rfl,hm0.pk []⟩
theorem m_vary_GetInt_sim {x0:zA0} {r:(Int×Int×zA0)} (hM:zH7 x0=some r) (hL:zIg Z0 w [zA0.obj F0 b0 x0]) :
 Calls prog 192 #[pt b0 0] w fun x w'=>∃ F_p0,x=.returned (.tuple #[iv r.1,iv r.2.1])∧Hp Z0 (LS [zA0.obj F0 b0 x0]) w w' [zA0.obj F_p0 b0 r.2.2]:=by
 have hm0:=hL.start;refine Rn.en func192 ?_;refine gg 8 rfl ?_;obtain ⟨p2,e2,hM⟩:=zAb hM;have hm3:=hm0.cu [] [0]
 refine Rn.a1 (cK func135) (m_vary_Get_sim e2 hm3.lend :) hm3 fun F2_p0 w2 hm5=>?_
 refine gg 9 rfl ?_;obtain ⟨p6,e6,hM⟩:=zAb hM
 refine Rn.c0 (cK func224) (zPm (Z0:=All) e6  :) hm5 fun w6 _ hm7=>?_
 refine gg 4 rfl ?_
 cases hM
 exact Rn.R2 func192 ⟨F2_p0,rfl,hm7.pk [0]⟩
theorem m_bitio_Reader_Take_sim {x0:zA0} {x1:Int} {r:(UInt64×Bool×zA0)} (hM:zCs x0 x1=some r) (hL:zIg Z0 w [zA0.obj F0 b0 x0]) :
 Calls prog 196 #[pt b0 0,iv x1] w fun x w'=>∃ F_p0,x=.returned (.tuple #[zAl r.1,.bool (r.2.1)])∧Hp Z0 (LS [zA0.obj F0 b0 x0]) w w' [zA0.obj F_p0 b0 r.2.2]:=by
 have hm0:=hL.start;refine Rn.en func196 ?_;refine gg 9 rfl ?_;obtain ⟨p2,e2,hM⟩:=zAb hM
 refine Rn.c0 (cK func194) (zDe (Z0:=All) e2 (zCe (hm0.get 0 rfl)) :) hm0 fun w2 _ hm3=>?_
 refine gg 11 rfl ?_;refine Rn.jG hm0 hM (G:=zA0×(Nat→Prop)) (fun g=>[(6,zAl p2.1),(7,.bool (p2.2))]) (fun g=>[zA0.obj (g.2) b0 (g.1)]) (fun j g=>j g.1) ?_ ?_
 ·rintro ⟨y4,F4⟩ w5 hm5 hM
  try dsimp only at hM
  refine gg 7 rfl ?_
  cases hM
  exact Rn.R2 func196 ⟨F4,rfl,hm5.pk [0]⟩
 intro j1 hM hk1;refine aS hM (fun h6 hM=>?_) (fun h6 hM=>?_)
 ·refine gg 4 rfl ?_;obtain ⟨_,⟨A7_0,c7_0,rfl⟩,hm7⟩:=hm3.unf 0 rfl;replace hm7:=hm7.nq;refine Rn.q rfl (V.ldB isAgg3 rfl (hm7.get 0 rfl) rfl) (gg 4 rfl (Rn.sq rfl sizeOf3 rfl rfl (hm7.get 0 rfl) ?_));intro w9 m9 x9;have hm10:=(hm7.st 0 rfl x9 m9).nf [zAh _ _ [_,_,_],_] rfl;refine gg 1 rfl ?_;have hm11:=hm10.dup 1 rfl (fun _ h=>h);have hm14:=hm11.cu [1] [0,2];obtain ⟨F13,hm13⟩:=hm14.fold (zA0.sh b0 ({ b:=x0.b,n:=x0.n,at_:=W64 (x0.at_+x1) }:zA0)) ⟨A7_0,c7_0,rfl⟩;exact hk1 (({ b:=x0.b,n:=x0.n,at_:=W64 (x0.at_+x1) }:zA0),F13) _ _ sA (hm13.pk [1]) hM
 refine gg 1 rfl ?_;exact hk1 (x0,F0) _ _ sA (hm3.pk [0]) hM
theorem zD7 {x0:zA0} {r:Int} (hM:zBt x0=some r) (f0:(fzR (zA0.obj F0 b0 x0)).H Z0 w) :
 Calls prog 146 #[pt b0 0] w fun x w'=>x=.returned (iv r)∧Hp Z0 No w w' []:=by
 have hm0:=Hp.nil Z0 No w;have hc0:=Calm.nil;obtain ⟨hm2,hc0⟩:=hm0.kn hc0 f0;refine Rn.en func146 ?_;refine gg 9 rfl ?_;obtain ⟨_,⟨A3_0,c3_0,rfl⟩,hm3⟩:=hm2.unfz 0 rfl;replace hm3:=hm3.nq;have hm7:=hm3.fzS 2 rfl;refine Rn.q rfl (V.ldB isAgg3 rfl (hm7.getz 1 rfl) rfl) (gg 2 rfl ?_)
 cases hM
 exact Rn.R1 func146 ⟨rfl,hm7.pk []⟩
theorem m_vary_step_sim {x0:zA0} {r:(Int×Int×zA0)} (hM:zKf x0=some r) (hL:zIg Z0 w [zA0.obj F0 b0 x0]) :
 Calls prog 193 #[pt b0 0] w fun x w'=>∃ F_p0,x=.returned (.tuple #[iv r.1,iv r.2.1])∧Hp Z0 (LS [zA0.obj F0 b0 x0]) w w' [zA0.obj F_p0 b0 r.2.2]:=by
 have hm0:=hL.start;refine Rn.en func193 ?_;refine gg 9 rfl ?_;obtain ⟨_,⟨A2_0,c2_0,rfl⟩,hm2⟩:=hm0.unf 0 rfl;replace hm2:=hm2.nq;refine Rn.q rfl (V.ldBA [_,_,_] isAgg139 sizeOf139 rfl (hm2.get 0 rfl) rfl rfl) (Rn.als rfl rfl rfl Tryz.zeroValue139 rfl sizeOf139 rfl rfl rfl rfl (by first|exact zJg rfl|(simp [Value.oneCell'];done)) ?_);intro b4 w4 hb4 m4 e4;have hm6:=(hm2.addBox hb4 e4 m4).nf [_,_,zAh _ _ [_,_,_]] rfl;refine gg 6 rfl ?_;have hm7:=hm6.dup 1 rfl (fun _ h=>h);have hm10:=hm7.cu [1,2] [0,3];obtain ⟨F9,hm9⟩:=hm10.fold (zA0.sh b0 x0) ⟨A2_0,c2_0,rfl⟩;have hm11:=hm9.dup 0 rfl (fun _ h=>h);have hm14:=hm11.cu [0,2] [1,3];obtain ⟨F13,hm13⟩:=hm14.fold (zA0.sh b4 x0) ⟨A2_0,c2_0,rfl⟩;refine Rn.jG hm0 hM (G:=Int×zA0×(Nat→Prop)×(Nat→Prop)) (fun g=>[(0,pt b0 0),(4,pt b4 0),(5,iv (g.1))]) (fun g=>[zA0.obj (g.2.2.1) b0 x0,zA0.obj (g.2.2.2) b4 (g.2.1)]) (fun j g=>j g.1 g.2.1) ?_ ?_
 ·rintro ⟨y16,y17,F15,F17⟩ w18 hm18 hM
  try dsimp only at hM
  refine gg 2 rfl ?_;obtain ⟨p19,e19,hM⟩:=zAb hM
  refine Rn.c0 (cK func177) (zHo (Z0:=All) e19  :) hm18 fun w19 _ hm20=>?_
  refine gg 1 rfl ?_;obtain ⟨z21,e21,hM⟩:=zAb hM;refine Rn.q rfl (V.arE1 zYl isAgg3 rfl rfl (zNs e21 rfl) (zNh (fun x:Int=>(.int .i64 x:Value)) e21)) (gg 5 rfl ?_);obtain ⟨p22,e22,hM⟩:=zAb hM;have hm23:=hm20.cu [0] [1]
  refine Rn.a1 (cK func196) (m_bitio_Reader_Take_sim e22 hm23.lend :) hm23 fun F22_p0 w22 hm25=>?_
  refine gg 10 rfl (Rn.q rfl (V.notB rfl) (gg 1 rfl ?_));refine aS hM (fun h26 hM=>?_) (fun h26 hM=>?_)
  ·refine gg 5 rfl ?_
   cases hM
   exact Rn.R2 func193 ⟨F15,rfl,hm25.pk [0]⟩
  refine gg 6 rfl (Rn.q rfl (V.cv64 underlying3 underlying137 rfl) (Rn.q rfl (V.shl64 (a:=p22.1) (m:=(zAe (W64 (64-z21))).toNat) rfl rfl) (Rn.q rfl (V.cvW underlying35 underlying3 rfl) (gg 2 rfl (Rn.q rfl (V.cv64 underlying3 underlying137 rfl) (Rn.q rfl (V.shrZ (m:=(zAe (W64 (64-z21))).toNat) rfl rfl) (gg 6 rfl ?_)))))));obtain ⟨p27,e27,hM⟩:=zAb hM
  refine Rn.c0 (cK func175) (zM0 (Z0:=All) e27  :) hm25 fun w27 _ hm28=>?_
  refine gg 3 rfl ?_;refine aD hM (fun h29 hM=>?_) (fun h29 hM=>?_)
  ·refine gg 5 rfl ?_
   cases hM
   exact Rn.R2 func193 ⟨F15,rfl,hm28.pk [0]⟩
  refine gg 4 rfl ?_;obtain ⟨p30,e30,hM⟩:=zAb hM
  refine Rn.c0 (cK func146) (zD7 (Z0:=All) e30 (zCe (hm28.get 1 rfl)) :) hm28 fun w30 _ hm31=>?_
  refine gg 1 rfl ?_;obtain ⟨p32,e32,hM⟩:=zAb hM
  refine Rn.c0 (cK func146) (zD7 (Z0:=All) e32 (zCe (hm31.get 0 rfl)) :) hm31 fun w32 _ hm33=>?_
  refine gg 1 rfl ?_;obtain ⟨p34,e34,hM⟩:=zAb hM;have hm35:=hm33.cu [1] [0]
  refine Rn.a1 (cK func145) (m_bitio_Reader_Skip_sim e34 hm35.lend :) hm35 fun F34_p0 w34 hm37=>?_
  refine gg 7 rfl ?_
  cases hM
  exact Rn.R2 func193 ⟨F34_p0,rfl,hm37.pk [1]⟩
 intro j1 hM hk1;refine gg 1 rfl ?_;refine Rn.loopF (G:=Int×zA0×(Nat→Prop)×(Nat→Prop)) (fun g=>[(0,pt b0 0),(4,pt b4 0),(5,iv (g.1))]) (fun g w'=>Hp Z0 (LS [zA0.obj F0 b0 x0]) w w' [zA0.obj (g.2.2.1) b0 x0,zA0.obj (g.2.2.2) b4 (g.2.1)]) (fun n g=>zEe x0 j1 n g.1 g.2.1) fuel (0,x0,F9,F13) sA (hm13.pk [1,2]) hM (fun _=>rfl) ?_;clear hM;rintro m41 ⟨y39,y40,F38,F40⟩ w41 hm41 hM hn41;replace hM:zEe x0 j1 (m41+1) y39 y40=some r:=hM;rw [zEe] at hM;refine gg 6 rfl ?_;refine aD hM (fun h42 hM=>?_) (fun h42 hM=>?_)
 ·refine gg 4 rfl ?_;obtain ⟨p43,e43,hM⟩:=zAb hM;have hm44:=hm41.cu [0] [1]
  refine Rn.a1 (cK func196) (m_bitio_Reader_Take_sim e43 hm44.lend :) hm44 fun F43_p0 w43 hm46=>?_
  refine gg 10 rfl (Rn.q rfl (V.notB rfl) (gg 1 rfl ?_));refine aS hM (fun h47 hM=>?_) (fun h47 hM=>?_)
  ·refine gg 5 rfl ?_
   cases hM
   exact Rn.R2 func193 ⟨F38,rfl,hm46.pk [0]⟩
  refine gg 5 rfl (Rn.q rfl (V.eql rfl rfl) (gg 1 rfl ?_));refine aD hM (fun h48 hM=>?_) (fun h48 hM=>?_)
  ·refine gg 1 rfl ?_;exact hk1 (y39,p43.2.2,F38,F43_p0) _ _ sA (hm46.pk [0,1]) hM
  refine gg 7 rfl ?_;exact hn41 ((W64 (y39+1)),p43.2.2,F38,F43_p0) _ _ sA (hm46.pk [0,1]) hM
 refine gg 1 rfl ?_;exact hk1 (y39,y40,F38,F40) _ _ sA (hm41.pk [0,1]) hM
theorem m_vary_Row_Get_sim {x0:zA8} {x1:zA0} {r:(Int×Int×zA0×zA8)} (hM:zI2 x0 x1=some r) (hL:zIg Z0 w [zAh b0 186 [iv x0.n,zAl x0.last,zAl x0.step],zA0.obj F1 b1 x1]) :
 Calls prog 134 #[pt b0 0,pt b1 0] w fun x w'=>∃ F_p1,x=.returned (.tuple #[iv r.1,iv r.2.1])∧Hp Z0 (LS [zAh b0 186 [iv x0.n,zAl x0.last,zAl x0.step],zA0.obj F1 b1 x1]) w w' [zA0.obj F_p1 b1 r.2.2.1,zAh b0 186 [iv r.2.2.2.n,zAl r.2.2.2.last,zAl r.2.2.2.step]]:=by
 have hm0:=hL.start;refine Rn.en func134 ?_;refine gg 15 rfl (Rn.q rfl (V.ldB isAgg3 rfl (hm0.get 0 rfl) rfl) (gg 2 rfl ?_));refine Rn.jG hm0 hM (G:=UInt64×zA0×(Nat→Prop)) (fun g=>[(0,pt b0 0),(6,zAl (g.1))]) (fun g=>[zAh b0 186 [iv x0.n,zAl x0.last,zAl x0.step],zA0.obj (g.2.2) b1 (g.2.1)]) (fun j g=>j g.1 g.2.1) ?_ ?_
 ·rintro ⟨y3,y4,F4⟩ w5 hm5 hM
  try dsimp only at hM
  refine gg 4 rfl ?_;obtain ⟨p6,e6,hM⟩:=zAb hM;have hm7:=hm5.cu [1] [0];refine Rn.cq (cK func178) (m_vary_Row_follow_sim e6 hm7.lend :) ?_;rintro _ w6 ⟨rfl,hq6⟩;refine ⟨_,rfl,?_⟩;have hm9:=hm7.callAZ hq6;refine gg 4 rfl (Rn.q rfl (V.cvW underlying35 underlying3 rfl) (gg 3 rfl ?_))
  cases hM
  exact Rn.R2 func134 ⟨F4,rfl,hm9.pk [0,1]⟩
 intro j1 hM hk1;refine aD hM (fun h10 hM=>?_) (fun h10 hM=>?_)
 ·refine gg 3 rfl ?_;obtain ⟨p11,e11,hM⟩:=zAb hM;have hm12:=hm0.cu [0] [1]
  refine Rn.a1 (cK func192) (m_vary_GetInt_sim e11 hm12.lend :) hm12 fun F11_p0 w11 hm14=>?_
  refine gg 12 rfl ?_;refine aD hM (fun h15 hM=>?_) (fun h15 hM=>?_)
  ·refine gg 6 rfl ?_
   cases hM
   exact Rn.R2 func134 ⟨F11_p0,rfl,hm14.pk [1,0]⟩
  refine gg 5 rfl (Rn.q rfl (V.ldB isAgg35 rfl (hm14.get 0 rfl) rfl) (gg 1 rfl (Rn.q rfl (V.cv64 underlying3 underlying35 rfl) (Rn.q rfl (V.ari64 (a:=x0.last) (b:=zAe p11.1) rfl rfl _ rfl (zIx _ _)) (gg 2 rfl ?_)))));exact hk1 ((x0.last+(zAe p11.1)),p11.2.2,F11_p0) _ _ sA (hm14.pk [0,1]) hM
 refine gg 3 rfl ?_;obtain ⟨p16,e16,hM⟩:=zAb hM;have hm17:=hm0.cu [0] [1]
 refine Rn.a1 (cK func193) (m_vary_step_sim e16 hm17.lend :) hm17 fun F16_p0 w16 hm19=>?_
 refine gg 12 rfl ?_;refine aD hM (fun h20 hM=>?_) (fun h20 hM=>?_)
 ·refine gg 6 rfl ?_
  cases hM
  exact Rn.R2 func134 ⟨F16_p0,rfl,hm19.pk [1,0]⟩
 refine gg 1 rfl ?_;refine Rn.drawP rfl hm19 ?_;intro w21 hm21;refine dq [0,1,2] ?_;refine RH.takeP 3 (by kernel_rfl) rfl rfl rfl rfl (V.ldB isAgg35 rfl (hm21.get 0 rfl) rfl) ?_;refine dq [4,5,6] ?_;refine RH.takeP 7 (by kernel_rfl) rfl rfl rfl rfl (V.ldB isAgg35 rfl (hm21.get 0 rfl) rfl) ?_;refine RH.takeP 8 (by kernel_rfl) rfl rfl rfl rfl (V.ari64 (a:=x0.last) (b:=x0.step) rfl rfl _ rfl (zIx _ _)) ?_;refine dq [9] ?_;refine RH.takeP 10 (by kernel_rfl) rfl rfl rfl rfl (V.cv64 underlying3 underlying35 rfl) ?_;refine RH.takeP 11 (by kernel_rfl) rfl rfl rfl rfl (V.ari64 (a:=x0.last+x0.step) (b:=zAe p16.1) rfl rfl _ rfl (zIx _ _)) ?_;refine dq [12] ?_;refine RH.doneP (by kernel_rfl) ?_;exact hk1 (((x0.last+x0.step)+(zAe p16.1)),p16.2.2,F16_p0) _ _ sA (hm21.pk [0,1]) hM
theorem m_chunk_in_int_sim {p0_0:Nat} {x0:zA5} {x1:Int} {x2:Int} {r:(Int×zA5)} (hM:zFv x0 x1 x2=some r) (hL:zIg Z0 w [zA5.obj F0 b0 p0_0 x0]) :
 Calls prog 88 #[pt b0 0,iv x1,iv x2] w fun x w'=>∃ F_p0,x=.returned (iv r.1)∧Hp Z0 (LS [zA5.obj F0 b0 p0_0 x0]) w w' [zA5.obj F_p0 b0 p0_0 r.2]:=by
 have hm0:=hL.start;refine Rn.en func88 ?_;refine gg 10 rfl ?_;obtain ⟨_,⟨F2_0,F2_1,b2_1,F2_2,b2_2,F2_3,b2_3,F2_4,b2_4,F2_5,b2_5,F2_6,b2_6,F2_7,b2_7,rfl⟩,hm2⟩:=hm0.unf 0 rfl;replace hm2:=hm2.nq;refine Rn.q rfl (V.ldB isAgg25 rfl (hm2.get 0 rfl) rfl) (gg 2 rfl ?_);have hm12:=hm2.cu [] [0,1,2,3,4,5,6,7,8];obtain ⟨F11,hm11⟩:=hm12.fold (zA5.sh b0 p0_0 x0) ⟨F2_0,F2_1,b2_1,F2_2,b2_2,F2_3,b2_3,F2_4,b2_4,F2_5,b2_5,F2_6,b2_6,F2_7,b2_7,rfl⟩;refine Rn.jG hm0 hM (G:=zA5×(Nat→Prop)) (fun g=>[(1,iv x1)]) (fun g=>[zA5.obj (g.2) b0 p0_0 (g.1)]) (fun j g=>j g.1) ?_ ?_
 ·rintro ⟨y13,F13⟩ w14 hm14 hM
  try dsimp only at hM
  refine gg 5 rfl ?_
  cases hM
  exact Rn.R1 func88 ⟨F13,rfl,hm14.pk [0]⟩
 intro j1 hM hk1;refine aD hM (fun h15 hM=>?_) (fun h15 hM=>?_)
 ·refine gg 5 rfl ?_;obtain ⟨_,⟨F16_0,F16_1,b16_1,F16_2,b16_2,F16_3,b16_3,F16_4,b16_4,F16_5,b16_5,F16_6,b16_6,F16_7,b16_7,rfl⟩,hm16⟩:=hm11.unf 0 rfl;replace hm16:=hm16.nq;refine Rn.sq rfl sizeOf25 rfl rfl (hm16.get 0 rfl) ?_;intro w25 m25 x25;have hm26:=(hm16.st 0 rfl x25 m25).nf [zAh _ _ [_,_,_,_,_,_,_,_,_],_,_,_,_,_,_,_,_] rfl;refine gg 1 rfl ?_;have hm28:=hm26.cu [] [0,1,2,3,4,5,6,7,8];obtain ⟨F27,hm27⟩:=hm28.fold (zA5.sh b0 p0_0 ({ r:=x0.r,rows:=x0.rows,e:=x2 }:zA5)) ⟨F16_0,F16_1,b16_1,F16_2,b16_2,F16_3,b16_3,F16_4,b16_4,F16_5,b16_5,F16_6,b16_6,F16_7,b16_7,rfl⟩;exact hk1 (({ r:=x0.r,rows:=x0.rows,e:=x2 }:zA5),F27) _ _ sA (hm27.pk [0]) hM
 refine gg 1 rfl ?_;exact hk1 (x0,F11) _ _ sA (hm11.pk [0]) hM
theorem m_chunk_in_int_s2_sim {v0_r:Value} {v0_rows_ords:Value} {v0_rows_times:Value} {v0_rows_spans:Value} {v0_rows_ints:Value} {v0_rows_re:Value} {v0_rows_im:Value} {v0_rows_hists:Value} {x0_e:Int} {x1:Int} {x2:Int} {r:(Int×Int)} (hM:zHx x0_e x1 x2=some r) (hL:zIg Z0 w [zAh b0 83 [v0_r,v0_rows_ords,v0_rows_times,v0_rows_spans,v0_rows_ints,v0_rows_re,v0_rows_im,v0_rows_hists,iv x0_e]]) :
 Calls prog 88 #[pt b0 0,iv x1,iv x2] w fun x w'=>x=.returned (iv r.1)∧Hp Z0 (LS [zAh b0 83 [v0_r,v0_rows_ords,v0_rows_times,v0_rows_spans,v0_rows_ints,v0_rows_re,v0_rows_im,v0_rows_hists,iv x0_e]]) w w' [zAh b0 83 [v0_r,v0_rows_ords,v0_rows_times,v0_rows_spans,v0_rows_ints,v0_rows_re,v0_rows_im,v0_rows_hists,iv r.2]]:=by
 have hm0:=hL.start;refine Rn.en func88 ?_;refine gg 10 rfl (Rn.q rfl (V.ldB isAgg25 rfl (hm0.get 0 rfl) rfl) (gg 2 rfl ?_));refine Rn.jG hm0 hM (G:=Int) (fun g=>[(1,iv x1)]) (fun g=>[zAh b0 83 [v0_r,v0_rows_ords,v0_rows_times,v0_rows_spans,v0_rows_ints,v0_rows_re,v0_rows_im,v0_rows_hists,iv g]]) (fun j g=>j g) ?_ ?_
 ·rintro y2 w3 hm3 hM
  try dsimp only at hM
  refine gg 5 rfl ?_
  cases hM
  exact Rn.R1 func88 ⟨rfl,hm3.pk [0]⟩
 intro j1 hM hk1;refine aD hM (fun h4 hM=>?_) (fun h4 hM=>?_)
 ·refine gg 5 rfl (Rn.sq rfl sizeOf25 rfl rfl (hm0.get 0 rfl) ?_);intro w5 m5 x5;have hm6:=(hm0.st 0 rfl x5 m5).nf [zAh _ _ [_,_,_,_,_,_,_,_,_]] rfl;refine gg 1 rfl ?_;exact hk1 x2 _ _ sA (hm6.pk [0]) hM
 refine gg 1 rfl ?_;exact hk1 x0_e _ _ sA (hm0.pk [0]) hM
theorem m_chunk_reader_row_s2_sim {F0_r:Nat→Prop} {b0_r:Nat} {x0_r:zA0} {v0_rows_ords:Value} {v0_rows_times:Value} {v0_rows_spans:Value} {v0_rows_ints:Value} {v0_rows_re:Value} {v0_rows_im:Value} {v0_rows_hists:Value} {x0_e:Int} {x1:zA8} {r:(Int×zA0×Int×zA8)} (hM:zC8 x0_r x0_e x1=some r) (hL:zIg Z0 w [zAh b0 83 [pt b0_r 0,v0_rows_ords,v0_rows_times,v0_rows_spans,v0_rows_ints,v0_rows_re,v0_rows_im,v0_rows_hists,iv x0_e],zA0.obj F0_r b0_r x0_r,zAh b1 186 [iv x1.n,zAl x1.last,zAl x1.step]]) :
 Calls prog 82 #[pt b0 0,pt b1 0] w fun x w'=>∃ F_p0_r,x=.returned (iv r.1)∧Hp Z0 (LS [zAh b0 83 [pt b0_r 0,v0_rows_ords,v0_rows_times,v0_rows_spans,v0_rows_ints,v0_rows_re,v0_rows_im,v0_rows_hists,iv x0_e],zA0.obj F0_r b0_r x0_r,zAh b1 186 [iv x1.n,zAl x1.last,zAl x1.step]]) w w' [zA0.obj F_p0_r b0_r r.2.1,zAh b1 186 [iv r.2.2.2.n,zAl r.2.2.2.last,zAl r.2.2.2.step],zAh b0 83 [pt b0_r 0,v0_rows_ords,v0_rows_times,v0_rows_spans,v0_rows_ints,v0_rows_re,v0_rows_im,v0_rows_hists,iv r.2.2.1]]:=by
 have hm0:=hL.start;refine Rn.en func82 ?_;refine gg 10 rfl (Rn.q rfl (V.ldB isAgg25 rfl (hm0.get 0 rfl) rfl) (gg 2 rfl ?_));refine aD hM (fun h4 hM=>?_) (fun h4 hM=>?_)
 ·refine gg 4 rfl ?_
  cases hM
  exact Rn.R1 func82 ⟨F0_r,rfl,hm0.pk [1,2,0]⟩
 refine gg 7 rfl (Rn.q rfl (V.ldB isAgg72 rfl (hm0.get 0 rfl) rfl) ?_);obtain ⟨p5,e5,hM⟩:=zAb hM;have hm6:=hm0.cu [0] [2,1]
 refine Rn.a1 (cK func134) (m_vary_Row_Get_sim e5 hm6.lend :) hm6 fun F5_p1 w5 hm9=>?_
 refine gg 11 rfl ?_;obtain ⟨p10,e10,hM⟩:=zAb hM;have hm11:=hm9.cu [1,2] [0];refine Rn.cq (cK func88) (m_chunk_in_int_s2_sim e10 hm11.lend :) ?_;rintro _ w10 ⟨rfl,hq10⟩;refine ⟨_,rfl,?_⟩;have hm13:=hm11.callAZ hq10;refine gg 2 rfl ?_
 cases hM
 exact Rn.R1 func82 ⟨F5_p1,rfl,hm13.pk [0,1,2]⟩
theorem m_chunk_in_uint64_sim {p0_0:Nat} {x0:zA5} {x1:UInt64} {x2:Int} {r:(UInt64×zA5)} (hM:zHw x0 x1 x2=some r) (hL:zIg Z0 w [zA5.obj F0 b0 p0_0 x0]) :
 Calls prog 136 #[pt b0 0,zAl x1,iv x2] w fun x w'=>∃ F_p0,x=.returned (zAl r.1)∧Hp Z0 (LS [zA5.obj F0 b0 p0_0 x0]) w w' [zA5.obj F_p0 b0 p0_0 r.2]:=by
 have hm0:=hL.start;refine Rn.en func136 ?_;refine gg 10 rfl ?_;obtain ⟨_,⟨F2_0,F2_1,b2_1,F2_2,b2_2,F2_3,b2_3,F2_4,b2_4,F2_5,b2_5,F2_6,b2_6,F2_7,b2_7,rfl⟩,hm2⟩:=hm0.unf 0 rfl;replace hm2:=hm2.nq;refine Rn.q rfl (V.ldB isAgg25 rfl (hm2.get 0 rfl) rfl) (gg 2 rfl ?_);have hm12:=hm2.cu [] [0,1,2,3,4,5,6,7,8];obtain ⟨F11,hm11⟩:=hm12.fold (zA5.sh b0 p0_0 x0) ⟨F2_0,F2_1,b2_1,F2_2,b2_2,F2_3,b2_3,F2_4,b2_4,F2_5,b2_5,F2_6,b2_6,F2_7,b2_7,rfl⟩;refine Rn.jG hm0 hM (G:=zA5×(Nat→Prop)) (fun g=>[(1,zAl x1)]) (fun g=>[zA5.obj (g.2) b0 p0_0 (g.1)]) (fun j g=>j g.1) ?_ ?_
 ·rintro ⟨y13,F13⟩ w14 hm14 hM
  try dsimp only at hM
  refine gg 5 rfl ?_
  cases hM
  exact Rn.R1 func136 ⟨F13,rfl,hm14.pk [0]⟩
 intro j1 hM hk1;refine aD hM (fun h15 hM=>?_) (fun h15 hM=>?_)
 ·refine gg 5 rfl ?_;obtain ⟨_,⟨F16_0,F16_1,b16_1,F16_2,b16_2,F16_3,b16_3,F16_4,b16_4,F16_5,b16_5,F16_6,b16_6,F16_7,b16_7,rfl⟩,hm16⟩:=hm11.unf 0 rfl;replace hm16:=hm16.nq;refine Rn.sq rfl sizeOf25 rfl rfl (hm16.get 0 rfl) ?_;intro w25 m25 x25;have hm26:=(hm16.st 0 rfl x25 m25).nf [zAh _ _ [_,_,_,_,_,_,_,_,_],_,_,_,_,_,_,_,_] rfl;refine gg 1 rfl ?_;have hm28:=hm26.cu [] [0,1,2,3,4,5,6,7,8];obtain ⟨F27,hm27⟩:=hm28.fold (zA5.sh b0 p0_0 ({ r:=x0.r,rows:=x0.rows,e:=x2 }:zA5)) ⟨F16_0,F16_1,b16_1,F16_2,b16_2,F16_3,b16_3,F16_4,b16_4,F16_5,b16_5,F16_6,b16_6,F16_7,b16_7,rfl⟩;exact hk1 (({ r:=x0.r,rows:=x0.rows,e:=x2 }:zA5),F27) _ _ sA (hm27.pk [0]) hM
 refine gg 1 rfl ?_;exact hk1 (x0,F11) _ _ sA (hm11.pk [0]) hM
theorem m_chunk_reader_flags_sim {p0_0:Nat} {x0:zA5} {r:(UInt64×zA5)} (hM:zE6 x0=some r) (hL:zIg Z0 w [zA5.obj F0 b0 p0_0 x0]) :
 Calls prog 83 #[pt b0 0] w fun x w'=>∃ F_p0,x=.returned (zAl r.1)∧Hp Z0 (LS [zA5.obj F0 b0 p0_0 x0]) w w' [zA5.obj F_p0 b0 p0_0 r.2]:=by
 have hm0:=hL.start;refine Rn.en func83 ?_;refine gg 10 rfl ?_;obtain ⟨_,⟨F2_0,F2_1,b2_1,F2_2,b2_2,F2_3,b2_3,F2_4,b2_4,F2_5,b2_5,F2_6,b2_6,F2_7,b2_7,rfl⟩,hm2⟩:=hm0.unf 0 rfl;replace hm2:=hm2.nq;refine Rn.q rfl (V.ldB isAgg25 rfl (hm2.get 0 rfl) rfl) (gg 2 rfl ?_);refine aD hM (fun h11 hM=>?_) (fun h11 hM=>?_)
 ·refine gg 4 rfl ?_;have hm13:=hm2.cu [] [0,1,2,3,4,5,6,7,8];obtain ⟨F12,hm12⟩:=hm13.fold (zA5.sh b0 p0_0 x0) ⟨F2_0,F2_1,b2_1,F2_2,b2_2,F2_3,b2_3,F2_4,b2_4,F2_5,b2_5,F2_6,b2_6,F2_7,b2_7,rfl⟩
  cases hM
  exact Rn.R1 func83 ⟨F12,rfl,hm12.pk [0]⟩
 refine gg 6 rfl (Rn.q rfl (V.ldB isAgg72 rfl (hm2.get 0 rfl) rfl) ?_);obtain ⟨p14,e14,hM⟩:=zAb hM;have hm15:=hm2.cu [0,2,3,4,5,6,7,8] [1]
 refine Rn.a1 (cK func135) (m_vary_Get_sim e14 hm15.lend :) hm15 fun F14_p0 w14 hm17=>?_
 refine gg 11 rfl ?_;have hm20:=hm17.cu [] [0,8,1,2,3,4,5,6,7];obtain ⟨F19,hm19⟩:=hm20.fold (zA5.sh b0 p0_0 ({ r:=p14.2.2,rows:=x0.rows,e:=x0.e }:zA5)) ⟨F14_p0,F2_1,b2_1,F2_2,b2_2,F2_3,b2_3,F2_4,b2_4,F2_5,b2_5,F2_6,b2_6,F2_7,b2_7,rfl⟩;obtain ⟨p18,e18,hM⟩:=zAb hM;have hm21:=hm19.cu [] [0]
 refine Rn.a1 (cK func136) (m_chunk_in_uint64_sim e18 hm21.lend :) hm21 fun F18_p0 w18 hm23=>?_
 refine gg 2 rfl ?_
 cases hM
 exact Rn.R1 func83 ⟨F18_p0,rfl,hm23.pk [0]⟩
theorem m_histbits_reader_take_sim {p0_0:Nat} {x0:zA1} {x1:Int} {r:(Int×zA1)} (hM:zBu x0 x1=some r) (hL:zIg Z0 w [zA1.obj F0 b0 p0_0 x0]) :
 Calls prog 137 #[pt b0 0,iv x1] w fun x w'=>∃ F_p0,x=.returned (iv r.1)∧Hp Z0 (LS [zA1.obj F0 b0 p0_0 x0]) w w' [zA1.obj F_p0 b0 p0_0 r.2]:=by
 have hm0:=hL.start;refine Rn.en func137 ?_;refine gg 10 rfl ?_;obtain ⟨_,⟨F2_0,rfl⟩,hm2⟩:=hm0.unf 0 rfl;replace hm2:=hm2.nq;refine Rn.q rfl (V.ldB isAgg25 rfl (hm2.get 0 rfl) rfl) (gg 2 rfl ?_);refine aD hM (fun h4 hM=>?_) (fun h4 hM=>?_)
 ·refine gg 4 rfl ?_;have hm6:=hm2.cu [] [0,1];obtain ⟨F5,hm5⟩:=hm6.fold (zA1.sh b0 p0_0 x0) ⟨F2_0,rfl⟩
  cases hM
  exact Rn.R1 func137 ⟨F5,rfl,hm5.pk [0]⟩
 refine gg 6 rfl (Rn.q rfl (V.ldB isAgg72 rfl (hm2.get 0 rfl) rfl) (gg 1 rfl ?_));obtain ⟨p7,e7,hM⟩:=zAb hM;have hm8:=hm2.cu [0] [1]
 refine Rn.a1 (cK func196) (m_bitio_Reader_Take_sim e7 hm8.lend :) hm8 fun F7_p0 w7 hm10=>?_
 refine gg 10 rfl (Rn.q rfl (V.notB rfl) (gg 1 rfl ?_));have hm12:=hm10.cu [] [0,1];obtain ⟨F11,hm11⟩:=hm12.fold (zA1.sh b0 p0_0 ({ r:=p7.2.2,e:=x0.e }:zA1)) ⟨F7_p0,rfl⟩;refine Rn.jG hm0 hM (G:=zA1×(Nat→Prop)) (fun g=>[(5,zAl p7.1)]) (fun g=>[zA1.obj (g.2) b0 p0_0 (g.1)]) (fun j g=>j g.1) ?_ ?_
 ·rintro ⟨y13,F13⟩ w14 hm14 hM
  try dsimp only at hM
  refine gg 3 rfl (Rn.q rfl (V.cvW underlying35 underlying3 rfl) (gg 2 rfl ?_))
  cases hM
  exact Rn.R1 func137 ⟨F13,rfl,hm14.pk [0]⟩
 intro j1 hM hk1;refine aS hM (fun h15 hM=>?_) (fun h15 hM=>?_)
 ·refine gg 4 rfl ?_;obtain ⟨_,⟨F16_0,rfl⟩,hm16⟩:=hm11.unf 0 rfl;replace hm16:=hm16.nq;refine Rn.sq rfl sizeOf25 rfl rfl (hm16.get 0 rfl) ?_;intro w18 m18 x18;have hm19:=(hm16.st 0 rfl x18 m18).nf [zAh _ _ [_,_],_] rfl;refine gg 1 rfl ?_;have hm21:=hm19.cu [] [0,1];obtain ⟨F20,hm20⟩:=hm21.fold (zA1.sh b0 p0_0 ({ r:=p7.2.2,e:=2 }:zA1)) ⟨F16_0,rfl⟩;exact hk1 (({ r:=p7.2.2,e:=2 }:zA1),F20) _ _ sA (hm20.pk [0]) hM
 refine gg 1 rfl ?_;exact hk1 (({ r:=p7.2.2,e:=x0.e }:zA1),F11) _ _ sA (hm11.pk [0]) hM
theorem m_histbits_reader_int_sim {p0_0:Nat} {x0:zA1} {r:(Int×zA1)} (hM:zC3 x0=some r) (hL:zIg Z0 w [zA1.obj F0 b0 p0_0 x0]) :
 Calls prog 141 #[pt b0 0] w fun x w'=>∃ F_p0,x=.returned (iv r.1)∧Hp Z0 (LS [zA1.obj F0 b0 p0_0 x0]) w w' [zA1.obj F_p0 b0 p0_0 r.2]:=by
 have hm0:=hL.start;refine Rn.en func141 ?_;refine gg 10 rfl ?_;obtain ⟨_,⟨F2_0,rfl⟩,hm2⟩:=hm0.unf 0 rfl;replace hm2:=hm2.nq;refine Rn.q rfl (V.ldB isAgg25 rfl (hm2.get 0 rfl) rfl) (gg 2 rfl ?_);refine aD hM (fun h4 hM=>?_) (fun h4 hM=>?_)
 ·refine gg 4 rfl ?_;have hm6:=hm2.cu [] [0,1];obtain ⟨F5,hm5⟩:=hm6.fold (zA1.sh b0 p0_0 x0) ⟨F2_0,rfl⟩
  cases hM
  exact Rn.R1 func141 ⟨F5,rfl,hm5.pk [0]⟩
 refine gg 6 rfl (Rn.q rfl (V.ldB isAgg72 rfl (hm2.get 0 rfl) rfl) ?_);obtain ⟨p7,e7,hM⟩:=zAb hM;have hm8:=hm2.cu [0] [1]
 refine Rn.a1 (cK func192) (m_vary_GetInt_sim e7 hm8.lend :) hm8 fun F7_p0 w7 hm10=>?_
 refine gg 12 rfl (Rn.sq rfl sizeOf25 rfl rfl (hm10.get 0 rfl) ?_);intro w11 m11 x11;have hm12:=(hm10.st 0 rfl x11 m11).nf [zAh _ _ [_,_],_] rfl;refine gg 6 rfl ?_;have hm14:=hm12.cu [] [0,1];obtain ⟨F13,hm13⟩:=hm14.fold (zA1.sh b0 p0_0 ({ r:=p7.2.2,e:=p7.2.1 }:zA1)) ⟨F7_p0,rfl⟩
 cases hM
 exact Rn.R1 func141 ⟨F13,rfl,hm13.pk [0]⟩
theorem m_histbits_reader_side_sim {p0_0:Nat} {x0:zA1} {r:(zA9×zA1)} (hM:zDj x0=some r) (hL:zIg Z0 w [zA1.obj F0 b0 p0_0 x0]) :
 Calls prog 142 #[pt b0 0] w fun x w'=>∃ A_0_0 c_0_0 F_p0,x=.returned (.agg [iv r.1.Offset,.slice A_0_0 (r.1.Counts).length c_0_0].toArray)∧Hp Z0 (LS [zA1.obj F0 b0 p0_0 x0]) w w' [zBi 35 A_0_0 c_0_0 zAq r.1.Counts,zA1.obj F_p0 b0 p0_0 r.2]:=by
 have hm0:=hL.start;refine Rn.en func142 ?_;refine gg 2 rfl (Rn.alloc rfl rfl rfl Tryz.zeroValue38 rfl ?_);intro b2 w2 hb2 m2 e2;have hm4:=(hm0.addBox hb2 e2 m2).nf [_,zAh _ _ [_,_]] rfl;refine gg 4 rfl ?_;obtain ⟨p5,e5,hM⟩:=zAb hM;have hm6:=hm4.cu [1] [0]
 refine Rn.a1 (cK func137) (m_histbits_reader_take_sim e5 hm6.lend :) hm6 fun F5_p0 w5 hm8=>?_
 refine gg 8 rfl ?_;obtain ⟨_,⟨F9_0,rfl⟩,hm9⟩:=hm8.unf 1 rfl;replace hm9:=hm9.nq;refine Rn.q rfl (V.ldB isAgg25 rfl (hm9.get 1 rfl) rfl) (gg 2 rfl ?_);refine Rn.cutR [] [(0,pt b0 0),(2,pt b2 0),(3,iv p5.1),(14,.bool (decide ((p5.2.e=0)∧(p5.1>160))))] (fun hk11=>?_) ?_
 ·refine Rn.partD (t:=11) rfl (fun h12=>?_) (fun h12=>?_)
  ·refine gg 3 rfl ?_;exact hk11 _ sA
  refine gg 3 rfl ?_;exact hk11 _ sA
 refine gg 1 rfl ?_;have hm14:=hm9.cu [0] [1,2];obtain ⟨F13,hm13⟩:=hm14.fold (zA1.sh b0 p0_0 p5.2) ⟨F9_0,rfl⟩;refine Rn.jG hm0 hM (G:=zA1×(Nat→Prop)) (fun g=>[(0,pt b0 0),(2,pt b2 0),(3,iv p5.1)]) (fun g=>[zAh b2 38 [iv 0,.slice none 0 0],zA1.obj (g.2) b0 p0_0 (g.1)]) (fun j g=>j g.1) ?_ ?_
 ·rintro ⟨y15,F15⟩ w16 hm16 hM
  try dsimp only at hM
  refine gg 6 rfl ?_;obtain ⟨_,⟨F17_0,rfl⟩,hm17⟩:=hm16.unf 1 rfl;replace hm17:=hm17.nq;refine Rn.q rfl (V.ldB isAgg25 rfl (hm17.get 1 rfl) rfl) (gg 2 rfl ?_);refine Rn.cutR [] [(0,pt b0 0),(2,pt b2 0),(3,iv p5.1),(26,.bool (decide ((y15.e≠0)∨(p5.1=0))))] (fun hk19=>?_) ?_
  ·refine Rn.partD (t:=23) rfl (fun h20=>?_) (fun h20=>?_)
   ·refine gg 3 rfl ?_;exact hk19 _ sA
   refine gg 3 rfl ?_;exact hk19 _ sA
  refine gg 1 rfl ?_;refine aD hM (fun h21 hM=>?_) (fun h21 hM=>?_)
  ·refine gg 2 rfl (Rn.q rfl (V.bldS (cs:=[_,_]) st38 rfl rfl) (Rn.sq rfl sizeOf38 rfl rfl (hm17.get 0 rfl) ?_));intro w22 m22 x22;have hm23:=(hm17.st 0 rfl x22 m22).nf [zAh _ _ [_,_],_,_] rfl;refine gg 1 rfl ?_;have hm24:=hm23.addNil 35 zAq;have hm27:=hm24.cu [0,3] [1,2];obtain ⟨F26,hm26⟩:=hm27.fold (zA1.sh b0 p0_0 y15) ⟨F17_0,rfl⟩;refine Rn.retG1 func142 rfl (rvC rfl isAgg38 sizeOf38 (hm23.get 0 rfl) rfl) ?_;obtain rfl:=zDt hM;exact ⟨none,0,F26,rfl,hm26.pk [1,2]⟩
  refine gg 2 rfl ?_;have hm30:=hm17.cu [0] [1,2];obtain ⟨F29,hm29⟩:=hm30.fold (zA1.sh b0 p0_0 y15) ⟨F17_0,rfl⟩;have hm31:=(hm29.cutF [] [0,1] [] rfl (by decide) trivial).nf ([]++[_,_]) rfl;refine Rn.drawF rfl hm31 ?_;intro w32 hmo32 hm32;refine dq [0,2] ?_;obtain ⟨p33,e33,hM⟩:=zAb hM;obtain ⟨z37,e37,hM⟩:=zAb hM;refine RH.both 1 3 (by kernel_rfl) ?_ ?_
  ·have e43:=e33;have hm44:=hm32.cu [0] [1];refine RB.cl (cK func141) 1 rfl rfl rfl rfl (m_histbits_reader_int_sim e43 hm44.lend :) ?_;rintro _ w43 ⟨F43_p0,rfl,hq43⟩;have hm46:=hm44.callAZ hq43;refine ⟨_,rfl,hm46.fr,?_⟩;have e47:=e37;refine RH.mkSlH (rep:=zAq) 3 (by kernel_rfl) hm46 e47 rfl rfl rfl underlying36 zau rfl (zs:=[zAl (0:UInt64)]) (by kernel_rfl) rfl rfl (fun _ _=>⟨rfl,trivial⟩) ?_;intro b47 w47 hm47 x47;refine ⟨hm47.fr,?_⟩
   refine RH.here fun hS4=>RH.on 4 rfl (V.bldS (cs:=[_,_]) st38 rfl rfl) hS4 ?_
   refine RH.st 5 (by kernel_rfl) rfl rfl sizeOf38 rfl rfl rfl rfl (by first|exact zJg rfl|(simp [Value.oneCell'];done)) (hm47.get 0 rfl) (by first|exact nbl rfl|(simp;done)) ?_;intro w49 m49 x49;have hm50:=(hm47.st 0 rfl x49 m49).nf [zAh _ _ [_,_],_,_] rfl;refine ⟨hm50.fr,?_⟩;refine RH.doneP (by kernel_rfl) ?_;have hm51:=hmo32.callAZ hm50;have hm52:=(hm51.pk [0,1,2]).nq;refine Rn.retG1 func142 rfl (rvC rfl isAgg38 sizeOf38 (hm52.get 0 rfl) rfl) ?_;obtain rfl:=zDt hM;exact ⟨(some ⟨b47,0,none⟩),(z37).length,F43_p0,rfl,hm52.pk [2,1]⟩
  have e53:=e37;refine RB.mkSlH (rep:=zAq) 3 hm32 e53 rfl rfl rfl underlying36 zau rfl (zs:=[zAl (0:UInt64)]) (by kernel_rfl) rfl rfl (fun _ _=>⟨rfl,trivial⟩) ?_;intro b53 w53 hm53 x53;refine ⟨hm53.fr,?_⟩;have e55:=e33;have hm56:=hm53.cu [0,2] [1];refine RH.cq (cK func141) 1 (m_histbits_reader_int_sim e55 hm56.lend :) ?_;rintro _ w55 ⟨F55_p0,rfl,hq55⟩;have hm58:=hm56.callAZ hq55;refine ⟨_,rfl,hm58.fr,?_⟩
  refine RH.here fun hS4=>RH.on 4 rfl (V.bldS (cs:=[_,_]) st38 rfl rfl) hS4 ?_
  refine RH.st 5 (by kernel_rfl) rfl rfl sizeOf38 rfl rfl rfl rfl (by first|exact zJg rfl|(simp [Value.oneCell'];done)) (hm58.get 0 rfl) (by first|exact nbl rfl|(simp;done)) ?_;intro w59 m59 x59;have hm60:=(hm58.st 0 rfl x59 m59).nf [zAh _ _ [_,_],_,_] rfl;refine ⟨hm60.fr,?_⟩;refine RH.doneP (by kernel_rfl) ?_;have hm61:=hmo32.callAZ hm60;have hm62:=(hm61.pk [0,1,2]).nq;refine Rn.retG1 func142 rfl (rvC rfl isAgg38 sizeOf38 (hm62.get 0 rfl) rfl) ?_;obtain rfl:=zDt hM;exact ⟨(some ⟨b53,0,none⟩),(z37).length,F55_p0,rfl,hm62.pk [1,2]⟩
 intro j1 hM hk1;refine aD hM (fun h63 hM=>?_) (fun h63 hM=>?_)
 ·refine gg 4 rfl ?_;obtain ⟨_,⟨F64_0,rfl⟩,hm64⟩:=hm13.unf 1 rfl;replace hm64:=hm64.nq;refine Rn.sq rfl sizeOf25 rfl rfl (hm64.get 1 rfl) ?_;intro w66 m66 x66;have hm67:=(hm64.st 1 rfl x66 m66).nf [_,zAh _ _ [_,_],_] rfl;refine gg 1 rfl ?_;have hm69:=hm67.cu [0] [1,2];obtain ⟨F68,hm68⟩:=hm69.fold (zA1.sh b0 p0_0 ({ r:=p5.2.r,e:=4 }:zA1)) ⟨F64_0,rfl⟩;exact hk1 (({ r:=p5.2.r,e:=4 }:zA1),F68) _ _ sA (hm68.pk [0,1]) hM
 refine gg 1 rfl ?_;exact hk1 (p5.2,F13) _ _ sA (hm13.pk [0,1]) hM
theorem m_histbits_reader_num_sim {p0_0:Nat} {x0:zA1} {r:(UInt64×zA1)} (hM:zD5 x0=some r) (hL:zIg Z0 w [zA1.obj F0 b0 p0_0 x0]) :
 Calls prog 143 #[pt b0 0] w fun x w'=>∃ F_p0,x=.returned (zAl r.1)∧Hp Z0 (LS [zA1.obj F0 b0 p0_0 x0]) w w' [zA1.obj F_p0 b0 p0_0 r.2]:=by
 have hm0:=hL.start;refine Rn.en func143 ?_;refine gg 10 rfl ?_;obtain ⟨_,⟨F2_0,rfl⟩,hm2⟩:=hm0.unf 0 rfl;replace hm2:=hm2.nq;refine Rn.q rfl (V.ldB isAgg25 rfl (hm2.get 0 rfl) rfl) (gg 2 rfl ?_);refine aD hM (fun h4 hM=>?_) (fun h4 hM=>?_)
 ·refine gg 4 rfl ?_;have hm6:=hm2.cu [] [0,1];obtain ⟨F5,hm5⟩:=hm6.fold (zA1.sh b0 p0_0 x0) ⟨F2_0,rfl⟩
  cases hM
  exact Rn.R1 func143 ⟨F5,rfl,hm5.pk [0]⟩
 refine gg 6 rfl (Rn.q rfl (V.ldB isAgg72 rfl (hm2.get 0 rfl) rfl) ?_);obtain ⟨p7,e7,hM⟩:=zAb hM;have hm8:=hm2.cu [0] [1]
 refine Rn.a1 (cK func135) (m_vary_Get_sim e7 hm8.lend :) hm8 fun F7_p0 w7 hm10=>?_
 refine gg 12 rfl (Rn.sq rfl sizeOf25 rfl rfl (hm10.get 0 rfl) ?_);intro w11 m11 x11;have hm12:=(hm10.st 0 rfl x11 m11).nf [zAh _ _ [_,_],_] rfl;refine gg 6 rfl ?_;have hm14:=hm12.cu [] [0,1];obtain ⟨F13,hm13⟩:=hm14.fold (zA1.sh b0 p0_0 ({ r:=p7.2.2,e:=p7.2.1 }:zA1)) ⟨F7_p0,rfl⟩
 cases hM
 exact Rn.R1 func143 ⟨F13,rfl,hm13.pk [0]⟩
end Go.Proofs.YthjhejgjcdajdaaGreatDoor
