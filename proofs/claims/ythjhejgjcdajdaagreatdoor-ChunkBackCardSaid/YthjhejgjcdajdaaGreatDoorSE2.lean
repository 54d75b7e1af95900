import Derived.Test.YthjhejgjcdajdaaGreatDoorRows
import Derived.Test.YthjhejgjcdajdaaGreatDoorVE2
import Derived.Test.YthjhejgjcdajdaaGreatDoorSE1
set_option maxRecDepth 20000
set_option maxHeartbeats 4000000
set_option linter.unusedVariables false
set_option linter.unusedSimpArgs false
namespace Go.Proofs.YthjhejgjcdajdaaGreatDoor
open Go Go.RowKit Go.Wk _root_.Go.Proofs.Tryz
open _root_.Go.Proofs.Tryz renaming underlying3→U3,underlying5→U5,underlying9→U9,underlying22→U22,underlying24→U24,underlying34→U34,underlying35→U35,underlying36→U36,underlying122→U122,underlying137→U137,underlying172→U172,isAgg3→V3,isAgg5→V5,isAgg9→V9,isAgg22→V22,isAgg25→V25,isAgg34→V34,isAgg35→V35,isAgg38→V38,isAgg40→V40,isAgg42→V42,isAgg44→V44,isAgg72→V72,isAgg76→V76,isAgg77→V77,isAgg78→V78,isAgg80→V80,isAgg118→V118,isAgg119→V119,isAgg139→V139,sizeOf3→O3,sizeOf5→O5,sizeOf22→O22,sizeOf25→O25,sizeOf34→O34,sizeOf38→O38,sizeOf40→O40,sizeOf42→O42,sizeOf44→O44,sizeOf80→O80,sizeOf118→O118,sizeOf119→O119,sizeOf139→O139
variable {Z0:Nat→Prop} {w:World} {F0:Nat→Prop} {F1:Nat→Prop} {F2:Nat→Prop} {F3:Nat→Prop} {F4:Nat→Prop} {F5:Nat→Prop} {b0:Nat} {b1:Nat} {b2:Nat} {b3:Nat} {b4:Nat} {b5:Nat} {A0:Option Addr} {A1:Option Addr} {A2:Option Addr} {A3:Option Addr} {A4:Option Addr} {A5:Option Addr} {c0:Nat} {c1:Nat} {c2:Nat} {c3:Nat} {c4:Nat} {c5:Nat} {cs0:List Value} {cs1:List Value} {cs2:List Value} {cs3:List Value}
theorem m_chunk_rows_put_sim {F0_ords:Nat→Prop} {b0_ords:Nat} {F0_times:Nat→Prop} {b0_times:Nat} {F0_spans:Nat→Prop} {b0_spans:Nat} {F0_ints:Nat→Prop} {b0_ints:Nat} {F0_re:Nat→Prop} {b0_re:Nat} {F0_im:Nat→Prop} {b0_im:Nat} {F0_hists:Nat→Prop} {b0_hists:Nat} {x0:zAp} {x1:zA3} {x2:Int} {x3:zA8} {r:(zA9×zA9×zA9×zA9×zAj×zAj×zA4×zA3)} (Y:zJ3 x0 x1 x2 x3=some r) (hL:zKt Z0 w [zA9.obj F0_ords b0_ords x0.ords,zA9.obj F0_times b0_times x0.times,zA9.obj F0_spans b0_spans x0.spans,zA9.obj F0_ints b0_ints x0.ints,zAj.obj F0_re b0_re x0.re,zAj.obj F0_im b0_im x0.im,zA4.obj F0_hists b0_hists x0.hists,zA3.obj F1 b1 x1,rdR 1 0 gl1,rdR 3 0 gl3,zTs zA8.rep cs3 x3]) :
 Calls prog 64 #[.agg [pt b0_ords 0,pt b0_times 0,pt b0_spans 0,pt b0_ints 0,pt b0_re 0,pt b0_im 0,pt b0_hists 0].toArray,pt b1 0,iv x2,.agg cs3.toArray] w λx w'=>∃ F_p0_ords F_p0_times F_p0_spans F_p0_ints F_p0_re F_p0_im F_p0_hists F_p1,x=.returned (.tuple #[])∧Hp Z0 (LS [zA9.obj F0_ords b0_ords x0.ords,zA9.obj F0_times b0_times x0.times,zA9.obj F0_spans b0_spans x0.spans,zA9.obj F0_ints b0_ints x0.ints,zAj.obj F0_re b0_re x0.re,zAj.obj F0_im b0_im x0.im,zA4.obj F0_hists b0_hists x0.hists,zA3.obj F1 b1 x1,rdR 1 0 gl1,rdR 3 0 gl3,zTs zA8.rep cs3 x3]) w w' [zA9.obj F_p0_ords b0_ords r.1,zA9.obj F_p0_times b0_times r.2.1,zA9.obj F_p0_spans b0_spans r.2.2.1,zA9.obj F_p0_ints b0_ints r.2.2.2.1,zAj.obj F_p0_re b0_re r.2.2.2.2.1,zAj.obj F_p0_im b0_im r.2.2.2.2.2.1,zA4.obj F_p0_hists b0_hists r.2.2.2.2.2.2.1,zA3.obj F_p1 b1 r.2.2.2.2.2.2.2]:=by
 have D0:=hL.start;have h3:=D0.get 10 rfl;obtain ⟨Ar9,cr9,Ar11,cr11,Ar13,cr13,rfl,fs9,fs11,fs13⟩:=zA8.relE h3;have D18:=Hp.knowL [slR Ar9 cr9 zA0.rep x3.Attrs,slR Ar11 cr11 zAq x3.Hist.Pos.Counts,slR Ar13 cr13 zAq x3.Hist.Neg.Counts] _ D0 (knC (λ_ h=>h) fs9 (knC (λ_ h=>h) fs11 (knC (λ_ h=>h) fs13 kn0)));refine eg func64 2 ?_;refine Rn.box rfl rfl rfl rfl rfl ?_;intro b19 w19 hb19 m19 e19;have D21:=(D18.addBox hb19 e19 m19).nf [_,_,_,_,_,_,_,_,_,_,_,_,_,_,zAi _ _ [_,_,_,_,_,_,_]] rfl;refine Rn.box rfl rfl rfl rfl rfl ?_;intro b22 w22 hb22 m22 e22;have D24:=(D21.addBox hb22 e22 m22).nf [_,_,_,_,_,_,_,_,_,_,_,_,_,_,_,zAi _ _ [_,_,_,_,_,_,_,_,_,_,_,_,_,_,_,_,_]] rfl;refine gg 4 rfl (Rn.q rfl (V.ldB V76 rfl (D24.get 14 rfl) rfl) (gg 2 rfl ?_));obtain ⟨_,rfl,D26⟩:=D24.unf 0 rfl;replace D26:=D26.nq;obtain ⟨p25,e25,Y⟩:=zA7 Y;have D27:=D26.cu [0,1,2,3,4,5,7,8,9,10,11,12,13,14] [15,6]
 refine Rn.a1 (cK func121) (m_vary_Row_Put_sim e25 D27.lend :) D27 λF25_p1 w25 D30=>?_
 refine gg 4 rfl (Rn.q rfl (V.ldB V76 rfl (D30.get 12 rfl) rfl) (gg 2 rfl (Rn.q rfl (V.ldB V3 rfl (D30.get 13 rfl) rfl) ?_)));obtain ⟨_,rfl,D32⟩:=D30.unf 0 rfl;replace D32:=D32.nq;obtain ⟨p31,e31,Y⟩:=zA7 Y;have D33:=D32.cu [0,1,2,3,4,5,6,7,8,9,10,11,12,14] [15,13]
 refine Rn.a1 (cK func121) (m_vary_Row_Put_sim e31 D33.lend :) D33 λF31_p1 w31 D36=>?_
 refine gg 5 rfl (Rn.q rfl (V.ldB V3 rfl (D36.get 12 rfl) rfl) (gg 2 rfl ?_));refine Rn.jG D0 Y (G:=zA9×zA3×(Nat→Prop)×(Nat→Prop)×(Nat→Prop)×(Nat→Prop)×(Nat→Prop)×(Nat→Prop)) (λg=>[(1,pt b1 0),(4,pt b19 0),(7,pt b22 0)]) (λg=>[zA9.obj (g.2.2.1) b0_ints x0.ints,zAj.obj (g.2.2.2.1) b0_re x0.re,zAj.obj (g.2.2.2.2.1) b0_im x0.im,zA4.obj (g.2.2.2.2.2.1) b0_hists x0.hists,rdR 1 0 gl1,rdR 3 0 gl3,slR Ar9 cr9 zA0.rep x3.Attrs,slR Ar11 cr11 zAq x3.Hist.Pos.Counts,slR Ar13 cr13 zAq x3.Hist.Neg.Counts,zAi b19 80 [pt b0_ords 0,pt b0_times 0,pt b0_spans 0,pt b0_ints 0,pt b0_re 0,pt b0_im 0,pt b0_hists 0],zAi b22 42 [Str (x3.Name),.slice Ar9 (x3.Attrs).length cr9,iv x3.Kind,iv x3.Temp,.bool (x3.Mono),iv x3.Start,iv x3.Time,iv x3.Int_,zAn x3.Re,zAn x3.Im,iv x3.Hist.Scale,zAn x3.Hist.Zero,iv x3.Hist.Pos.Offset,.slice Ar11 (x3.Hist.Pos.Counts).length cr11,iv x3.Hist.Neg.Offset,.slice Ar13 (x3.Hist.Neg.Counts).length cr13,iv x3.Flags],zAi b0_ords 186 [iv p25.2.n,zAn p25.2.last,zAn p25.2.step],zAi b0_times 186 [iv p31.2.n,zAn p31.2.last,zAn p31.2.step],zA9.obj (g.2.2.2.2.2.2.1) b0_spans (g.1),zA3.obj (g.2.2.2.2.2.2.2) b1 (g.2.1)]) (λj g=>j g.1 g.2.1) ?_ ?_
 ·rintro ⟨y41,y42,F37,F38,F39,F40,F41,F42⟩ w43 D43 Y
  try dsimp only at Y
  refine gg 4 rfl (Rn.q rfl (V.ldB V3 rfl (D43.get 10 rfl) rfl) (Rn.q rfl (V.cv64 U3 U35 rfl) ?_));obtain ⟨p44,e44,Y⟩:=zA7 Y;have D45:=D43.cu [0,1,2,3,4,5,6,7,8,9,10,11,12,13] [14]
  refine Rn.a1 (cK func122) (m_vary_Put_sim e44 D45.lend :) D45 λF44_p0 w44 D47=>?_
  refine gg 4 rfl (Rn.q rfl (V.ldB V3 rfl (D47.get 10 rfl) rfl) (gg 7 rfl ?_));refine bD Y 2 5 (λh48 Y=>?_) (λh48 Y=>?_)
  ·refine Rn.q rfl (V.ldB V76 rfl (D47.get 9 rfl) rfl) (gg 2 rfl (Rn.q rfl (V.ldB V3 rfl (D47.get 10 rfl) rfl) ?_));obtain ⟨_,rfl,D50⟩:=D47.unf 0 rfl;replace D50:=D50.nq;obtain ⟨p49,e49,Y⟩:=zA7 Y;have D51:=D50.cu [0,1,2,3,4,5,6,7,8,9,10,11,12] [14,13]
   refine Rn.a1 (cK func121) (m_vary_Row_Put_sim e49 D51.lend :) D51 λF49_p1 w49 D54=>?_
   refine gg 2 rfl ?_;have D56:=D54.cu [0,1,2,3,4,5,6,7,8,9,11,12,13,14] [10];obtain ⟨F55,D55⟩:=D56.fold (zA9.sh b0_ords p25.2) rfl;have D58:=D55.cu [0,1,2,3,4,5,6,7,8,9,11,12,13,14] [10];obtain ⟨F57,D57⟩:=D58.fold (zA9.sh b0_times p31.2) rfl;have D60:=D57.cu [0,1,2,3,4,5,6,7,8,9,10,11,13,14] [12];obtain ⟨F59,D59⟩:=D60.fold (zA9.sh b0_ints p49.2) rfl;refine Rn.end0 func64 rfl ?_;obtain rfl:=zF3 Y;exact ⟨F55,F57,F41,F59,F38,F39,F40,F49_p1,rfl,D59.pk [12,13,10,14,0,1,2,11]⟩
  refine bD Y 2 5 (λh61 Y=>?_) (λh61 Y=>?_)
  ·refine Rn.q rfl (V.ldB V78 rfl (D47.get 9 rfl) rfl) (gg 2 rfl (Rn.q rfl (V.ldBA [_,_,_,_,_,_] V40 O40 rfl (D47.get 10 rfl) rfl rfl) ?_));obtain ⟨p62,e62,Y⟩:=zA7 Y;have D63:=D47.know (zTs zA2.rep [iv x3.Hist.Scale,zAn x3.Hist.Zero,iv x3.Hist.Pos.Offset,.slice Ar11 (x3.Hist.Pos.Counts).length cr11,iv x3.Hist.Neg.Offset,.slice Ar13 (x3.Hist.Neg.Counts).length cr13] x3.Hist) (λ_ h=>h) (show zA2.rep.rel _ _ _ _ from ⟨_,_,rfl,⟨rfl,trivial⟩,⟨_,_,rfl,⟨rfl,trivial⟩,⟨_,_,rfl,⟨_,_,rfl,⟨rfl,trivial⟩,⟨_,_,rfl,(D47.get 7 rfl).1,(D47.get 7 rfl).2.1,(D47.get 7 rfl).2.2⟩⟩,⟨_,_,rfl,⟨rfl,trivial⟩,⟨_,_,rfl,(D47.get 8 rfl).1,(D47.get 8 rfl).2.1,(D47.get 8 rfl).2.2⟩⟩⟩⟩⟩);have D65:=D63.cu [0,1,2,4,5,6,7,8,9,10,11,12,13] [3,14,15]
   refine Rn.c2 (cK func123) (m_histbits_Row_Put_sim e62 D65.lend :) λF62_p0 F62_p1 w62 Q62=>?_
   have D68:=D65.callAZ Q62;refine gg 2 rfl ?_;have D70:=D68.cu [0,1,2,3,4,5,6,7,8,9,11,12,13,14] [10];obtain ⟨F69,D69⟩:=D70.fold (zA9.sh b0_ords p25.2) rfl;have D72:=D69.cu [0,1,2,3,4,5,6,7,8,9,11,12,13,14] [10];obtain ⟨F71,D71⟩:=D72.fold (zA9.sh b0_times p31.2) rfl;refine Rn.end0 func64 rfl ?_;obtain rfl:=zF3 Y;exact ⟨F69,F71,F41,F37,F38,F39,F62_p0,F62_p1,rfl,D71.pk [13,14,10,0,1,2,11,12]⟩
  refine bD Y 3 2 (λh73 Y=>?_) (λh73 Y=>?_)
  ·refine Rn.q rfl (V.ldB V77 rfl (D47.get 9 rfl) rfl) (gg 2 rfl (Rn.q rfl (V.ldB V35 rfl (D47.get 10 rfl) rfl) ?_));obtain ⟨_,rfl,D75⟩:=D47.unf 1 rfl;replace D75:=D75.nq;obtain ⟨p74,e74,Y⟩:=zA7 Y;have D76:=D75.dup 3 rfl (λ_ h=>h);have D78:=D76.dup 4 rfl (λ_ h=>h);have D80:=D78.cu [0,1,2,3,4,5,6,7,8,9,10,11,12] [14,13,15,16]
   refine Rn.a1 (cK func124) (m_xor_Row_Put_sim e74 D80.lend :) D80 λF74_p1 w74 D83=>?_
   refine gg 3 rfl (Rn.q rfl (V.ldB V77 rfl (D83.get 8 rfl) rfl) (gg 2 rfl (Rn.q rfl (V.ldB V35 rfl (D83.get 9 rfl) rfl) ?_)));obtain ⟨_,rfl,D85⟩:=D83.unf 1 rfl;replace D85:=D85.nq;obtain ⟨p84,e84,Y⟩:=zA7 Y;have D86:=D85.dup 2 rfl (λ_ h=>h);have D88:=D86.dup 3 rfl (λ_ h=>h);have D90:=D88.cu [0,1,2,3,4,5,6,7,8,9,10,11,13] [14,12,15,16]
   refine Rn.a1 (cK func124) (m_xor_Row_Put_sim e84 D90.lend :) D90 λF84_p1 w84 D93=>?_
   refine gg 2 rfl ?_;have D95:=D93.cu [0,1,2,3,4,5,6,7,8,10,11,12,13,14] [9];obtain ⟨F94,D94⟩:=D95.fold (zA9.sh b0_ords p25.2) rfl;have D97:=D94.cu [0,1,2,3,4,5,6,7,8,10,11,12,13,14] [9];obtain ⟨F96,D96⟩:=D97.fold (zA9.sh b0_times p31.2) rfl;have D99:=D96.cu [0,1,2,3,4,5,6,7,8,9,11,12,13,14] [10];obtain ⟨F98,D98⟩:=D99.fold (zAj.sh b0_re p74.2) rfl;have D101:=D98.cu [0,1,2,3,4,5,6,7,8,9,10,12,13,14] [11];obtain ⟨F100,D100⟩:=D101.fold (zAj.sh b0_im p84.2) rfl;refine Rn.end0 func64 rfl ?_;obtain rfl:=zF3 Y;exact ⟨F94,F96,F41,F37,F98,F100,F40,F84_p1,rfl,D100.pk [11,12,9,0,13,14,1,10]⟩
  refine Rn.q rfl (V.ldB V77 rfl (D47.get 9 rfl) rfl) (gg 2 rfl (Rn.q rfl (V.ldB V35 rfl (D47.get 10 rfl) rfl) ?_));obtain ⟨_,rfl,D103⟩:=D47.unf 1 rfl;replace D103:=D103.nq;obtain ⟨p102,e102,Y⟩:=zA7 Y;have D104:=D103.dup 3 rfl (λ_ h=>h);have D106:=D104.dup 4 rfl (λ_ h=>h);have D108:=D106.cu [0,1,2,3,4,5,6,7,8,9,10,11,12] [14,13,15,16]
  refine Rn.a1 (cK func124) (m_xor_Row_Put_sim e102 D108.lend :) D108 λF102_p1 w102 D111=>?_
  refine gg 2 rfl ?_;have D113:=D111.cu [0,1,2,3,4,5,6,7,8,9,11,12,13,14] [10];obtain ⟨F112,D112⟩:=D113.fold (zA9.sh b0_ords p25.2) rfl;have D115:=D112.cu [0,1,2,3,4,5,6,7,8,9,11,12,13,14] [10];obtain ⟨F114,D114⟩:=D115.fold (zA9.sh b0_times p31.2) rfl;have D117:=D114.cu [0,1,2,3,4,5,6,7,8,9,10,11,13,14] [12];obtain ⟨F116,D116⟩:=D117.fold (zAj.sh b0_re p102.2) rfl;refine Rn.end0 func64 rfl ?_;obtain rfl:=zF3 Y;exact ⟨F112,F114,F41,F37,F116,F39,F40,F102_p1,rfl,D116.pk [12,13,10,0,14,1,2,11]⟩
 intro j1 Y K1;refine bD Y 2 1 (λh118 Y=>?_) (λh118 Y=>?_)
 ·refine Rn.q rfl (V.ldB V76 rfl (D36.get 11 rfl) rfl) (gg 2 rfl (Rn.q rfl (V.ldB V3 rfl (D36.get 12 rfl) rfl) (gg 1 rfl (Rn.q rfl (V.ldB V3 rfl (D36.get 12 rfl) rfl) (gg 1 rfl ?_)))));obtain ⟨_,rfl,D120⟩:=D36.unf 0 rfl;replace D120:=D120.nq;obtain ⟨p119,e119,Y⟩:=zA7 Y;have D121:=D120.cu [0,1,2,3,4,5,6,7,8,9,10,11,12,14] [15,13]
  refine Rn.a1 (cK func121) (m_vary_Row_Put_sim e119 D121.lend :) D121 λF119_p1 w119 D124=>?_
  refine gg 1 rfl ?_;have D126:=D124.cu [0,1,2,3,4,5,6,7,8,9,10,11,12,13,14] [15];obtain ⟨F125,D125⟩:=D126.fold (zA9.sh b0_spans p119.2) rfl;exact K1 (p119.2,p119.1,F0_ints,F0_re,F0_im,F0_hists,F125,F119_p1) _ _ sA (D125.pk [0,1,2,3,4,5,7,8,9,10,11,12,13,15,14]) Y
 exact K1 (x0.spans,p31.1,F0_ints,F0_re,F0_im,F0_hists,F0_spans,F31_p1) _ _ sA (D36.pk [1,2,3,4,5,6,8,9,10,11,12,13,15,0,14]) Y
theorem zP3  {r:zAe} (Y:zKx  = some r)  :
 Calls prog 125 #[] w λx w'=>∃ F_0 b_0,x=.returned (pt b_0 0)∧Hp Z0 No w w' [zAe.obj F_0 b_0 r]:=by
 have D0:=Hp.nil Z0 No w;have hc0:=Calm.nil;refine eg func125 6 ?_;refine Rn.q rfl (V.bldS (cs:=[_]) st179 rfl rfl) (Rn.box rfl rfl rfl rfl rfl ?_);intro b1 w1 hb1 m1 e1;have D3:=(D0.addBox hb1 e1 m1).nf [zAi _ _ [_]] rfl;refine gg 2 rfl ?_;have D4:=D3.addNil 5 zBu;have D7:=D4.cu [] [0,1];obtain ⟨F6,D6⟩:=D7.fold (zAe.sh b1 (⟨([]:List UInt8)⟩:zAe)) ⟨none,0,rfl⟩
 cases Y
 exact Rn.R1 func125 ⟨F6,b1,rfl,D6.pk [0]⟩
theorem zN4 {x0:UInt64} {r:Int} (Y:zJi x0=some r)  :
 Calls prog 133 #[zAn x0] w λx w'=>x=.returned (iv r)∧Hp Z0 No w w' []:=by
 have D0:=Hp.nil Z0 No w;have hc0:=Calm.nil;refine eg func133 7 ?_;obtain ⟨p1,e1,Y⟩:=zA7 Y
 refine Rn.c0 (cK func191) (zKj (Z0:=All) e1  :) D0 λw1 _ D2=>?_
 refine gg 8 rfl ?_;refine bD Y 4 5 (λh3 Y=>?_) (λh3 Y=>?_)
 ·cases Y
  exact Rn.R1 func133 ⟨rfl,D2.pk []⟩
 refine Rn.q rfl (V.maxi rfl rfl) ?_;obtain ⟨z4,e4,Y⟩:=zA7 Y;refine Rn.q rfl (V.quoZ rfl rfl e4) (gg 2 rfl ?_)
 cases Y
 exact Rn.R1 func133 ⟨rfl,D2.pk []⟩
theorem m_pack_Writer_Num_sim {x0:zAe} {x1:UInt64} {r:zAe} (Y:zG3 x0 x1=some r) (hL:zKt Z0 w [zAe.obj F0 b0 x0]) :
 Calls prog 127 #[pt b0 0,zAn x1] w λx w'=>∃ F_p0,x=.returned (.tuple #[])∧Hp Z0 (LS [zAe.obj F0 b0 x0]) w w' [zAe.obj F_p0 b0 r]:=by
 have D0:=hL.start;refine eg func127 3 ?_;obtain ⟨p2,e2,Y⟩:=zA7 Y
 refine Rn.c0 (cK func133) (zN4 (Z0:=All) e2  :) D0 λw2 _ D3=>?_
 refine gg 6 rfl (Rn.q rfl (V.cv64 U3 U137 rfl) (Rn.q rfl (V.shl8 (a:=(255:UInt8)) (m:=(zAf (W64 (8-p2))).toNat) rfl rfl) (gg 8 rfl ?_)));refine Rn.jG D0 Y (G:=UInt8×(Nat→Prop)) (λg=>[(0,pt b0 0),(1,zAn x1),(4,iv p2),(5,u8v (g.1))]) (λg=>[zAe.obj (g.2) b0 x0]) (λj g=>j g.1) ?_ ?_
 ·rintro ⟨y5,F4⟩ w6 D6 Y
  try dsimp only at Y
  refine gg 6 rfl ?_;obtain ⟨_,⟨A7_0,c7_0,rfl⟩,D7⟩:=D6.unf 0 rfl;replace D7:=D7.nq;refine Rn.q rfl (V.ldB V22 rfl (D7.get 0 rfl) rfl) (gg 1 rfl ?_);obtain ⟨z9,e9,Y⟩:=zA7 Y;refine Rn.pushH (z:=y5) (vs:=[u8v y5]) D7 1 rfl e9 rfl rfl rfl rfl U22 el5 rfl rfl rfl rfl (λ_=>rfl) (⟨rfl,trivial⟩) ?_;intro A9 c9 w9 u9 D9;refine gg 2 rfl (Rn.sq rfl O22 rfl rfl (D9.get 0 rfl) ?_);intro w11 m11 x11;have D12:=(D9.st 0 rfl x11 m11).nf [zAi _ _ [_],_] rfl;refine gg 1 rfl ?_;have D14:=D12.cu [] [0,1];obtain ⟨F13,D13⟩:=D14.fold (zAe.sh b0 (⟨z9⟩:zAe)) ⟨A9,c9,rfl⟩;refine Rn.jG D0 Y (G:=zAe×(Nat→Prop)) (λg=>[]) (λg=>[zAe.obj (g.2) b0 (g.1)]) (λj g=>j g.1) ?_ ?_
  ·rintro ⟨y15,F15⟩ w16 D16 Y
   try dsimp only at Y
   refine Rn.end0 func127 rfl ?_;obtain rfl:=zF3 Y;exact ⟨F15,rfl,D16.pk [0]⟩
  intro j2 Y K2;refine gg 1 rfl ?_;refine Rn.loopF (G:=Int×zAe×(Nat→Prop)) (λg=>[(0,pt b0 0),(1,zAn x1),(4,iv (g.1))]) (λg w'=>Hp Z0 (LS [zAe.obj F0 b0 x0]) w w' [zAe.obj (g.2.2) b0 (g.2.1)]) (λn g=>zD6 x1 j2 n g.1 g.2.1) fuel (p2,(⟨z9⟩:zAe),F13) sA (D13.pk [0]) Y (λ_=>rfl) ?_;clear Y;rintro m19 ⟨y17,y18,F18⟩ w19 D19 Y N19;replace Y:zD6 x1 j2 (m19+1) y17 y18=some r:=Y;rw [zD6] at Y;refine gg 6 rfl ?_;refine bD Y 8 1 (λh20 Y=>?_) (λh20 Y=>?_)
  ·obtain ⟨_,⟨A21_0,c21_0,rfl⟩,D21⟩:=D19.unf 0 rfl;replace D21:=D21.nq;refine Rn.q rfl (V.ldB V22 rfl (D21.get 0 rfl) rfl) (gg 4 rfl (Rn.q rfl (V.cv64 U3 U137 rfl) (Rn.q rfl (V.shr64 (a:=x1) (m:=(zAf (W64 ((W64 (8*y17))-8))).toNat) rfl rfl) (Rn.q rfl (V.cv8 U35 U5 rfl) ?_))));obtain ⟨z23,e23,Y⟩:=zA7 Y;refine Rn.pushH (z:=toU8 ((shr64 x1 ((zAf (W64 ((W64 (8*y17))-8))).toNat)).toNat:Int)) (vs:=[u8v (toU8 ((shr64 x1 ((zAf (W64 ((W64 (8*y17))-8))).toNat)).toNat:Int))]) D21 1 rfl e23 rfl rfl rfl rfl U22 el5 rfl rfl rfl rfl (λ_=>rfl) (⟨rfl,trivial⟩) ?_;intro A23 c23 w23 u23 D23;refine gg 2 rfl (Rn.sq rfl O22 rfl rfl (D23.get 0 rfl) ?_);intro w25 m25 x25;have D26:=(D23.st 0 rfl x25 m25).nf [zAi _ _ [_],_] rfl;refine gg 7 rfl ?_;have D28:=D26.cu [] [0,1];obtain ⟨F27,D27⟩:=D28.fold (zAe.sh b0 (⟨z23⟩:zAe)) ⟨A23,c23,rfl⟩;exact N19 ((W64 (y17-1)),(⟨z23⟩:zAe),F27) _ _ sA (D27.pk [0]) Y
  exact K2 (y18,F18) _ _ (sb trivial) (D19.pk [0]) Y
 intro j1 Y K1;refine bD Y 5 1 (λh29 Y=>?_) (λh29 Y=>?_)
 ·refine Rn.q rfl (V.cv64 U3 U137 rfl) (Rn.q rfl (V.shr64 (a:=x1) (m:=(zAf (W64 (8*p2))).toNat) rfl rfl) (Rn.q rfl (V.cv8 U35 U5 rfl) (Rn.q rfl (V.or8 (a:=shl8 (255:UInt8) ((zAf (W64 (8-p2))).toNat)) (b:=toU8 ((shr64 x1 ((zAf (W64 (8*p2))).toNat)).toNat:Int)) rfl rfl) (gg 2 rfl ?_))));exact K1 (((shl8 (255:UInt8) ((zAf (W64 (8-p2))).toNat))|||(toU8 ((shr64 x1 ((zAf (W64 (8*p2))).toNat)).toNat:Int))),F0) _ _ sA (D3.pk [0]) Y
 exact K1 ((shl8 (255:UInt8) ((zAf (W64 (8-p2))).toNat)),F0) _ _ sA (D3.pk [0]) Y
theorem m_pack_Writer_Text_sim {x0:zAe} {x1:(List UInt8)} {r:zAe} (Y:zHv x0 x1=some r) (hL:zKt Z0 w [zAe.obj F0 b0 x0]) :
 Calls prog 126 #[pt b0 0,Str (x1)] w λx w'=>∃ F_p0,x=.returned (.tuple #[])∧Hp Z0 (LS [zAe.obj F0 b0 x0]) w w' [zAe.obj F_p0 b0 r]:=by
 have D0:=hL.start;refine eg func126 4 ?_;refine Rn.q rfl (V.lenS U9 rfl) (Rn.q rfl (V.cv64 U3 U35 rfl) ?_);obtain ⟨p2,e2,Y⟩:=zA7 Y;have D3:=D0.cu [] [0]
 refine Rn.a1 (cK func127) (m_pack_Writer_Num_sim e2 D3.lend :) D3 λF2_p0 w2 D5=>?_
 refine gg 6 rfl ?_;obtain ⟨_,⟨A6_0,c6_0,rfl⟩,D6⟩:=D5.unf 0 rfl;replace D6:=D6.nq;refine Rn.q rfl (V.ldB V22 rfl (D6.get 0 rfl) rfl) (gg 1 rfl ?_);obtain ⟨z8,e8,Y⟩:=zA7 Y;refine Rn.appSH D6 1 rfl e8 rfl rfl rfl U22 U9 el5 rfl rfl rfl ?_;intro A8 c8 w8 D8;refine gg 2 rfl (Rn.sq rfl O22 rfl rfl (D8.get 0 rfl) ?_);intro w10 m10 x10;have D11:=(D8.st 0 rfl x10 m10).nf [zAi _ _ [_],_] rfl;refine gg 1 rfl ?_;have D13:=D11.cu [] [0,1];obtain ⟨F12,D12⟩:=D13.fold (zAe.sh b0 (⟨z8⟩:zAe)) ⟨A8,c8,rfl⟩;refine Rn.end0 func126 rfl ?_;obtain rfl:=zF3 Y;exact ⟨F12,rfl,D12.pk [0]⟩
theorem zJw {x0:zAg} {r:zAe} (Y:zGy x0=some r) (f0:(fzR (zAg.obj F0 b0 x0)).H Z0 w) :
 Calls prog 66 #[pt b0 0] w λx w'=>∃ F_0 b_0,x=.returned (pt b_0 0)∧Hp Z0 No w w' [zAe.obj F_0 b_0 r]:=by
 obtain ⟨D0,D2,hc0⟩:=knA f0;refine eg func66 6 ?_;obtain ⟨p3,e3,Y⟩:=zA7 Y
 refine Rn.c2 (cK func125) (zP3 (Z0:=All) e3  :) λF3_0 b3_0 w3 Q3=>?_
 have D5:=D2.callF (flC ((zAe.oflat _ _ _)) fl0) Q3;refine gg 8 rfl ?_;obtain ⟨_,⟨F6_0,b6_0,F6_1,b6_1,F6_2,b6_2,F6_3,b6_3,F6_4,b6_4,F6_5,b6_5,F6_6,b6_6,F6_7,b6_7,rfl⟩,D6⟩:=D5.unfz 0 rfl;replace D6:=D6.nq;refine Rn.q rfl (V.ldB V9 rfl (D6.getz 2 rfl) rfl) ?_;obtain ⟨p16,e16,Y⟩:=zA7 Y;have D17:=D6.cu [0,2,3,4,5,6,7,8,9,10] [1]
 refine Rn.a1 (cK func126) (m_pack_Writer_Text_sim e16 D17.lend :) D17 λF16_p0 w16 D19=>?_
 refine gg 7 rfl (Rn.q rfl (V.ldB V3 rfl (D19.getz 1 rfl) rfl) (Rn.q rfl (V.cv64 U3 U35 rfl) ?_));obtain ⟨p20,e20,Y⟩:=zA7 Y;have D21:=D19.cu [0,1,2,3,4,5,6,7,8,9] [10]
 refine Rn.a1 (cK func127) (m_pack_Writer_Num_sim e20 D21.lend :) D21 λF20_p0 w20 D23=>?_
 refine gg 7 rfl (Rn.q rfl (V.ldB V119 rfl (D23.getz 1 rfl) rfl) ?_);obtain ⟨p24,e24,Y⟩:=zA7 Y
 refine Rn.c0 (cK func62) (zGm (Z0:=All) e24 (zU0 (D23.get 2 rfl)) :) D23 λw24 _ D25=>?_
 replace D25:=D25.nq;refine Rn.q rfl (V.cv64 U3 U35 rfl) ?_;obtain ⟨p26,e26,Y⟩:=zA7 Y;have D27:=D25.cu [0,1,2,3,4,5,6,7,8,9] [10]
 refine Rn.a1 (cK func127) (m_pack_Writer_Num_sim e26 D27.lend :) D27 λF26_p0 w26 D29=>?_
 refine gg 6 rfl ?_
 cases Y
 exact Rn.R1 func66 ⟨F26_p0,b3_0,rfl,D29.pk [10]⟩
theorem zOj {x0:zAe} {r:Int} (Y:zK2 x0=some r) (f0:(fzR (zAe.obj F0 b0 x0)).H Z0 w) :
 Calls prog 74 #[pt b0 0] w λx w'=>x=.returned (iv r)∧Hp Z0 No w w' []:=by
 obtain ⟨D0,D2,hc0⟩:=knA f0;refine eg func74 9 ?_;obtain ⟨_,⟨A3_0,c3_0,rfl⟩,D3⟩:=D2.unfz 0 rfl;replace D3:=D3.nq;have D7:=D3.fzSl 2 rfl;refine Rn.q rfl (V.ldB V22 rfl (D7.getz 1 rfl) rfl) (Rn.q rfl (V.lenV U22 rfl) (gg 2 rfl ?_))
 cases Y
 exact Rn.R1 func74 ⟨rfl,D7.pk []⟩
theorem zO6 {x0:zAg} {r:Int} (Y:zI x0=some r) (f0:(fzR (zAg.obj F0 b0 x0)).H Z0 w) :
 Calls prog 30 #[pt b0 0] w λx w'=>x=.returned (iv r)∧Hp Z0 No w w' []:=by
 obtain ⟨D0,D2,hc0⟩:=knA f0;refine eg func30 5 ?_;obtain ⟨_,⟨F4_0,b4_0,F4_1,b4_1,F4_2,b4_2,F4_3,b4_3,F4_4,b4_4,F4_5,b4_5,F4_6,b4_6,F4_7,b4_7,rfl⟩,D4⟩:=D2.unfz 0 rfl;replace D4:=D4.nq;refine Rn.drawH rfl D4 ?_;intro w3 D3;refine dq [0,3,4,5] ?_;refine RH.tk 6 rfl (λw' hDr=>V.ldB V119 rfl ((D3.ext hDr).getz 1 rfl) rfl) ?_;obtain ⟨p14,e14,Y⟩:=zA7 Y;refine RH.cq (cK func66) 1 (zJw (Z0:=All) e14 (zU0 (D3.get 0 rfl)) :) ?_;rintro _ w14 ⟨F14_0,b14_0,rfl,Q14⟩;refine ⟨_,rfl,((Ext.refl _).trans Q14.fr),?_⟩;have D16:=D3.callF (flC ((zAe.oflat _ _ _)) fl0) Q14;obtain ⟨p17,e17,Y⟩:=zA7 Y;refine RH.cq (cK func74) 2 (zOj (Z0:=All) e17 (zD8 (D16.get 10 rfl)) :) ?_;rintro _ w17 ⟨rfl,Q17⟩;refine ⟨_,rfl,(((Ext.refl _).trans Q14.fr).trans Q17.fr),?_⟩;have D18:=D16.call0 Q17;obtain ⟨p19,e19,Y⟩:=zA7 Y;refine RH.cq (cK func62) 7 (zGm (Z0:=All) e19 (zU0 (D18.get 2 rfl)) :) ?_;rintro _ w19 ⟨rfl,Q19⟩;refine ⟨_,rfl,((((Ext.refl _).trans Q14.fr).trans Q17.fr).trans Q19.fr),?_⟩;have D20:=D18.call0 Q19;refine dq [8] ?_;obtain ⟨z21,e21,Y⟩:=zA7 Y;refine RH.ho 9 rfl (V.quoZ rfl rfl e21) ?_;refine dq [10,11] ?_;refine RH.dn ?_
 cases Y
 exact Rn.R1 func30 ⟨rfl,D20.pk []⟩
theorem m_bitio_Writer_Cut_sim {x0:zA3} {x1:Int} {r:(Bool×zA3)} (Y:zI0 x0 x1=some r) (hL:zKt Z0 w [zA3.obj F0 b0 x0]) :
 Calls prog 65 #[pt b0 0,iv x1] w λx w'=>∃ F_p0,x=.returned (.bool (r.1))∧Hp Z0 (LS [zA3.obj F0 b0 x0]) w w' [zA3.obj F_p0 b0 r.2]:=by
 have D0:=hL.start;refine eg func65 10 ?_;refine Rn.jR D0 Y (G:=Bool×(Nat→Prop)) [] (λg=>[(0,pt b0 0),(1,iv x1),(15,.bool ((g.1)))]) (λg=>[zA3.obj (g.2) b0 x0]) (λj g=>j g.1) ?_ ?_
 ·rintro ⟨y5,F4⟩ w6 D6 Y
  try dsimp only at Y
  refine gg 1 rfl ?_;refine bS Y 4 7 (λh7 Y=>?_) (λh7 Y=>?_)
  ·cases Y
   exact Rn.R1 func65 ⟨F4,rfl,D6.pk [0]⟩
  obtain ⟨_,⟨A8_0,c8_0,rfl⟩,D8⟩:=D6.unf 0 rfl;replace D8:=D8.nq;refine Rn.q rfl (V.ldB V22 rfl (D8.get 0 rfl) rfl) (gg 2 rfl ?_);obtain ⟨z10,e10,Y⟩:=zA7 Y;refine Rn.q rfl (V.quoZ rfl rfl e10) ?_;obtain ⟨z11,e11,Y⟩:=zA7 Y;refine Rn.cutOH D8 1 rfl e11 rfl rfl rfl rfl U22 O5 rfl rfl rfl rfl rfl ?_;intro D11;have D13:=D11.nq;refine gg 2 rfl (Rn.sq rfl O22 rfl rfl (D13.get 0 rfl) ?_);intro w14 m14 x14;have D15:=(D13.st 0 rfl x14 m14).nf [zAi _ _ [_,_],_] rfl;refine gg 5 rfl ?_;obtain ⟨z16,e16,Y⟩:=zA7 Y;refine Rn.q rfl (V.remZ rfl rfl e16) (gg 7 rfl ?_);have D18:=D15.cu [] [0,1];obtain ⟨F17,D17⟩:=D18.fold (zA3.sh b0 (⟨z11,x0.n⟩:zA3)) ⟨A8_0,c8_0,rfl⟩;refine Rn.jG D0 Y (G:=zA3×(Nat→Prop)) (λg=>[(0,pt b0 0),(1,iv x1)]) (λg=>[zA3.obj (g.2) b0 (g.1)]) (λj g=>j g.1) ?_ ?_
  ·rintro ⟨y19,F19⟩ w20 D20 Y
   try dsimp only at Y
   refine gg 6 rfl ?_;obtain ⟨_,⟨A21_0,c21_0,rfl⟩,D21⟩:=D20.unf 0 rfl;replace D21:=D21.nq;refine Rn.sq rfl O3 rfl rfl (D21.get 0 rfl) ?_;intro w23 m23 x23;have D24:=(D21.st 0 rfl x23 m23).nf [zAi _ _ [_,_],_] rfl;refine gg 5 rfl ?_;have D26:=D24.cu [] [0,1];obtain ⟨F25,D25⟩:=D26.fold (zA3.sh b0 (⟨y19.b,x1⟩:zA3)) ⟨A21_0,c21_0,rfl⟩
   cases Y
   exact Rn.R1 func65 ⟨F25,rfl,D25.pk [0]⟩
  intro j2 Y K2;refine aD Y (λh27 Y=>?_) (λh27 Y=>?_)
  ·refine Rn.drawT 18 rfl D17 (by kernel_rfl) ?_;intro w28 D28;refine RT.vv 0 rfl (V.mv rfl) ?_;refine RT.vv 1 rfl (V.nil rfl) ?_;refine RT.vv 2 rfl (V.fa U172 rfl O22 rfl rfl) ?_;obtain ⟨_,⟨A29_0,c29_0,rfl⟩,D29⟩:=D28.unf 0 rfl;replace D29:=D29.nq;refine RT.vv 3 rfl (V.ldB V22 rfl (D29.get 0 rfl) rfl) ?_;refine RT.vv 4 rfl (V.mv rfl) ?_;refine RT.vv 5 rfl (V.nil rfl) ?_;refine RT.vv 6 rfl (V.fa U172 rfl O22 rfl rfl) ?_;refine RT.vv 7 rfl (V.ldB V22 rfl (D29.get 0 rfl) rfl) ?_;refine RT.vv 8 rfl (V.lenV U22 rfl) ?_;refine RT.vv 9 rfl (V.subW rfl rfl) ?_;obtain ⟨z31,e31,Y⟩:=zA7 Y;obtain ⟨kk31,ke31,kz31,kl31⟩:=zJb e31;obtain ⟨g31,vs31,hA31,hR31,hrel31⟩:=D29.ownAt 1 rfl kz31;subst hA31;obtain ⟨rfl,_⟩:=hrel31;refine RT.vv 10 rfl (V.ixE kk31 U22 O5 rfl rfl ke31 kl31) ?_;refine RT.vv 11 rfl (V.ldR0 V5 rfl hR31 rfl) ?_;refine RT.vv 12 rfl (V.mv rfl) ?_;refine RT.vv 13 rfl (V.subW rfl rfl) ?_;refine RT.vv 14 rfl (V.cv64 U3 U137 rfl) ?_;refine RT.vv 15 rfl (V.shl8 (a:=(255:UInt8)) (m:=(zAf (W64 (8-z16))).toNat) rfl rfl) ?_;refine RT.vv 16 rfl (V.and8 (a:=z31) (b:=shl8 (255:UInt8) ((zAf (W64 (8-z16))).toNat)) rfl rfl) ?_;obtain ⟨z32,e32,Y⟩:=zA7 Y;obtain ⟨kk32,ke32,kz32,kl32⟩:=zJb e32;obtain ⟨vs32,hR32,hrel32⟩:=D29.ownAtL 1 rfl kz32;obtain ⟨rfl,_⟩:=hrel32;refine RT.vv 17 rfl (V.ixE kk32 U22 O5 rfl rfl ke32 kl32) ?_;refine RT.tail ?_;refine RH.stI 18 (by kernel_rfl) D29 1 rfl ke32 kl32 rfl rfl O5 rfl rfl rfl (vs:=[u8v (z31&&&(shl8 (255:UInt8) ((zAf (W64 (8-z16))).toNat)))]) rfl (⟨rfl,trivial⟩) ?_;intro w33 D33;refine ⟨trivial,?_⟩;refine RH.dn ?_;have D34:=(D33.reBox 0 rfl (congrArg (λ(n0:Nat)=>([.slice (some ⟨g31,0,none⟩) n0 c29_0,iv x0.n]:List Value)) (show (z11).length=((zLd z11 (W64 ((z11.length:Int)-1)) (z31&&&(shl8 (255:UInt8) ((zAf (W64 (8-z16))).toNat))))).length from ((zEi _ _ _)).symm.trans (rfl)))).nf [zAi _ _ [_,_],_] rfl;have D36:=D34.cu [] [0,1];obtain ⟨F35,D35⟩:=D36.fold (zA3.sh b0 (⟨(zLd z11 (W64 ((z11.length:Int)-1)) (z31&&&(shl8 (255:UInt8) ((zAf (W64 (8-z16))).toNat)))),x0.n⟩:zA3)) ⟨(some ⟨g31,0,none⟩),c29_0,rfl⟩;exact K2 ((⟨(zLd z11 (W64 ((z11.length:Int)-1)) (z31&&&(shl8 (255:UInt8) ((zAf (W64 (8-z16))).toNat)))),x0.n⟩:zA3),F35) _ _ sA (D35.pk [0]) Y
  refine gg 1 rfl ?_;exact K2 ((⟨z11,x0.n⟩:zA3),F17) _ _ sA (D17.pk [0]) Y
 intro j1 Y K1;refine zKs Y (Rn.partD (t:=8) rfl) (λh37 Y=>?_) (λh37 Y=>?_)
 ·refine gg 7 rfl ?_;exact K1 (true,F0) _ _ sA (D0.pk [0]) Y
 refine gg 4 rfl ?_;obtain ⟨_,⟨A38_0,c38_0,rfl⟩,D38⟩:=D0.unf 0 rfl;replace D38:=D38.nq;refine Rn.q rfl (V.ldB V3 rfl (D38.get 0 rfl) rfl) (gg 2 rfl ?_);have D41:=D38.cu [] [0,1];obtain ⟨F40,D40⟩:=D41.fold (zA3.sh b0 x0) ⟨A38_0,c38_0,rfl⟩;exact K1 ((decide (x1>x0.n)),F40) _ _ sA (D40.pk [0]) Y
theorem m_chunk_Chunk_Add_sim {x0:zAg} {x1:Int} {x2:zA8} {r:(Int×zAg)} (Y:zIi x0 x1 x2=some r) (hL:zKt Z0 w [zAg.obj F0 b0 x0,rdR 1 0 gl1,rdR 3 0 gl3,zTs zA8.rep cs2 x2]) :
 Calls prog 24 #[pt b0 0,iv x1,.agg cs2.toArray] w λx w'=>∃ F_p0,x=.returned (iv r.1)∧Hp Z0 (LS [zAg.obj F0 b0 x0,rdR 1 0 gl1,rdR 3 0 gl3,zTs zA8.rep cs2 x2]) w w' [zAg.obj F_p0 b0 r.2]:=by
 have D0:=hL.start;have h2:=D0.get 3 rfl;obtain ⟨Ar2,cr2,Ar4,cr4,Ar6,cr6,rfl,fs2,fs4,fs6⟩:=zA8.relE h2;have D11:=Hp.knowL [slR Ar2 cr2 zA0.rep x2.Attrs,slR Ar4 cr4 zAq x2.Hist.Pos.Counts,slR Ar6 cr6 zAq x2.Hist.Neg.Counts] _ D0 (knC (λ_ h=>h) fs2 (knC (λ_ h=>h) fs4 (knC (λ_ h=>h) fs6 kn0)));refine eg func24 2 ?_;refine Rn.box rfl rfl rfl rfl rfl ?_;intro b12 w12 hb12 m12 e12;have D14:=(D11.addBox hb12 e12 m12).nf [_,_,_,_,_,_,_,zAi _ _ [_,_,_,_,_,_,_,_,_,_,_,_,_,_,_,_,_]] rfl;refine gg 4 rfl (Rn.q rfl (V.ldBA [_,_,_,_,_,_,_,_,_,_,_,_,_,_,_,_,_] V42 O42 rfl (D14.get 7 rfl) rfl rfl) ?_);obtain ⟨p15,e15,Y⟩:=zA7 Y
 refine Rn.c0 (cK func60) (zOi (Z0:=All) e15 (show zA8.rep.rel All _ _ _ from ⟨_,_,rfl,⟨rfl,trivial⟩,⟨_,_,rfl,⟨_,_,rfl,(zA5 (D14.get 4 rfl)).1,(zA5 (D14.get 4 rfl)).2.1,(zA5 (D14.get 4 rfl)).2.2⟩,⟨_,_,rfl,⟨rfl,trivial⟩,⟨_,_,rfl,⟨rfl,trivial⟩,⟨_,_,rfl,⟨rfl,trivial⟩,⟨_,_,rfl,⟨rfl,trivial⟩,⟨_,_,rfl,⟨rfl,trivial⟩,⟨_,_,rfl,⟨rfl,trivial⟩,⟨_,_,rfl,⟨rfl,trivial⟩,⟨_,_,rfl,⟨rfl,trivial⟩,⟨_,_,rfl,⟨_,_,rfl,⟨rfl,trivial⟩,⟨_,_,rfl,⟨rfl,trivial⟩,⟨_,_,rfl,⟨_,_,rfl,⟨rfl,trivial⟩,⟨_,_,rfl,(zA5 (D14.get 5 rfl)).1,(zA5 (D14.get 5 rfl)).2.1,(zA5 (D14.get 5 rfl)).2.2⟩⟩,⟨_,_,rfl,⟨rfl,trivial⟩,⟨_,_,rfl,(zA5 (D14.get 6 rfl)).1,(zA5 (D14.get 6 rfl)).2.1,(zA5 (D14.get 6 rfl)).2.2⟩⟩⟩⟩⟩,⟨rfl,trivial⟩⟩⟩⟩⟩⟩⟩⟩⟩⟩⟩⟩) :) D14 λw15 _ D16=>?_
 refine gg 14 rfl ?_;refine bD Y 5 6 (λh17 Y=>?_) (λh17 Y=>?_)
 ·cases Y
  exact Rn.R1 func24 ⟨F0,rfl,D16.pk [0]⟩
 obtain ⟨_,⟨F18_0,b18_0,F18_1,b18_1,F18_2,b18_2,F18_3,b18_3,F18_4,b18_4,F18_5,b18_5,F18_6,b18_6,F18_7,b18_7,rfl⟩,D18⟩:=D16.unf 0 rfl;replace D18:=D18.nq;refine Rn.q rfl (V.ldB V9 rfl (D18.get 7 rfl) rfl) (Rn.q rfl (V.neqS rfl rfl) (gg 2 rfl ?_));refine bD Y 4 5 (λh27 Y=>?_) (λh27 Y=>?_)
 ·have D29:=D18.cu [0,1,2,3,4,5,6] [7,8,9,10,11,12,13,14,15];obtain ⟨F28,D28⟩:=D29.fold (zAg.sh b0 x0) ⟨F18_0,b18_0,F18_1,b18_1,F18_2,b18_2,F18_3,b18_3,F18_4,b18_4,F18_5,b18_5,F18_6,b18_6,F18_7,b18_7,rfl⟩
  cases Y
  exact Rn.R1 func24 ⟨F28,rfl,D28.pk [7]⟩
 refine Rn.cutR [6] [(0,pt b0 0),(1,iv x1),(5,pt b12 0),(33,.bool (decide ((x1<0)∨(x1>4503599627370496))))] (λK30=>?_) ?_
 ·refine Rn.partD (t:=30) rfl (λh31=>?_) (λh31=>?_)
  ·refine gg 3 rfl ?_;exact K30 _ sA
  refine gg 3 rfl ?_;exact K30 _ sA
 refine gg 2 rfl ?_;refine bD Y 4 6 (λh32 Y=>?_) (λh32 Y=>?_)
 ·have D34:=D18.cu [0,1,2,3,4,5,6] [7,8,9,10,11,12,13,14,15];obtain ⟨F33,D33⟩:=D34.fold (zAg.sh b0 x0) ⟨F18_0,b18_0,F18_1,b18_1,F18_2,b18_2,F18_3,b18_3,F18_4,b18_4,F18_5,b18_5,F18_6,b18_6,F18_7,b18_7,rfl⟩
  cases Y
  exact Rn.R1 func24 ⟨F33,rfl,D33.pk [7]⟩
 refine Rn.q rfl (V.ldB V3 rfl (D18.get 7 rfl) rfl) (gg 3 rfl ?_);refine bD Y 4 5 (λh35 Y=>?_) (λh35 Y=>?_)
 ·have D37:=D18.cu [0,1,2,3,4,5,6] [7,8,9,10,11,12,13,14,15];obtain ⟨F36,D36⟩:=D37.fold (zAg.sh b0 x0) ⟨F18_0,b18_0,F18_1,b18_1,F18_2,b18_2,F18_3,b18_3,F18_4,b18_4,F18_5,b18_5,F18_6,b18_6,F18_7,b18_7,rfl⟩
  cases Y
  exact Rn.R1 func24 ⟨F36,rfl,D36.pk [7]⟩
 refine Rn.q rfl (V.ldB V3 rfl (D18.get 7 rfl) rfl) (gg 3 rfl ?_);refine bD Y 4 3 (λh38 Y=>?_) (λh38 Y=>?_)
 ·have D40:=D18.cu [0,1,2,3,4,5,6] [7,8,9,10,11,12,13,14,15];obtain ⟨F39,D39⟩:=D40.fold (zAg.sh b0 x0) ⟨F18_0,b18_0,F18_1,b18_1,F18_2,b18_2,F18_3,b18_3,F18_4,b18_4,F18_5,b18_5,F18_6,b18_6,F18_7,b18_7,rfl⟩
  cases Y
  exact Rn.R1 func24 ⟨F39,rfl,D39.pk [7]⟩
 have D42:=D18.cu [0,1,2,3,4,5,6] [7,8,9,10,11,12,13,14,15];obtain ⟨F41,D41⟩:=D42.fold (zAg.sh b0 x0) ⟨F18_0,b18_0,F18_1,b18_1,F18_2,b18_2,F18_3,b18_3,F18_4,b18_4,F18_5,b18_5,F18_6,b18_6,F18_7,b18_7,rfl⟩;refine Rn.jG D0 Y (G:=Int×zAp×(Nat→Prop)×(Nat→Prop)×Nat) (λg=>[(0,pt b0 0),(1,iv x1),(5,pt b12 0),(9,iv (g.1)),(10,pt (g.2.2.2.2) 0)]) (λg=>[rdR 1 0 gl1,rdR 3 0 gl3,slR Ar2 cr2 zA0.rep x2.Attrs,slR Ar4 cr4 zAq x2.Hist.Pos.Counts,slR Ar6 cr6 zAq x2.Hist.Neg.Counts,zAi b12 42 [Str (x2.Name),.slice Ar2 (x2.Attrs).length cr2,iv x2.Kind,iv x2.Temp,.bool (x2.Mono),iv x2.Start,iv x2.Time,iv x2.Int_,zAn x2.Re,zAn x2.Im,iv x2.Hist.Scale,zAn x2.Hist.Zero,iv x2.Hist.Pos.Offset,.slice Ar4 (x2.Hist.Pos.Counts).length cr4,iv x2.Hist.Neg.Offset,.slice Ar6 (x2.Hist.Neg.Counts).length cr6,iv x2.Flags],zAg.obj (g.2.2.1) b0 x0,zAp.obj (g.2.2.2.1) (g.2.2.2.2) (g.2.1)]) (λj g=>j g.1 g.2.1) ?_ ?_
 ·rintro ⟨y44,y45,F43,F45,b45⟩ w47 D47 Y
  try dsimp only at Y
  refine gg 1 rfl ?_;refine Rn.drawT 7 rfl D47 (by kernel_rfl) ?_;intro w48 D48;obtain ⟨_,⟨F49_0,b49_0,F49_1,b49_1,F49_2,b49_2,F49_3,b49_3,F49_4,b49_4,F49_5,b49_5,F49_6,b49_6,rfl⟩,D49⟩:=D48.unf 7 rfl;replace D49:=D49.nq;refine RT.vv 0 rfl (V.ldBA [_,_,_,_,_,_,_] V80 O80 rfl (D49.get 7 rfl) rfl rfl) ?_;refine RT.vv 1 rfl (V.mv rfl) ?_;refine RT.vv 2 rfl (V.nil rfl) ?_;refine RT.vv 3 rfl (V.fa U122 rfl O119 rfl rfl) ?_;obtain ⟨_,⟨F57_0,b57_0,F57_1,b57_1,F57_2,b57_2,F57_3,b57_3,F57_4,b57_4,F57_5,b57_5,F57_6,b57_6,F57_7,b57_7,rfl⟩,D57⟩:=D49.unf 6 rfl;replace D57:=D57.nq;refine RT.vv 4 rfl (V.ldB V119 rfl (D57.get 14 rfl) rfl) ?_;refine RT.vv 5 rfl (V.mv rfl) ?_;refine RT.vv 6 rfl (V.ldBA [_,_,_,_,_,_,_,_,_,_,_,_,_,_,_,_,_] V42 O42 rfl (D57.get 5 rfl) rfl rfl) ?_;refine RT.tail ?_;obtain ⟨p66,e66,Y⟩:=zA7 Y;have D67:=D57.dup 0 rfl (λ_ h=>h);have D69:=D67.dup 1 rfl (λ_ h=>h);have D71:=D69.know (zTs zA8.rep [Str (x2.Name),.slice Ar2 (x2.Attrs).length cr2,iv x2.Kind,iv x2.Temp,.bool (x2.Mono),iv x2.Start,iv x2.Time,iv x2.Int_,zAn x2.Re,zAn x2.Im,iv x2.Hist.Scale,zAn x2.Hist.Zero,iv x2.Hist.Pos.Offset,.slice Ar4 (x2.Hist.Pos.Counts).length cr4,iv x2.Hist.Neg.Offset,.slice Ar6 (x2.Hist.Neg.Counts).length cr6,iv x2.Flags] x2) (λ_ h=>h) (show zA8.rep.rel _ _ _ _ from ⟨_,_,rfl,⟨rfl,trivial⟩,⟨_,_,rfl,⟨_,_,rfl,(D69.get 2 rfl).1,(D69.get 2 rfl).2.1,(D69.get 2 rfl).2.2⟩,⟨_,_,rfl,⟨rfl,trivial⟩,⟨_,_,rfl,⟨rfl,trivial⟩,⟨_,_,rfl,⟨rfl,trivial⟩,⟨_,_,rfl,⟨rfl,trivial⟩,⟨_,_,rfl,⟨rfl,trivial⟩,⟨_,_,rfl,⟨rfl,trivial⟩,⟨_,_,rfl,⟨rfl,trivial⟩,⟨_,_,rfl,⟨rfl,trivial⟩,⟨_,_,rfl,⟨_,_,rfl,⟨rfl,trivial⟩,⟨_,_,rfl,⟨rfl,trivial⟩,⟨_,_,rfl,⟨_,_,rfl,⟨rfl,trivial⟩,⟨_,_,rfl,(D69.get 3 rfl).1,(D69.get 3 rfl).2.1,(D69.get 3 rfl).2.2⟩⟩,⟨_,_,rfl,⟨rfl,trivial⟩,⟨_,_,rfl,(D69.get 4 rfl).1,(D69.get 4 rfl).2.1,(D69.get 4 rfl).2.2⟩⟩⟩⟩⟩,⟨rfl,trivial⟩⟩⟩⟩⟩⟩⟩⟩⟩⟩⟩⟩);have D73:=D71.cu [0,1,2,3,4,5,6,14,16,17,18,19,20,21,22] [7,8,9,10,11,12,13,15,23,24,25];refine RH.cq (cK func64) 7 (m_chunk_rows_put_sim e66 D73.lend :) ?_;rintro _ w66 ⟨F66_p0_ords,F66_p0_times,F66_p0_spans,F66_p0_ints,F66_p0_re,F66_p0_im,F66_p0_hists,F66_p1,rfl,Q66⟩;refine ⟨_,rfl,trivial,?_⟩;have D82:=D73.callAZ Q66;refine RH.dn ?_;refine gg 5 rfl (Rn.q rfl (V.ldB V3 rfl (D82.get 7 rfl) rfl) (gg 3 rfl (Rn.sq rfl O3 rfl rfl (D82.get 7 rfl) ?_)));intro w83 m83 x83;have D84:=(D82.st 7 rfl x83 m83).nf [_,_,_,_,_,_,_,zAi _ _ [_,_,_,_,_,_,_,_,_,_,_,_],_,_,_,_,_,_,_,_,_,_,_,_,_,_,_] rfl;refine gg 3 rfl ?_;refine Rn.drawH rfl D84 ?_;intro w85 D85;refine dq [0,2,3,4] ?_;refine RH.tk 5 rfl (λw' hDr=>V.ldB V3 rfl ((D85.ext hDr).get 7 rfl) rfl) ?_;have D88:=D85.cu [0,1,2,3,4,5,6,15,16,17,18,19,20,21] [7,22,8,9,10,11,12,13,14];obtain ⟨F87,D87⟩:=D88.fold (zAg.sh b0 (⟨x0.key,x0.most,W64 (x0.n+1),x0.last,p66.2.2.2.2.2.2.2,x0.rows⟩:zAg)) ⟨F66_p1,b57_0,F57_1,b57_1,F57_2,b57_2,F57_3,b57_3,F57_4,b57_4,F57_5,b57_5,F57_6,b57_6,F57_7,b57_7,rfl⟩;obtain ⟨p86,e86,Y⟩:=zA7 Y;refine RH.cq (cK func30) 1 (zO6 (Z0:=All) e86 (zD8 (D87.get 14 rfl)) :) ?_;rintro _ w86 ⟨rfl,Q86⟩;refine ⟨_,rfl,((Ext.refl _).trans Q86.fr),?_⟩;have D89:=D87.call0 Q86;refine dq [6] ?_;refine RH.dn ?_;refine bD Y 5 5 (λh90 Y=>?_) (λh90 Y=>?_)
  ·obtain ⟨_,⟨F91_0,b91_0,F91_1,b91_1,F91_2,b91_2,F91_3,b91_3,F91_4,b91_4,F91_5,b91_5,F91_6,b91_6,F91_7,b91_7,rfl⟩,D91⟩:=D89.unf 14 rfl;replace D91:=D91.nq;refine Rn.q rfl (V.ldB V3 rfl (D91.get 14 rfl) rfl) (gg 3 rfl (Rn.sq rfl O3 rfl rfl (D91.get 14 rfl) ?_));intro w100 m100 x100;have D101:=(D91.st 14 rfl x100 m100).nf [_,_,_,_,_,_,_,_,_,_,_,_,_,_,zAi _ _ [_,_,_,_,_,_,_,_,_,_,_,_],_,_,_,_,_,_,_,_] rfl;refine gg 6 rfl (Rn.q rfl (V.ldB V119 rfl (D101.get 14 rfl) rfl) (gg 1 rfl ?_));obtain ⟨p102,e102,Y⟩:=zA7 Y;have D103:=D101.cu [0,1,2,3,4,5,6,7,8,9,10,11,12,13,14,16,17,18,19,20,21,22] [15]
   refine Rn.a1 (cK func65) (m_bitio_Writer_Cut_sim e102 D103.lend :) D103 λF102_p0 w102 D105=>?_
   refine gg 5 rfl ?_;have D107:=D105.cu [0,1,2,3,4,5,6,7,8,9,10,11,12,13] [14,22,15,16,17,18,19,20,21];obtain ⟨F106,D106⟩:=D107.fold (zAg.sh b0 (⟨x0.key,x0.most,W64 ((W64 (x0.n+1))-1),x0.last,p102.2,x0.rows⟩:zAg)) ⟨F102_p0,b91_0,F91_1,b91_1,F91_2,b91_2,F91_3,b91_3,F91_4,b91_4,F91_5,b91_5,F91_6,b91_6,F91_7,b91_7,rfl⟩
   cases Y
   exact Rn.R1 func24 ⟨F106,rfl,D106.pk [14]⟩
  refine Rn.q rfl (V.ldBA [_,_,_,_,_,_,_] V80 O80 rfl (D89.get 6 rfl) rfl rfl) (gg 3 rfl ?_);obtain ⟨_,⟨F108_0,b108_0,F108_1,b108_1,F108_2,b108_2,F108_3,b108_3,F108_4,b108_4,F108_5,b108_5,F108_6,b108_6,F108_7,b108_7,rfl⟩,D108⟩:=D89.unf 14 rfl;replace D108:=D108.nq;refine Rn.sq rfl O80 rfl rfl (D108.get 14 rfl) ?_;intro w117 m117 x117;have D118:=(D108.st 14 rfl x117 m117).nf [_,_,_,_,_,_,_,_,_,_,_,_,_,_,zAi _ _ [_,_,_,_,_,_,_,_,_,_,_,_],_,_,_,_,_,_,_,_] rfl;refine gg 2 rfl (Rn.sq rfl O3 rfl rfl (D118.get 14 rfl) ?_);intro w119 m119 x119;have D120:=(D118.st 14 rfl x119 m119).nf [_,_,_,_,_,_,_,_,_,_,_,_,_,_,zAi _ _ [_,_,_,_,_,_,_,_,_,_,_,_],_,_,_,_,_,_,_,_] rfl;refine gg 5 rfl ?_;have D122:=D120.cu [0,1,2,3,4,5,6,16,17,18,19,20,21,22] [14,15,7,8,9,10,11,12,13];obtain ⟨F121,D121⟩:=D122.fold (zAg.sh b0 (⟨x0.key,x0.most,W64 (x0.n+1),x1,p66.2.2.2.2.2.2.2,(⟨p66.1,p66.2.1,p66.2.2.1,p66.2.2.2.1,p66.2.2.2.2.1,p66.2.2.2.2.2.1,p66.2.2.2.2.2.2.1⟩:zAp)⟩:zAg)) ⟨F108_0,b108_0,F66_p0_ords,b49_0,F66_p0_times,b49_1,F66_p0_spans,b49_2,F66_p0_ints,b49_3,F66_p0_re,b49_4,F66_p0_im,b49_5,F66_p0_hists,b49_6,rfl⟩
  cases Y
  exact Rn.R1 func24 ⟨F121,rfl,D121.pk [14]⟩
 intro j1 Y K1;refine Rn.drawH rfl D41 ?_;intro w123 D123;refine dq [0,1,2] ?_;obtain ⟨_,⟨F124_0,b124_0,F124_1,b124_1,F124_2,b124_2,F124_3,b124_3,F124_4,b124_4,F124_5,b124_5,F124_6,b124_6,F124_7,b124_7,rfl⟩,D124⟩:=D123.unf 7 rfl;replace D124:=D124.nq;refine RH.tk 3 rfl (λw' hDr=>V.ldB V119 rfl ((D124.ext hDr).get 7 rfl) rfl) ?_;refine dq [5,6,7] ?_;refine RH.tk 8 rfl (λw' hDr=>V.ldBA [_,_,_,_,_,_,_] V80 O80 rfl ((D124.ext hDr).get 7 rfl) rfl rfl) ?_;obtain ⟨p133,e133,Y⟩:=zA7 Y;obtain ⟨p135,e135,Y⟩:=zA7 Y;refine RH.both 4 10 (by kernel_rfl) ?_ ?_
 ·have e149:=e133;refine RB.cl (cK func62) 4 rfl rfl rfl rfl (zGm (Z0:=All) e149 (zD8 (D124.get 8 rfl)) :) ?_;rintro _ w149 ⟨rfl,Q149⟩;refine ⟨_,rfl,((Ext.refl _).trans Q149.fr),?_⟩;have D150:=D124.call0 Q149;refine RG.str (S1:=λw'=>Ext w149 w') (λ_ hh=>((Ext.refl _).trans Q149.fr).trans hh) (Ext.refl _) ?_;refine RH.both 9 10 (by kernel_rfl) ?_ ?_
  ·have e151:=e135;refine RB.cl (cK func63) 9 rfl rfl rfl rfl (zHu (Z0:=All) e151 (zD8 (D150.get 9 rfl)) (zD8 (D150.get 10 rfl)) (zD8 (D150.get 11 rfl)) (zD8 (D150.get 12 rfl)) (zD8 (D150.get 13 rfl)) (zD8 (D150.get 14 rfl)) (zD8 (D150.get 15 rfl)) :) ?_;rintro _ w151 ⟨F151_0_0,b151_0_0,F151_0_1,b151_0_1,F151_0_2,b151_0_2,F151_0_3,b151_0_3,F151_0_4,b151_0_4,F151_0_5,b151_0_5,F151_0_6,b151_0_6,rfl,Q151⟩;refine ⟨_,rfl,((Ext.refl _).trans Q151.fr),?_⟩;have D159:=D150.callF (flC ((zA9.oflat _ _ _)) (flC ((zA9.oflat _ _ _)) (flC ((zA9.oflat _ _ _)) (flC ((zA9.oflat _ _ _)) (flC ((zAj.oflat _ _ _)) (flC ((zAj.oflat _ _ _)) (flC ((zA4.oflat _ _ _)) fl0))))))) Q151;refine RH.alloc 10 (by kernel_rfl) rfl rfl rfl Tryz.zeroValue80 rfl ?_;intro b160 w160 hb160 m160 e160
   have hfr160:w149.heap.size≤b160:=by have hh:=(((Ext.refl _).trans Q151.fr):Ext w149 w151).size;omega
   have D162:=(D159.addBox hb160 e160 m160).nf [_,_,_,_,_,_,_,_,_,_,_,_,_,_,_,_,_,_,_,_,_,_,_,zAi _ _ [_,_,_,_,_,_,_]] rfl;refine ⟨(((Ext.refl _).trans Q151.fr).trans e160),?_⟩;refine dq [11] ?_;refine RH.st 12 (by kernel_rfl) rfl rfl O80 rfl rfl rfl rfl (by first|exact zJx rfl|(simp [Value.oneCell'];done)) (D162.get 23 rfl) (by first|exact nbl rfl|(simp;done)) ?_;intro w163 m163 x163;have D164:=(D162.st 23 rfl x163 m163).nf [_,_,_,_,_,_,_,_,_,_,_,_,_,_,_,_,_,_,_,_,_,_,_,zAi _ _ [_,_,_,_,_,_,_]] rfl;refine ⟨(zPc (((Ext.refl _).trans Q151.fr).trans e160) x163 hfr160),?_⟩;refine RH.dn ?_;have D166:=D164.cu [0,1,2,3,4,5,6,16,17,18,19,20,21,22,23] [7,8,9,10,11,12,13,14,15];obtain ⟨F165,D165⟩:=D166.fold (zAg.sh b0 x0) ⟨F124_0,b124_0,F124_1,b124_1,F124_2,b124_2,F124_3,b124_3,F124_4,b124_4,F124_5,b124_5,F124_6,b124_6,F124_7,b124_7,rfl⟩;have D168:=D165.cu [0,1,2,3,4,5,6,15] [14,7,8,9,10,11,12,13];obtain ⟨F167,D167⟩:=D168.fold (zAp.sh b160 p135) ⟨F151_0_0,b151_0_0,F151_0_1,b151_0_1,F151_0_2,b151_0_2,F151_0_3,b151_0_3,F151_0_4,b151_0_4,F151_0_5,b151_0_5,F151_0_6,b151_0_6,rfl⟩;exact K1 (p133,p135,F165,F167,b160) _ _ sA (D167.pk [0,1,3,4,5,6,7,8]) Y
  refine RB.alloc 10 rfl rfl rfl Tryz.zeroValue80 rfl ?_;intro b169 w169 hb169 m169 e169
  have hfr169:w149.heap.size≤b169:=by have hh:=((Ext.refl _):Ext w149 w149).size;omega
  have D171:=(D150.addBox hb169 e169 m169).nf [_,_,_,_,_,_,_,_,_,_,_,_,_,_,_,_,zAi _ _ [_,_,_,_,_,_,_]] rfl;refine ⟨((Ext.refl _).trans e169),?_⟩;have e172:=e135;refine RH.cq (cK func63) 9 (zHu (Z0:=All) e172 (zD8 (D171.get 9 rfl)) (zD8 (D171.get 10 rfl)) (zD8 (D171.get 11 rfl)) (zD8 (D171.get 12 rfl)) (zD8 (D171.get 13 rfl)) (zD8 (D171.get 14 rfl)) (zD8 (D171.get 15 rfl)) :) ?_;rintro _ w172 ⟨F172_0_0,b172_0_0,F172_0_1,b172_0_1,F172_0_2,b172_0_2,F172_0_3,b172_0_3,F172_0_4,b172_0_4,F172_0_5,b172_0_5,F172_0_6,b172_0_6,rfl,Q172⟩;refine ⟨_,rfl,(((Ext.refl _).trans e169).trans Q172.fr),?_⟩;have D180:=D171.callF (flC ((zA9.oflat _ _ _)) (flC ((zA9.oflat _ _ _)) (flC ((zA9.oflat _ _ _)) (flC ((zA9.oflat _ _ _)) (flC ((zAj.oflat _ _ _)) (flC ((zAj.oflat _ _ _)) (flC ((zA4.oflat _ _ _)) fl0))))))) Q172;refine dq [11] ?_;refine RH.st 12 (by kernel_rfl) rfl rfl O80 rfl rfl rfl rfl (by first|exact zJx rfl|(simp [Value.oneCell'];done)) (D180.get 16 rfl) (by first|exact nbl rfl|(simp;done)) ?_;intro w181 m181 x181;have D182:=(D180.st 16 rfl x181 m181).nf [_,_,_,_,_,_,_,_,_,_,_,_,_,_,_,_,zAi _ _ [_,_,_,_,_,_,_],_,_,_,_,_,_,_] rfl;refine ⟨(zPc (((Ext.refl _).trans e169).trans Q172.fr) x181 hfr169),?_⟩;refine RH.dn ?_;have D184:=D182.cu [0,1,2,3,4,5,6,16,17,18,19,20,21,22,23] [7,8,9,10,11,12,13,14,15];obtain ⟨F183,D183⟩:=D184.fold (zAg.sh b0 x0) ⟨F124_0,b124_0,F124_1,b124_1,F124_2,b124_2,F124_3,b124_3,F124_4,b124_4,F124_5,b124_5,F124_6,b124_6,F124_7,b124_7,rfl⟩;have D186:=D183.cu [0,1,2,3,4,5,6,15] [7,8,9,10,11,12,13,14];obtain ⟨F185,D185⟩:=D186.fold (zAp.sh b169 p135) ⟨F172_0_0,b172_0_0,F172_0_1,b172_0_1,F172_0_2,b172_0_2,F172_0_3,b172_0_3,F172_0_4,b172_0_4,F172_0_5,b172_0_5,F172_0_6,b172_0_6,rfl⟩;exact K1 (p133,p135,F183,F185,b169) _ _ sA (D185.pk [0,1,3,4,5,6,7,8]) Y
 refine RB.alloc 10 rfl rfl rfl Tryz.zeroValue80 rfl ?_;intro b187 w187 hb187 m187 e187
 have hfr187:w123.heap.size≤b187:=by have hh:=((Ext.refl _):Ext w123 w123).size;omega
 have D189:=(D124.addBox hb187 e187 m187).nf [_,_,_,_,_,_,_,_,_,_,_,_,_,_,_,_,zAi _ _ [_,_,_,_,_,_,_]] rfl;refine ⟨((Ext.refl _).trans e187),?_⟩;have e190:=e133;refine RH.cq (cK func62) 4 (zGm (Z0:=All) e190 (zD8 (D189.get 8 rfl)) :) ?_;rintro _ w190 ⟨rfl,Q190⟩;refine ⟨_,rfl,(((Ext.refl _).trans e187).trans Q190.fr),?_⟩;have D191:=D189.call0 Q190;have e192:=e135;refine RH.cq (cK func63) 9 (zHu (Z0:=All) e192 (zD8 (D191.get 9 rfl)) (zD8 (D191.get 10 rfl)) (zD8 (D191.get 11 rfl)) (zD8 (D191.get 12 rfl)) (zD8 (D191.get 13 rfl)) (zD8 (D191.get 14 rfl)) (zD8 (D191.get 15 rfl)) :) ?_;rintro _ w192 ⟨F192_0_0,b192_0_0,F192_0_1,b192_0_1,F192_0_2,b192_0_2,F192_0_3,b192_0_3,F192_0_4,b192_0_4,F192_0_5,b192_0_5,F192_0_6,b192_0_6,rfl,Q192⟩;refine ⟨_,rfl,((((Ext.refl _).trans e187).trans Q190.fr).trans Q192.fr),?_⟩;have D200:=D191.callF (flC ((zA9.oflat _ _ _)) (flC ((zA9.oflat _ _ _)) (flC ((zA9.oflat _ _ _)) (flC ((zA9.oflat _ _ _)) (flC ((zAj.oflat _ _ _)) (flC ((zAj.oflat _ _ _)) (flC ((zA4.oflat _ _ _)) fl0))))))) Q192;refine dq [11] ?_;refine RH.st 12 (by kernel_rfl) rfl rfl O80 rfl rfl rfl rfl (by first|exact zJx rfl|(simp [Value.oneCell'];done)) (D200.get 16 rfl) (by first|exact nbl rfl|(simp;done)) ?_;intro w201 m201 x201;have D202:=(D200.st 16 rfl x201 m201).nf [_,_,_,_,_,_,_,_,_,_,_,_,_,_,_,_,zAi _ _ [_,_,_,_,_,_,_],_,_,_,_,_,_,_] rfl;refine ⟨(zPc ((((Ext.refl _).trans e187).trans Q190.fr).trans Q192.fr) x201 hfr187),?_⟩;refine RH.dn ?_;have D204:=D202.cu [0,1,2,3,4,5,6,16,17,18,19,20,21,22,23] [7,8,9,10,11,12,13,14,15];obtain ⟨F203,D203⟩:=D204.fold (zAg.sh b0 x0) ⟨F124_0,b124_0,F124_1,b124_1,F124_2,b124_2,F124_3,b124_3,F124_4,b124_4,F124_5,b124_5,F124_6,b124_6,F124_7,b124_7,rfl⟩;have D206:=D203.cu [0,1,2,3,4,5,6,15] [7,8,9,10,11,12,13,14];obtain ⟨F205,D205⟩:=D206.fold (zAp.sh b187 p135) ⟨F192_0_0,b192_0_0,F192_0_1,b192_0_1,F192_0_2,b192_0_2,F192_0_3,b192_0_3,F192_0_4,b192_0_4,F192_0_5,b192_0_5,F192_0_6,b192_0_6,rfl⟩;exact K1 (p133,p135,F203,F205,b187) _ _ sA (D205.pk [0,1,3,4,5,6,7,8]) Y
theorem zG5 {x0:(List UInt8)} {r:(List UInt8)} (Y:zEe x0=some r) (f0:(slR A0 c0 zBu x0).H Z0 w) :
 Calls prog 75 #[.slice A0 (x0).length c0] w λx w'=>∃ A_0_0 c_0_0,x=.returned (.slice A_0_0 (r).length c_0_0)∧Hp Z0 No w w' [zAy 5 A_0_0 c_0_0 zBu r]:=by
 exact zc6 w A0 c0 x0 f0 Y
theorem zNb {x0:zA3} {r:(List UInt8)} (Y:zH5 x0=some r) (f0:(fzR (zA3.obj F0 b0 x0)).H Z0 w) :
 Calls prog 68 #[pt b0 0] w λx w'=>∃ A_0_0 c_0_0,x=.returned (.slice A_0_0 (r).length c_0_0)∧Hp Z0 No w w' [zAy 5 A_0_0 c_0_0 zBu r]:=by
 obtain ⟨D0,D2,hc0⟩:=knA f0;refine eg func68 9 ?_;obtain ⟨_,⟨A3_0,c3_0,rfl⟩,D3⟩:=D2.unfz 0 rfl;replace D3:=D3.nq;have D7:=D3.fzSl 2 rfl;refine Rn.q rfl (V.ldB V22 rfl (D7.getz 1 rfl) rfl) ?_;obtain ⟨p8,e8,Y⟩:=zA7 Y
 refine Rn.c2 (cK func75) (zG5 (Z0:=All) e8 (zA5 (D7.get 3 rfl)) :) λA8_0_0 c8_0_0 w8 Q8=>?_
 have D10:=D7.callF (flC (zAm zEj _ _ _ _) fl0) Q8;refine gg 2 rfl ?_
 cases Y
 exact Rn.R1 func68 ⟨A8_0_0,c8_0_0,rfl,D10.pk [4]⟩
theorem m_pack_Writer_Raw_sim {x0:zAe} {x1:(List UInt8)} {r:zAe} (Y:zK1 x0 x1=some r) (hL:zKt Z0 w [zAe.obj F0 b0 x0,slR A1 c1 zBu x1]) :
 Calls prog 67 #[pt b0 0,.slice A1 (x1).length c1] w λx w'=>∃ F_p0,x=.returned (.tuple #[])∧Hp Z0 (LS [zAe.obj F0 b0 x0,slR A1 c1 zBu x1]) w w' [zAe.obj F_p0 b0 r]:=by
 have D0:=hL.start;refine eg func67 5 ?_;obtain ⟨_,⟨A3_0,c3_0,rfl⟩,D3⟩:=D0.unf 0 rfl;replace D3:=D3.nq;refine Rn.q rfl (V.ldB V22 rfl (D3.get 1 rfl) rfl) (gg 1 rfl ?_);obtain ⟨z5,e5,Y⟩:=zA7 Y;refine Rn.appH D3 2 rfl e5 rfl rfl rfl U22 el5 rfl rfl rfl rfl (D3.src 0 rfl) ?_;intro A5 c5 w5 D5;refine gg 2 rfl (Rn.sq rfl O22 rfl rfl (D5.get 1 rfl) ?_);intro w7 m7 x7;have D8:=(D5.st 1 rfl x7 m7).nf [_,zAi _ _ [_],_] rfl;refine gg 1 rfl ?_;have D10:=D8.cu [0] [1,2];obtain ⟨F9,D9⟩:=D10.fold (zAe.sh b0 (⟨z5⟩:zAe)) ⟨A5,c5,rfl⟩;refine Rn.end0 func67 rfl ?_;obtain rfl:=zF3 Y;exact ⟨F9,rfl,D9.pk [1]⟩
theorem zNm {x0:zAe} {r:(List UInt8)} (Y:zJ4 x0=some r) (f0:(fzR (zAe.obj F0 b0 x0)).H Z0 w) :
 Calls prog 69 #[pt b0 0] w λx w'=>∃ A_0_0 c_0_0,x=.returned (.slice A_0_0 (r).length c_0_0)∧Hp Z0 No w w' [zAy 5 A_0_0 c_0_0 zBu r]:=by
 obtain ⟨D0,D2,hc0⟩:=knA f0;refine eg func69 9 ?_;obtain ⟨_,⟨A3_0,c3_0,rfl⟩,D3⟩:=D2.unfz 0 rfl;replace D3:=D3.nq;have D7:=D3.fzSl 2 rfl;refine Rn.q rfl (V.ldB V22 rfl (D7.getz 1 rfl) rfl) ?_;obtain ⟨p8,e8,Y⟩:=zA7 Y
 refine Rn.c2 (cK func75) (zG5 (Z0:=All) e8 (zA5 (D7.get 3 rfl)) :) λA8_0_0 c8_0_0 w8 Q8=>?_
 have D10:=D7.callF (flC (zAm zEj _ _ _ _) fl0) Q8;refine gg 2 rfl ?_
 cases Y
 exact Rn.R1 func69 ⟨A8_0_0,c8_0_0,rfl,D10.pk [4]⟩
theorem zNq {x0:zAg} {r:(List UInt8)} (Y:zGe x0=some r) (f0:(fzR (zAg.obj F0 b0 x0)).H Z0 w) :
 Calls prog 25 #[pt b0 0] w λx w'=>∃ A_0_0 c_0_0,x=.returned (.slice A_0_0 (r).length c_0_0)∧Hp Z0 No w w' [zAy 5 A_0_0 c_0_0 zBu r]:=by
 obtain ⟨D0,D2,hc0⟩:=knA f0;refine eg func25 7 ?_;obtain ⟨p3,e3,Y⟩:=zA7 Y
 refine Rn.c2 (cK func66) (zJw (Z0:=All) e3 (zU0 (D2.get 0 rfl)) :) λF3_0 b3_0 w3 Q3=>?_
 have D5:=D2.callF (flC ((zAe.oflat _ _ _)) fl0) Q3;refine gg 8 rfl ?_;obtain ⟨_,⟨F6_0,b6_0,F6_1,b6_1,F6_2,b6_2,F6_3,b6_3,F6_4,b6_4,F6_5,b6_5,F6_6,b6_6,F6_7,b6_7,rfl⟩,D6⟩:=D5.unfz 0 rfl;replace D6:=D6.nq;refine Rn.q rfl (V.ldB V119 rfl (D6.getz 2 rfl) rfl) ?_;obtain ⟨p16,e16,Y⟩:=zA7 Y
 refine Rn.c2 (cK func68) (zNb (Z0:=All) e16 (zU0 (D6.get 3 rfl)) :) λA16_0_0 c16_0_0 w16 Q16=>?_
 have D18:=D6.callF (flC (zAm zEj _ _ _ _) fl0) Q16;replace D18:=D18.nq;have D21:=D18.freeze 11 rfl;obtain ⟨p19,e19,Y⟩:=zA7 Y;have D22:=D21.dup 11 rfl (λ_ h=>h);have D24:=D22.cu [0,2,3,4,5,6,7,8,9,10,11] [1,12]
 refine Rn.a1 (cK func67) (m_pack_Writer_Raw_sim e19 D24.lend :) D24 λF19_p0 w19 D26=>?_
 refine gg 4 rfl ?_;obtain ⟨p27,e27,Y⟩:=zA7 Y
 refine Rn.c2 (cK func69) (zNm (Z0:=All) e27 (zD8 (D26.get 11 rfl)) :) λA27_0_0 c27_0_0 w27 Q27=>?_
 have D29:=D26.callF (flC (zAm zEj _ _ _ _) fl0) Q27;replace D29:=D29.nq;refine gg 2 rfl ?_
 cases Y
 exact Rn.R1 func25 ⟨A27_0_0,c27_0_0,rfl,D29.pk [12]⟩
theorem zO1 {x0:(List zAc)} {r:((List UInt8)×Int)} (Y:zMn x0=some r) (f0:(slR A0 c0 zAc.rep x0).H Z0 w) (f1:(rdR 1 0 gl1).H Z0 w) (f2:(rdR 3 0 gl3).H Z0 w) :
 Calls prog 12 #[.slice A0 (x0).length c0] w λx w'=>∃ A_0_0 c_0_0,x=.returned (.tuple #[.slice A_0_0 (r.1).length c_0_0,iv r.2])∧Hp Z0 No w w' [zAy 5 A_0_0 c_0_0 zBu r.1]:=by
 obtain ⟨D0,D4,hc0⟩:=knA f0;obtain ⟨D5,hc0⟩:=D4.kn hc0 f1;obtain ⟨D6,hc0⟩:=D5.kn hc0 f2;refine eg func12 9 ?_;refine Rn.q rfl (V.lenV U24 rfl) (gg 2 rfl ?_);refine bD Y 5 4 (λh7 Y=>?_) (λh7 Y=>?_)
 ·have D8:=D6.addNil 5 zBu
  cases Y
  exact Rn.R2 func12 ⟨none,0,rfl,D8.pk [3]⟩
 obtain ⟨z10,e10,Y⟩:=zA7 Y;refine Rn.ixH D6 0 rfl e10 rfl rfl rfl U24 O44 rfl rfl rfl rfl ?_;rintro b10 o10 vs10 hr10 D10;obtain ⟨Ar11,cr11,Ar13,cr13,Ar15,cr15,rfl,fs11,fs13,fs15⟩:=zAc.relE hr10;have D18:=Hp.know1 (M:=[slR Ar11 cr11 zA0.rep z10.Point.Attrs,slR Ar13 cr13 zAq z10.Point.Hist.Pos.Counts,slR Ar15 cr15 zAq z10.Point.Hist.Neg.Counts]) D10 (λ_ h=>h) (knC (λ_ h=>h) fs11 (knC (λ_ h=>h) fs13 (knC (λ_ h=>h) fs15 kn0)));refine gg 1 rfl (Rn.q rfl (V.ldA (vs:=[_,_,_,_,_,_,_,_,_,_,_,_,_,_,_,_,_]) V42 O42 rfl (Rd.sub (D18.get 3 rfl).2 1 17) rfl) ?_);obtain ⟨p19,e19,Y⟩:=zA7 Y
 refine Rn.c2 (cK func23) (zS6 (Z0:=All) e19 (show zA8.rep.rel All _ _ _ from ⟨_,_,rfl,⟨rfl,trivial⟩,⟨_,_,rfl,⟨_,_,rfl,(zA5 (D18.get 4 rfl)).1,(zA5 (D18.get 4 rfl)).2.1,(zA5 (D18.get 4 rfl)).2.2⟩,⟨_,_,rfl,⟨rfl,trivial⟩,⟨_,_,rfl,⟨rfl,trivial⟩,⟨_,_,rfl,⟨rfl,trivial⟩,⟨_,_,rfl,⟨rfl,trivial⟩,⟨_,_,rfl,⟨rfl,trivial⟩,⟨_,_,rfl,⟨rfl,trivial⟩,⟨_,_,rfl,⟨rfl,trivial⟩,⟨_,_,rfl,⟨rfl,trivial⟩,⟨_,_,rfl,⟨_,_,rfl,⟨rfl,trivial⟩,⟨_,_,rfl,⟨rfl,trivial⟩,⟨_,_,rfl,⟨_,_,rfl,⟨rfl,trivial⟩,⟨_,_,rfl,(zA5 (D18.get 5 rfl)).1,(zA5 (D18.get 5 rfl)).2.1,(zA5 (D18.get 5 rfl)).2.2⟩⟩,⟨_,_,rfl,⟨rfl,trivial⟩,⟨_,_,rfl,(zA5 (D18.get 6 rfl)).1,(zA5 (D18.get 6 rfl)).2.1,(zA5 (D18.get 6 rfl)).2.2⟩⟩⟩⟩⟩,⟨rfl,trivial⟩⟩⟩⟩⟩⟩⟩⟩⟩⟩⟩⟩) :) λF19_0 b19_0 w19 Q19=>?_
 have D21:=D18.callF (flC (zZ6 λ_=>(zAg.oflat _ _ _)) fl0) Q19;refine gg 12 rfl ?_;refine bD Y 6 5 (λh22 Y=>?_) (λh22 Y=>?_)
 ·have D23:=D21.addNil 5 zBu
  cases Y
  exact Rn.R2 func12 ⟨none,0,rfl,D23.pk [8]⟩
 refine Rn.q rfl (V.lenV U24 rfl) (gg 2 rfl ?_);refine Rn.jG D0 Y (G:=(Option zAg)×(Nat→Prop)) (λg=>[(4,.pointer (zhe b19_0 (g.1)))]) (λg=>[rdR 1 0 gl1,rdR 3 0 gl3,zbj (g.1) (λz=>zAg.obj (g.2) b19_0 z)]) (λj g=>j g.1) ?_ ?_
 ·rintro ⟨y25,F25⟩ w26 D26 Y
  try dsimp only at Y
  refine gg 3 rfl ?_;obtain ⟨z28,e28,Y⟩:=zA7 Y;have D29:=D26.optSome 2 rfl e28;refine Rn.say (t:=39) (pt b19_0 0) rfl (by rw [e28];rfl) ?_;obtain ⟨p27,e27,Y⟩:=zA7 Y
  refine Rn.c2 (cK func25) (zNq (Z0:=All) e27 (zD8 (D29.get 2 rfl)) :) λA27_0_0 c27_0_0 w27 Q27=>?_
  have D31:=D29.callF (flC (zAm zEj _ _ _ _) fl0) Q27;refine gg 3 rfl ?_
  cases Y
  exact Rn.R2 func12 ⟨A27_0_0,c27_0_0,rfl,D31.pk [3]⟩
 intro j1 Y K1;refine gg 1 rfl ?_;refine Rn.loopF (G:=Int×(Option zAg)×(Nat→Prop)) (λg=>[(4,.pointer (zhe b19_0 (g.2.1))),(23,.slice A0 (x0).length c0),(24,iv (x0.length:Int)),(25,iv (g.1))]) (λg w'=>Hp Z0 No w w' [slR A0 c0 zAc.rep x0,rdR 1 0 gl1,rdR 3 0 gl3,zbj (g.2.1) (λz=>zAg.obj (g.2.2) b19_0 z)]) (λn g=>zFd x0 j1 n g.1 g.2.1) fuel (0,p19.1,F19_0) sA (D21.pk [0,1,2,7]) Y (λ_=>rfl) ?_;clear Y;rintro m34 ⟨y32,y33,F33⟩ w34 D34 Y N34;replace Y:zFd x0 j1 (m34+1) y32 y33=some r:=Y;rw [zFd] at Y;refine gg 5 rfl ?_;refine bD Y 5 1 (λh35 Y=>?_) (λh35 Y=>?_)
 ·obtain ⟨z36,e36,Y⟩:=zA7 Y;refine Rn.ixH D34 0 rfl e36 rfl rfl rfl U24 O44 rfl rfl rfl rfl ?_;rintro b36 o36 vs36 hr36 D36;obtain ⟨Ar37,cr37,Ar39,cr39,Ar41,cr41,rfl,fs37,fs39,fs41⟩:=zAc.relE hr36;have D44:=Hp.know1 (M:=[slR Ar37 cr37 zA0.rep z36.Point.Attrs,slR Ar39 cr39 zAq z36.Point.Hist.Pos.Counts,slR Ar41 cr41 zAq z36.Point.Hist.Neg.Counts]) D36 (λ_ h=>h) (knC (λ_ h=>h) fs37 (knC (λ_ h=>h) fs39 (knC (λ_ h=>h) fs41 kn0)));refine Rn.q rfl (V.ldA (vs:=[_,_,_,_,_,_,_,_,_,_,_,_,_,_,_,_,_,_]) V44 O44 rfl (Rd.pre (D44.get 4 rfl).2 18) rfl) (Rn.als rfl rfl rfl Tryz.zeroValue44 rfl O44 rfl rfl rfl rfl (by first|exact zJx rfl|(simp [Value.oneCell'];done)) ?_);intro b45 w45 hb45 m45 e45;have D47:=(D44.addBox hb45 e45 m45).nf [_,_,_,_,_,_,_,_,zAi _ _ [_,_,_,_,_,_,_,_,_,_,_,_,_,_,_,_,_,_]] rfl;refine gg 5 rfl (Rn.q rfl (V.ldB V3 rfl (D47.get 8 rfl) rfl) (gg 1 rfl (Rn.q rfl (V.ldBA [_,_,_,_,_,_,_,_,_,_,_,_,_,_,_,_,_] V42 O42 rfl (D47.get 8 rfl) rfl rfl) ?_)));obtain ⟨z49,e49,Y⟩:=zA7 Y;have D50:=D47.optSome 3 rfl e49;refine Rn.say (t:=29) (pt b19_0 0) rfl (by rw [e49];rfl) ?_;obtain ⟨p48,e48,Y⟩:=zA7 Y;have D51:=D50.dup 1 rfl (λ_ h=>h);have D53:=D51.dup 2 rfl (λ_ h=>h);have D55:=D53.know (zTs zA8.rep [Str (z36.Point.Name),.slice Ar37 (z36.Point.Attrs).length cr37,iv z36.Point.Kind,iv z36.Point.Temp,.bool (z36.Point.Mono),iv z36.Point.Start,iv z36.Point.Time,iv z36.Point.Int_,zAn z36.Point.Re,zAn z36.Point.Im,iv z36.Point.Hist.Scale,zAn z36.Point.Hist.Zero,iv z36.Point.Hist.Pos.Offset,.slice Ar39 (z36.Point.Hist.Pos.Counts).length cr39,iv z36.Point.Hist.Neg.Offset,.slice Ar41 (z36.Point.Hist.Neg.Counts).length cr41,iv z36.Point.Flags] z36.Point) (λ_ h=>h) (show zA8.rep.rel _ _ _ _ from ⟨_,_,rfl,⟨rfl,trivial⟩,⟨_,_,rfl,⟨_,_,rfl,(D53.get 5 rfl).1,(D53.get 5 rfl).2.1,(D53.get 5 rfl).2.2⟩,⟨_,_,rfl,⟨rfl,trivial⟩,⟨_,_,rfl,⟨rfl,trivial⟩,⟨_,_,rfl,⟨rfl,trivial⟩,⟨_,_,rfl,⟨rfl,trivial⟩,⟨_,_,rfl,⟨rfl,trivial⟩,⟨_,_,rfl,⟨rfl,trivial⟩,⟨_,_,rfl,⟨rfl,trivial⟩,⟨_,_,rfl,⟨rfl,trivial⟩,⟨_,_,rfl,⟨_,_,rfl,⟨rfl,trivial⟩,⟨_,_,rfl,⟨rfl,trivial⟩,⟨_,_,rfl,⟨_,_,rfl,⟨rfl,trivial⟩,⟨_,_,rfl,(D53.get 6 rfl).1,(D53.get 6 rfl).2.1,(D53.get 6 rfl).2.2⟩⟩,⟨_,_,rfl,⟨rfl,trivial⟩,⟨_,_,rfl,(D53.get 7 rfl).1,(D53.get 7 rfl).2.1,(D53.get 7 rfl).2.2⟩⟩⟩⟩⟩,⟨rfl,trivial⟩⟩⟩⟩⟩⟩⟩⟩⟩⟩⟩⟩);have D57:=D55.cu [0,1,2,4,5,6,7,8] [3,9,10,11]
  refine Rn.a1 (cK func24) (m_chunk_Chunk_Add_sim e48 D57.lend :) D57 λF48_p0 w48 D59=>?_
  refine gg 7 rfl ?_;refine bD Y 6 6 (λh60 Y=>?_) (λh60 Y=>?_)
  ·have D61:=D59.addNil 5 zBu
   cases Y
   exact Rn.R2 func12 ⟨none,0,rfl,D61.pk [9]⟩
  refine Rn.say (t:=4) (pt b19_0 0) rfl (by rw [e49];rfl) ?_;have D63:=D59.toSome (R:=(λz=>zAg.obj F48_p0 b19_0 z)) 8 rfl;exact N34 ((W64 (y32+1)),(some p48.2),F48_p0) _ _ sA (D63.pk [0,1,2,8]) Y
 exact K1 (y33,F33) _ _ sA (D34.pk [1,2,3]) Y
theorem zP4 {x0:(List UInt8)} {r:zAb} (Y:zNz x0=some r) (f0:(slR A0 c0 zBu x0).H Z0 w) :
 Calls prog 31 #[.slice A0 (x0).length c0] w λx w'=>∃ F_0 b_0,x=.returned (pt b_0 0)∧Hp Z0 No w w' [zAb.obj F_0 b_0 r]:=by
 obtain ⟨D0,D2,hc0⟩:=knA f0;refine eg func31 7 ?_;obtain ⟨p3,e3,Y⟩:=zA7 Y
 refine Rn.c2 (cK func75) (zG5 (Z0:=All) e3 (zA5 (D2.get 0 rfl)) :) λA3_0_0 c3_0_0 w3 Q3=>?_
 have D5:=D2.callF (flC (zAm zEj _ _ _ _) fl0) Q3;refine Rn.q rfl (V.bldS (cs:=[_,_,_]) zg7 rfl rfl) (Rn.box rfl rfl rfl rfl rfl ?_);intro b6 w6 hb6 m6 e6;have D8:=(D5.addBox hb6 e6 m6).nf [_,_,zAi _ _ [_,_,_]] rfl;refine gg 2 rfl ?_;have D10:=D8.freeze 1 rfl;have D11:=D10.dup 1 rfl (λ_ h=>h);have D14:=D11.cu [0,1] [2,3];obtain ⟨F13,D13⟩:=D14.fold (zAb.sh b6 (⟨p3,0,0⟩:zAb)) ⟨A3_0_0,c3_0_0,rfl⟩
 cases Y
 exact Rn.R1 func31 ⟨F13,b6,rfl,D13.pk [2]⟩
theorem zGg {x0:zAb} {r:Int} (Y:zE5 x0=some r) (f0:(fzR (zAb.obj F0 b0 x0)).H Z0 w) :
 Calls prog 78 #[pt b0 0] w λx w'=>x=.returned (iv r)∧Hp Z0 No w w' []:=by
 obtain ⟨D0,D2,hc0⟩:=knA f0;refine eg func78 5 ?_;obtain ⟨_,⟨A4_0,c4_0,rfl⟩,D4⟩:=D2.unfz 0 rfl;replace D4:=D4.nq;have D8:=D4.fzS 2 rfl;refine Rn.drawP rfl D8 ?_;intro w3 D3;refine dq [0,1,2] ?_;refine RH.tp 3 rfl (V.ldB V22 rfl (D3.getz 1 rfl) rfl) ?_;refine RH.tp 4 rfl (V.lenV U22 rfl) ?_;refine dq [5,6,7] ?_;refine RH.tp 8 rfl (V.ldB V3 rfl (D3.getz 1 rfl) rfl) ?_;refine dq [9,10] ?_;refine RH.dn ?_
 cases Y
 exact Rn.R1 func78 ⟨rfl,D3.pk []⟩
theorem zP5 {x0:UInt8} {r:Int} (Y:zO x0=some r)  :
 Calls prog 190 #[u8v x0] w λx w'=>x=.returned (iv r)∧Hp Z0 No w w' []:=by
 have D0:=Hp.nil Z0 No w;have hc0:=Calm.nil;refine eg func190 7 ?_;obtain ⟨z1,e1,Y⟩:=zA7 Y;refine Rn.q rfl (V.idxSZ U9 rfl rfl e1) (Rn.q rfl (V.cv8i (a:=z1) U5 U3 rfl) (gg 2 rfl ?_))
 cases Y
 exact Rn.R1 func190 ⟨rfl,D0.pk []⟩
theorem zKy {x0:UInt8} {r:Int} (Y:zDp x0=some r)  :
 Calls prog 132 #[u8v x0] w λx w'=>x=.returned (iv r)∧Hp Z0 No w w' []:=by
 have D0:=Hp.nil Z0 No w;have hc0:=Calm.nil;refine eg func132 7 ?_;obtain ⟨p1,e1,Y⟩:=zA7 Y
 refine Rn.c0 (cK func190) (zP5 (Z0:=All) e1  :) D0 λw1 _ D2=>?_
 refine gg 3 rfl ?_
 cases Y
 exact Rn.R1 func132 ⟨rfl,D2.pk []⟩
theorem m_pack_Reader_fail_sim {x0:zAb} {x1:Int} {r:zAb} (Y:zMh x0 x1=some r) (hL:zKt Z0 w [zAb.obj F0 b0 x0]) :
 Calls prog 77 #[pt b0 0,iv x1] w λx w'=>∃ F_p0,x=.returned (.tuple #[])∧Hp Z0 (LS [zAb.obj F0 b0 x0]) w w' [zAb.obj F_p0 b0 r]:=by
 have D0:=hL.start;refine eg func77 5 ?_;obtain ⟨_,⟨A2_0,c2_0,rfl⟩,D2⟩:=D0.unf 0 rfl;replace D2:=D2.nq;refine Rn.q rfl (V.ldB V25 rfl (D2.get 0 rfl) rfl) (gg 2 rfl ?_);refine bD Y 5 1 (λh4 Y=>?_) (λh4 Y=>?_)
 ·refine Rn.sq rfl O25 rfl rfl (D2.get 0 rfl) ?_;intro w5 m5 x5;have D6:=(D2.st 0 rfl x5 m5).nf [zAi _ _ [_,_,_],_] rfl;refine gg 1 rfl ?_;have D7:=D6.dup 1 rfl (λ_ h=>h);have D10:=D7.cu [1] [0,2];obtain ⟨F9,D9⟩:=D10.fold (zAb.sh b0 (⟨x0.b,x0.at_,x1⟩:zAb)) ⟨A2_0,c2_0,rfl⟩;refine Rn.end0 func77 rfl ?_;obtain rfl:=zF3 Y;exact ⟨F9,rfl,D9.pk [1]⟩
 have D11:=D2.dup 1 rfl (λ_ h=>h);have D14:=D11.cu [1] [0,2];obtain ⟨F13,D13⟩:=D14.fold (zAb.sh b0 x0) ⟨A2_0,c2_0,rfl⟩;refine Rn.end0 func77 rfl ?_;obtain rfl:=zF3 Y;exact ⟨F13,rfl,D13.pk [1]⟩
theorem m_pack_Reader_Num_sim {x0:zAb} {r:(UInt64×zAb)} (Y:zIe x0=some r) (hL:zKt Z0 w [zAb.obj F0 b0 x0]) :
 Calls prog 76 #[pt b0 0] w λx w'=>∃ F_p0,x=.returned (zAn r.1)∧Hp Z0 (LS [zAb.obj F0 b0 x0]) w w' [zAb.obj F_p0 b0 r.2]:=by
 have D0:=hL.start;refine eg func76 5 ?_;obtain ⟨j1,hj1,Y⟩:=jnE Y;refine Rn.joinL (r:=r) (G:=(Nat→Prop)) 0 rfl (λg=>[(0,pt b0 0)]) (λg w'=>Hp Z0 (LS [zAb.obj F0 b0 x0]) w w' [zAb.obj g b0 x0]) (λg=>j1 ()) ?_ ?_
 ·subst hj1;clear Y;rintro F2 w3 D3 Y
  try dsimp only at Y
  refine gg 3 rfl ?_;obtain ⟨p4,e4,Y⟩:=zA7 Y;have D5:=D3.cu [] [0]
  refine Rn.a1 (cK func77) (m_pack_Reader_fail_sim e4 D5.lend :) D5 λF4_p0 w4 D7=>?_
  refine gg 5 rfl ?_
  cases Y
  exact Rn.R1 func76 ⟨F4_p0,rfl,D7.pk [0]⟩
 intro K1;clear hj1;refine gg 14 rfl ?_;obtain ⟨_,⟨A8_0,c8_0,rfl⟩,D8⟩:=D0.unf 0 rfl;replace D8:=D8.nq;refine Rn.q rfl (V.ldB V25 rfl (D8.get 0 rfl) rfl) (gg 2 rfl ?_);refine aD Y (λh10 Y=>?_) (λh10 Y=>?_)
 ·cases Y
 refine gg 5 rfl ?_;have D12:=D8.dup 1 rfl (λ_ h=>h);have D15:=D12.cu [1] [0,2];obtain ⟨F14,D14⟩:=D15.fold (zAb.sh b0 x0) ⟨A8_0,c8_0,rfl⟩;obtain ⟨p11,e11,Y⟩:=zA7 Y
 refine Rn.c0 (cK func78) (zGg (Z0:=All) e11 (zD8 (D14.get 1 rfl)) :) D14 λw11 _ D16=>?_
 refine gg 2 rfl ?_;refine aD Y (λh17 Y=>?_) (λh17 Y=>?_)
 ·cases Y
 refine gg 2 rfl ?_;refine Rn.drawH rfl D16 ?_;intro w18 D18;refine dq [0,1,2] ?_;obtain ⟨_,⟨A19_0,c19_0,rfl⟩,D19⟩:=D18.unf 1 rfl;replace D19:=D19.nq;refine RH.tk 3 rfl (λw' hDr=>V.ldB V22 rfl ((D19.ext hDr).get 1 rfl) rfl) ?_;refine dq [4,5,6] ?_;refine RH.ho 7 rfl (V.ldB V3 rfl (D19.get 1 rfl) rfl) ?_;obtain ⟨z21,e21,Y⟩:=zA7 Y;obtain ⟨kk21,ke21,kz21,kl21⟩:=zJb e21;obtain ⟨b21,o21,vs21,hA21,hD21,hR21,hrel21⟩:=Hp.at D19 2 rfl kz21;obtain ⟨rfl,_⟩:=hrel21;have D23:=Hp.knowL [rdR b21 (o21+kk21*1) [u8v z21]] _ D19 (knC (λ_ h=>h) ⟨λ_=>hD21,hR21⟩ kn0);refine RH.ho 8 rfl (V.ixA' hA21 kk21 U22 O5 rfl rfl ke21 kl21) ?_;refine RH.ho 9 rfl (V.ldR0 V5 rfl (D23.get 3 rfl).2 rfl) ?_;refine RH.ho 10 rfl (V.com8 (a:=z21) rfl) ?_;obtain ⟨p24,e24,Y⟩:=zA7 Y;refine RH.cq (cK func132) 11 (zKy (Z0:=All) e24  :) ?_;rintro _ w24 ⟨rfl,Q24⟩;refine ⟨_,rfl,((Ext.refl _).trans Q24.fr),?_⟩;have D25:=D23.call0 Q24;refine dq [12] ?_;refine RH.dn ?_;refine gg 5 rfl ?_;have D27:=D25.dup 2 rfl (λ_ h=>h);have D30:=D27.cu [0,2,3] [1,4];obtain ⟨F29,D29⟩:=D30.fold (zAb.sh b0 x0) ⟨A19_0,c19_0,rfl⟩;obtain ⟨p26,e26,Y⟩:=zA7 Y
 refine Rn.c0 (cK func78) (zGg (Z0:=All) e26 (zD8 (D29.get 3 rfl)) :) D29 λw26 _ D31=>?_
 refine gg 2 rfl ?_;refine aD Y (λh32 Y=>?_) (λh32 Y=>?_)
 ·cases Y
 refine gg 7 rfl ?_;refine Rn.jG D0 Y (G:=UInt64×(Nat→Prop)) (λg=>[(0,pt b0 0),(3,iv p24),(4,zAn (g.1))]) (λg=>[zAb.obj (g.2) b0 x0]) (λj g=>j g.1) ?_ ?_
 ·rintro ⟨y34,F33⟩ w35 D35 Y
  try dsimp only at Y
  refine gg 2 rfl ?_;refine Rn.drawP rfl D35 ?_;intro w36 D36;refine dq [0,1,2] ?_;obtain ⟨_,⟨A37_0,c37_0,rfl⟩,D37⟩:=D36.unf 0 rfl;replace D37:=D37.nq;refine RH.tp 3 rfl (V.ldB V22 rfl (D37.get 0 rfl) rfl) ?_;refine dq [4,5,6] ?_;refine RH.tp 7 rfl (V.ldB V3 rfl (D37.get 0 rfl) rfl) ?_;refine dq [8,9,10,11] ?_;refine RH.tp 12 rfl (V.ldB V3 rfl (D37.get 0 rfl) rfl) ?_;refine dq [13,14,15] ?_;obtain ⟨z39,e39,Y⟩:=zA7 Y;refine RH.cutH 16 (by kernel_rfl) D37 1 rfl e39 rfl rfl rfl U22 O5 rfl rfl rfl rfl rfl ?_;intro A39 c39 D39;refine RH.tp 17 rfl (V.lenV U22 rfl) ?_;refine dq [18] ?_;refine RH.dn ?_;have D41:=D39.dup 1 rfl (λ_ h=>h);have D44:=D41.cu [1,2] [0,3];obtain ⟨F43,D43⟩:=D44.fold (zAb.sh b0 x0) ⟨A37_0,c37_0,rfl⟩;refine Rn.jG D0 Y (G:=UInt64×(Nat→Prop)) (λg=>[(0,pt b0 0),(3,iv p24),(4,zAn (g.1))]) (λg=>[zAb.obj (g.2) b0 x0]) (λj g=>j g.1) ?_ ?_
  ·rintro ⟨y46,F45⟩ w47 D47 Y
   try dsimp only at Y
   refine gg 4 rfl ?_;obtain ⟨p48,e48,Y⟩:=zA7 Y
   refine Rn.c0 (cK func133) (zN4 (Z0:=All) e48  :) D47 λw48 _ D49=>?_
   refine gg 3 rfl ?_;refine aD Y (λh50 Y=>?_) (λh50 Y=>?_)
   ·cases Y
   refine gg 6 rfl ?_;obtain ⟨_,⟨A51_0,c51_0,rfl⟩,D51⟩:=D49.unf 0 rfl;replace D51:=D51.nq;refine Rn.q rfl (V.ldB V3 rfl (D51.get 0 rfl) rfl) (gg 5 rfl (Rn.sq rfl O3 rfl rfl (D51.get 0 rfl) ?_));intro w53 m53 x53;have D54:=(D51.st 0 rfl x53 m53).nf [zAi _ _ [_,_,_],_] rfl;refine gg 7 rfl ?_;have D55:=D54.dup 1 rfl (λ_ h=>h);have D58:=D55.cu [1] [0,2];obtain ⟨F57,D57⟩:=D58.fold (zAb.sh b0 (⟨x0.b,W64 (x0.at_+(W64 (1+p24))),x0.e⟩:zAb)) ⟨A51_0,c51_0,rfl⟩
   cases Y
   exact Rn.R1 func76 ⟨F57,rfl,D57.pk [1]⟩
  intro j3 Y K3;refine gg 1 rfl ?_;refine Rn.loopF (G:=UInt64×Int×(Nat→Prop)) (λg=>[(0,pt b0 0),(3,iv p24),(4,zAn (g.1)),(64,.slice A39 (z39).length c39),(65,iv (z39.length:Int)),(66,iv (g.2.1))]) (λg w'=>Hp Z0 (LS [zAb.obj F0 b0 x0]) w w' [slR A39 c39 zBu z39,zAb.obj (g.2.2) b0 x0]) (λn g=>zD7 z39 j3 n g.1 g.2.1) fuel (y34,0,F43) sA (D43.pk [1,2]) Y (λ_=>rfl) ?_;clear Y;rintro m62 ⟨y60,y61,F59⟩ w62 D62 Y N62;replace Y:zD7 z39 j3 (m62+1) y60 y61=some r:=Y;rw [zD7] at Y;refine gg 5 rfl ?_;refine bD Y 5 1 (λh63 Y=>?_) (λh63 Y=>?_)
  ·obtain ⟨z64,e64,Y⟩:=zA7 Y;refine Rn.ixH D62 0 rfl e64 rfl rfl rfl U22 O5 rfl rfl rfl rfl ?_;rintro b64 o64 vs64 ⟨rfl,_⟩ D64;refine Rn.q rfl (V.ldR0 V5 rfl (D64.get 2 rfl).2 rfl) (gg 4 rfl (Rn.q rfl (V.sh64 rfl rfl _ 8 rfl rfl (za4 _ _ _ 8 (by decide))) (gg 1 rfl (Rn.q rfl (V.cv64 U5 U35 rfl) (Rn.q rfl (V.o64 rfl rfl (y60<<<UInt64.ofNat 8) (zAf ((z64).toNat:Int)) rfl rfl (zXf _ _ _)) (gg 7 rfl ?_))))));exact N62 (((y60<<<UInt64.ofNat 8)|||(zAf ((z64).toNat:Int))),(W64 (y61+1)),F59) _ _ sA (D64.pk [0,1]) Y
  exact K3 (y60,F59) _ _ sA (D62.pk [1]) Y
 intro j2 Y K2;refine aD Y (λh66 Y=>?_) (λh66 Y=>?_)
 ·refine Rn.drawP rfl D31 ?_;intro w67 D67;refine dq [0,1,2] ?_;obtain ⟨_,⟨A68_0,c68_0,rfl⟩,D68⟩:=D67.unf 3 rfl;replace D68:=D68.nq;refine RH.tp 3 rfl (V.ldB V22 rfl (D68.get 3 rfl) rfl) ?_;refine dq [4,5,6] ?_;refine RH.tp 7 rfl (V.ldB V3 rfl (D68.get 3 rfl) rfl) ?_;obtain ⟨z70,e70,Y⟩:=zA7 Y;obtain ⟨kk70,ke70,kz70,kl70⟩:=zJb e70;obtain ⟨b70,o70,vs70,hA70,hD70,hR70,hrel70⟩:=Hp.at D68 4 rfl kz70;obtain ⟨rfl,_⟩:=hrel70;have D72:=Hp.knowL [rdR b70 (o70+kk70*1) [u8v z70]] _ D68 (knC (λ_ h=>h) ⟨λ_=>hD70,hR70⟩ kn0);refine RH.tp 8 rfl (V.ixA' hA70 kk70 U22 O5 rfl rfl ke70 kl70) ?_;refine RH.tp 9 rfl (V.ldR0 V5 rfl (D72.get 5 rfl).2 rfl) ?_;refine dq [10] ?_;refine RH.tp 11 rfl (V.cv64 U3 U137 rfl) ?_;refine RH.tp 12 rfl (V.shr8 (a:=(127:UInt8)) (m:=(zAf p24).toNat) rfl rfl) ?_;refine RH.tp 13 rfl (V.and8 (a:=z70) (b:=shr8 (127:UInt8) ((zAf p24).toNat)) rfl rfl) ?_;refine RH.tp 14 rfl (V.cv64 U5 U35 rfl) ?_;refine dq [15] ?_;refine RH.dn ?_;have D73:=D72.dup 4 rfl (λ_ h=>h);have D76:=D73.cu [0,1,2,4,5] [3,6];obtain ⟨F75,D75⟩:=D76.fold (zAb.sh b0 x0) ⟨A68_0,c68_0,rfl⟩;exact K2 ((zAf ((z70&&&(shr8 (127:UInt8) ((zAf p24).toNat))).toNat:Int)),F75) _ _ sA (D75.pk [5]) Y
 refine gg 1 rfl ?_;exact K2 ((0:UInt64),F29) _ _ sA (D31.pk [3]) Y
theorem m_pack_Reader_Count_sim {x0:zAb} {x1:Int} {r:(Int×zAb)} (Y:zCe x0 x1=some r) (hL:zKt Z0 w [zAb.obj F0 b0 x0]) :
 Calls prog 33 #[pt b0 0,iv x1] w λx w'=>∃ F_p0,x=.returned (iv r.1)∧Hp Z0 (LS [zAb.obj F0 b0 x0]) w w' [zAb.obj F_p0 b0 r.2]:=by
 have D0:=hL.start;refine eg func33 9 ?_;obtain ⟨_,⟨A2_0,c2_0,rfl⟩,D2⟩:=D0.unf 0 rfl;replace D2:=D2.nq;refine Rn.q rfl (V.ldB V3 rfl (D2.get 0 rfl) rfl) (gg 5 rfl ?_);have D5:=D2.dup 1 rfl (λ_ h=>h);have D8:=D5.cu [1] [0,2];obtain ⟨F7,D7⟩:=D8.fold (zAb.sh b0 x0) ⟨A2_0,c2_0,rfl⟩;obtain ⟨p4,e4,Y⟩:=zA7 Y;have D9:=D7.cu [0] [1]
 refine Rn.a1 (cK func76) (m_pack_Reader_Num_sim e4 D9.lend :) D9 λF4_p0 w4 D11=>?_
 refine gg 8 rfl ?_;obtain ⟨_,⟨A12_0,c12_0,rfl⟩,D12⟩:=D11.unf 1 rfl;replace D12:=D12.nq;refine Rn.q rfl (V.ldB V25 rfl (D12.get 1 rfl) rfl) (gg 2 rfl ?_);refine Rn.cutR [] [(0,pt b0 0),(5,iv x0.at_),(6,zAn p4.1),(27,.bool (decide ((p4.2.e=0)∧((x1<0)∨(((p4.1).toNat:Int)>((zAf x1).toNat:Int))))))] (λK14=>?_) ?_
 ·refine Rn.partD (t:=18) rfl (λh15=>?_) (λh15=>?_)
  ·refine gg 3 rfl ?_;refine Rn.cutR [14] [(0,pt b0 0),(5,iv x0.at_),(6,zAn p4.1),(18,.bool true),(26,.bool (decide ((x1<0)∨(((p4.1).toNat:Int)>((zAf x1).toNat:Int)))))] (λK16=>?_) ?_
   ·refine Rn.partD (t:=21) rfl (λh17=>?_) (λh17=>?_)
    ·refine gg 5 rfl ?_;exact K16 _ sA
    refine gg 2 rfl (Rn.q rfl (V.cv64 U3 U35 rfl) (Rn.q rfl (V.gtr rfl rfl) (gg 1 rfl ?_)));exact K16 _ sA
   refine gg 1 rfl ?_;exact K14 _ sA
  refine gg 9 rfl ?_;exact K14 _ sA
 refine gg 1 rfl ?_;refine aD Y (λh18 Y=>?_) (λh18 Y=>?_)
 ·cases Y
 refine gg 4 rfl (Rn.q rfl (V.cvW U35 U3 rfl) (gg 2 rfl ?_));have D19:=D12.dup 2 rfl (λ_ h=>h);have D22:=D19.cu [0,2] [1,3];obtain ⟨F21,D21⟩:=D22.fold (zAb.sh b0 p4.2) ⟨A12_0,c12_0,rfl⟩
 cases Y
 exact Rn.R1 func33 ⟨F21,rfl,D21.pk [2]⟩
theorem m_pack_Reader_Raw_sim {x0:zAb} {x1:Int} {r:((List UInt8)×zAb)} (Y:zG4 x0 x1=some r) (hL:zKt Z0 w [zAb.obj F0 b0 x0]) :
 Calls prog 34 #[pt b0 0,iv x1] w λx w'=>∃ A_0_0 c_0_0 F_p0,x=.returned (.slice A_0_0 (r.1).length c_0_0)∧Hp Z0 (LS [zAb.obj F0 b0 x0]) w w' [zAy 5 A_0_0 c_0_0 zBu r.1,zAb.obj F_p0 b0 r.2]:=by
 have D0:=hL.start;refine eg func34 11 ?_;obtain ⟨_,⟨A2_0,c2_0,rfl⟩,D2⟩:=D0.unf 0 rfl;replace D2:=D2.nq;refine Rn.q rfl (V.ldB V25 rfl (D2.get 0 rfl) rfl) (gg 3 rfl ?_);refine aD Y (λh4 Y=>?_) (λh4 Y=>?_)
 ·cases Y
 refine gg 6 rfl ?_;refine aD Y (λh5 Y=>?_) (λh5 Y=>?_)
 ·cases Y
 refine gg 4 rfl ?_;have D7:=D2.dup 1 rfl (λ_ h=>h);have D10:=D7.cu [1] [0,2];obtain ⟨F9,D9⟩:=D10.fold (zAb.sh b0 x0) ⟨A2_0,c2_0,rfl⟩;obtain ⟨p6,e6,Y⟩:=zA7 Y
 refine Rn.c0 (cK func78) (zGg (Z0:=All) e6 (zD8 (D9.get 1 rfl)) :) D9 λw6 _ D11=>?_
 refine gg 3 rfl ?_;refine aD Y (λh12 Y=>?_) (λh12 Y=>?_)
 ·cases Y
 refine gg 7 rfl ?_;obtain ⟨_,⟨A13_0,c13_0,rfl⟩,D13⟩:=D11.unf 1 rfl;replace D13:=D13.nq;refine Rn.q rfl (V.ldB V3 rfl (D13.get 1 rfl) rfl) (gg 4 rfl (Rn.sq rfl O3 rfl rfl (D13.get 1 rfl) ?_));intro w15 m15 x15;have D16:=(D13.st 1 rfl x15 m15).nf [_,zAi _ _ [_,_,_],_] rfl;refine gg 2 rfl ?_;refine Rn.drawH rfl D16 ?_;intro w17 D17;refine dq [0,1,2] ?_;refine RH.tk 3 rfl (λw' hDr=>V.ldB V22 rfl ((D17.ext hDr).get 1 rfl) rfl) ?_;refine dq [4,5,6] ?_;refine RH.tk 7 rfl (λw' hDr=>V.ldB V3 rfl ((D17.ext hDr).get 1 rfl) rfl) ?_;refine dq [8,9,10,11,12] ?_;refine RH.ho 13 rfl (V.ldB V3 rfl (D17.get 1 rfl) rfl) ?_;obtain ⟨z18,e18,Y⟩:=zA7 Y;refine RH.cutH 14 (by kernel_rfl) D17 2 rfl e18 rfl rfl rfl U22 O5 rfl rfl rfl rfl rfl ?_;intro A18 c18 D18;obtain ⟨p20,e20,Y⟩:=zA7 Y;refine RH.cq (cK func75) 15 (zG5 (Z0:=All) e20 (zA5 (D18.get 3 rfl)) :) ?_;rintro _ w20 ⟨A20_0_0,c20_0_0,rfl,Q20⟩;refine ⟨_,rfl,((Ext.refl _).trans Q20.fr),?_⟩;have D22:=D18.callF (flC (zAm zEj _ _ _ _) fl0) Q20;refine dq [16] ?_;refine RH.dn ?_;have D23:=D22.dup 2 rfl (λ_ h=>h);have D26:=D23.cu [0,2,3,4] [1,5];obtain ⟨F25,D25⟩:=D26.fold (zAb.sh b0 (⟨x0.b,W64 (x0.at_+x1),x0.e⟩:zAb)) ⟨A13_0,c13_0,rfl⟩
 cases Y
 exact Rn.R1 func34 ⟨A20_0_0,c20_0_0,F25,rfl,D25.pk [3,4]⟩
theorem m_pack_Reader_Text_sim {x0:zAb} {x1:Int} {r:((List UInt8)×zAb)} (Y:zFg x0 x1=some r) (hL:zKt Z0 w [zAb.obj F0 b0 x0]) :
 Calls prog 32 #[pt b0 0,iv x1] w λx w'=>∃ F_p0,x=.returned (Str (r.1))∧Hp Z0 (LS [zAb.obj F0 b0 x0]) w w' [zAb.obj F_p0 b0 r.2]:=by
 have D0:=hL.start;refine eg func32 9 ?_;obtain ⟨_,⟨A2_0,c2_0,rfl⟩,D2⟩:=D0.unf 0 rfl;replace D2:=D2.nq;refine Rn.q rfl (V.ldB V3 rfl (D2.get 0 rfl) rfl) (gg 7 rfl ?_);have D5:=D2.dup 1 rfl (λ_ h=>h);have D8:=D5.cu [1] [0,2];obtain ⟨F7,D7⟩:=D8.fold (zAb.sh b0 x0) ⟨A2_0,c2_0,rfl⟩;obtain ⟨p4,e4,Y⟩:=zA7 Y;have D9:=D7.cu [0] [1]
 refine Rn.a1 (cK func33) (m_pack_Reader_Count_sim e4 D9.lend :) D9 λF4_p0 w4 D11=>?_
 obtain ⟨p12,e12,Y⟩:=zA7 Y;have D13:=D11.cu [0] [1];refine Rn.cq (cK func34) (m_pack_Reader_Raw_sim e12 D13.lend :) ?_;rintro _ w12 ⟨A12_0_0,c12_0_0,F12_p0,rfl,Q12⟩;refine ⟨_,rfl,?_⟩;have D16:=D13.callAZ Q12;refine gg 8 rfl ?_;obtain ⟨_,⟨A17_0,c17_0,rfl⟩,D17⟩:=D16.unf 2 rfl;replace D17:=D17.nq;refine Rn.q rfl (V.ldB V25 rfl (D17.get 2 rfl) rfl) (gg 2 rfl ?_);refine aD Y (λh19 Y=>?_) (λh19 Y=>?_)
 ·cases Y
 refine gg 4 rfl (Rn.q rfl (V.b2s U22 U9 U5 rfl rfl (Own.sl (D17.get 1 rfl))) (gg 2 rfl ?_));have D20:=D17.dup 3 rfl (λ_ h=>h);have D23:=D20.cu [0,1,3] [2,4];obtain ⟨F22,D22⟩:=D23.fold (zAb.sh b0 p12.2) ⟨A17_0,c17_0,rfl⟩
 cases Y
 exact Rn.R1 func32 ⟨F22,rfl,D22.pk [3]⟩
theorem zJu {x0:zAb} {r:Int} (Y:zGt x0=some r) (f0:(fzR (zAb.obj F0 b0 x0)).H Z0 w) :
 Calls prog 35 #[pt b0 0] w λx w'=>x=.returned (iv r)∧Hp Z0 No w w' []:=by
 obtain ⟨D0,D2,hc0⟩:=knA f0;refine eg func35 10 ?_;obtain ⟨_,⟨A3_0,c3_0,rfl⟩,D3⟩:=D2.unfz 0 rfl;replace D3:=D3.nq;have D7:=D3.fzS 2 rfl;refine Rn.q rfl (V.ldB V25 rfl (D7.getz 1 rfl) rfl) (gg 2 rfl ?_);refine Rn.jR D0 Y (G:=Bool) [] (λg=>[(0,pt b0 0),(12,.bool (g))]) (λg=>[fzR (zAb.obj F0 b0 x0),fzR (zAi b0 134 [.slice A3_0 (x0.b).length c3_0,iv x0.at_,iv x0.e]),slR A3_0 c3_0 zBu x0.b]) (λj g=>j g) ?_ ?_
 ·rintro y8 w9 D9 Y
  try dsimp only at Y
  refine gg 1 rfl ?_;refine aS Y (λh10 Y=>?_) (λh10 Y=>?_)
  ·cases Y
  refine gg 6 rfl (Rn.q rfl (V.ldB V25 rfl (D9.getz 1 rfl) rfl) (gg 2 rfl ?_))
  cases Y
  exact Rn.R1 func35 ⟨rfl,D9.pk []⟩
 intro j1 Y K1;refine zKs Y (Rn.partD (t:=8) rfl) (λh11 Y=>?_) (λh11 Y=>?_)
 ·refine gg 1 rfl ?_;obtain ⟨p12,e12,Y⟩:=zA7 Y
  refine Rn.c0 (cK func78) (zGg (Z0:=All) e12 (zU0 (D7.get 0 rfl)) :) D7 λw12 _ D13=>?_
  refine gg 2 rfl ?_;exact K1 (decide (p12>0)) _ _ sA (D13.pk [0,1,3]) Y
 cases Y
theorem zIy {x0:(List UInt8)} {x1:UInt8} {r:Int} (Y:zEk x0 x1=some r)  :
 Calls prog 204 #[Str (x0),u8v x1] w λx w'=>x=.returned (iv r)∧Hp Z0 No w w' []:=by
 have D0:=Hp.nil Z0 No w;have hc0:=Calm.nil;refine eg func204 8 ?_;refine Rn.q rfl (V.indexByte (s:=x0) (c:=x1) func228 (by kernel_rfl) (by kernel_rfl) (by kernel_rfl) (by kernel_rfl) rfl) (gg 2 rfl ?_)
 cases Y
 exact Rn.R1 func204 ⟨rfl,D0.pk []⟩
theorem zJr {x0:(List UInt8)} {x1:(List UInt8)} {r:Int} (Y:zE3 x0 x1=some r)  :
 Calls prog 161 #[Str (x0),Str (x1)] w λx w'=>x=.returned (iv r)∧Hp Z0 No w w' []:=by
 have D0:=Hp.nil Z0 No w;have hc0:=Calm.nil;refine eg func161 7 ?_;refine Rn.q rfl (V.lenS U9 rfl) (gg 9 rfl ?_);refine Rn.cutR [7] [(0,Str (x0)),(1,Str (x1)),(5,iv (x1.length:Int)),(23,.bool (decide (((x1.length:Int)=0)∨(x1=x0))))] (λK1=>?_) ?_
 ·refine Rn.partD (t:=19) rfl (λh2=>?_) (λh2=>?_)
  ·refine gg 4 rfl ?_;exact K1 _ sA
  refine gg 2 rfl (Rn.q rfl (V.eqlS rfl rfl) (gg 1 rfl ?_));exact K1 _ sA
 refine gg 2 rfl ?_;refine bD Y 4 6 (λh3 Y=>?_) (λh3 Y=>?_)
 ·cases Y
  exact Rn.R1 func161 ⟨rfl,D0.pk []⟩
 refine bD Y 4 4 (λh4 Y=>?_) (λh4 Y=>?_)
 ·obtain ⟨z5,e5,Y⟩:=zA7 Y;refine Rn.q rfl (V.idxSZ U9 rfl rfl e5) ?_;obtain ⟨p6,e6,Y⟩:=zA7 Y
  refine Rn.c0 (cK func204) (zIy (Z0:=All) e6  :) D0 λw6 _ D7=>?_
  refine gg 2 rfl ?_
  cases Y
  exact Rn.R1 func161 ⟨rfl,D7.pk []⟩
 refine Rn.q rfl (V.lenS U9 rfl) (gg 3 rfl ?_);refine aD Y (λh8 Y=>?_) (λh8 Y=>?_)
 ·refine gg 4 rfl ?_
  cases Y
  exact Rn.R1 func161 ⟨rfl,D0.pk []⟩
 cases Y
theorem zKp {x0:(List UInt8)} {x1:(List UInt8)} {r:((List UInt8)×(List UInt8)×Bool)} (Y:zGp x0 x1=some r)  :
 Calls prog 102 #[Str (x0),Str (x1)] w λx w'=>x=.returned (.tuple #[Str (r.1),Str (r.2.1),.bool (r.2.2)])∧Hp Z0 No w w' []:=by
 have D0:=Hp.nil Z0 No w;have hc0:=Calm.nil;refine eg func102 11 ?_;obtain ⟨p1,e1,Y⟩:=zA7 Y
 refine Rn.c0 (cK func161) (zJr (Z0:=All) e1  :) D0 λw1 _ D2=>?_
 refine gg 7 rfl ?_;refine bD Y 1 8 (λh3 Y=>?_) (λh3 Y=>?_)
 ·refine Rn.drawP rfl D2 ?_;intro w4 D4;refine dq [0,1] ?_;obtain ⟨z5,e5,Y⟩:=zA7 Y;refine RH.tp 2 rfl (V.cutSZ U9 rfl e5 rfl rfl) ?_;refine dq [3,4,5] ?_;refine RH.tp 6 rfl (V.lenS U9 rfl) ?_;refine dq [7] ?_;obtain ⟨z6,e6,Y⟩:=zA7 Y;refine RH.tp 8 rfl (V.cutSZ U9 rfl e6 rfl rfl) ?_;refine dq [9,10,11] ?_;refine RH.dn ?_;refine Rn.retG3 func102 rfl (rvT rfl) (rvT rfl) (rvT rfl) ?_;obtain rfl:=zF3 Y;exact ⟨rfl,D4.pk []⟩
 refine Rn.retG3 func102 rfl (rvT rfl) (rvT rfl) (rvT rfl) ?_;obtain rfl:=zF3 Y;exact ⟨rfl,D2.pk []⟩
theorem zIc {x0:(List UInt8)} {x1:(List UInt8)} {r:((List UInt8)×(List UInt8)×Bool)} (Y:zHg x0 x1=some r)  :
 Calls prog 55 #[Str (x0),Str (x1)] w λx w'=>x=.returned (.tuple #[Str (r.1),Str (r.2.1),.bool (r.2.2)])∧Hp Z0 No w w' []:=by
 have D0:=Hp.nil Z0 No w;have hc0:=Calm.nil;refine eg func55 10 ?_;obtain ⟨p1,e1,Y⟩:=zA7 Y
 refine Rn.c0 (cK func102) (zKp (Z0:=All) e1  :) D0 λw1 _ D2=>?_
 refine gg 7 rfl ?_;refine Rn.retG3 func55 rfl (rvT rfl) (rvT rfl) (rvT rfl) ?_;obtain rfl:=zF3 Y;exact ⟨rfl,D2.pk []⟩
theorem zR5 {x0:(List UInt8)} {r:(zA0×Int)} (Y:zMj x0=some r)  :
 Calls prog 104 #[Str (x0)] w λx w'=>x=.returned (.tuple #[.agg [Str (r.1.Key),Str (r.1.Val)].toArray,iv r.2])∧Hp Z0 No w w' []:=by
 have D0:=Hp.nil Z0 No w;have hc0:=Calm.nil;refine eg func104 2 ?_
 refine Rn.al D0 Tryz.zeroValue118 λb1 w1 D3=>?_
 replace D3:=D3.nf [zAi _ _ [_,_]] rfl;refine gg 5 rfl ?_;obtain ⟨p4,e4,Y⟩:=zA7 Y
 refine Rn.c0 (cK func55) (zIc (Z0:=All) e4  :) D3 λw4 _ D5=>?_
 refine gg 12 rfl (Rn.q rfl (V.notB rfl) (gg 1 rfl ?_));refine Rn.jR D0 Y (G:=Bool) [7,8,9,10,11] (λg=>[(2,pt b1 0),(4,Str (p4.1)),(5,Str (p4.2.1)),(19,.bool (g))]) (λg=>[zAi b1 118 [Str (([]:List UInt8)),Str (([]:List UInt8))]]) (λj g=>j g) ?_ ?_
 ·rintro y6 w7 D7 Y
  try dsimp only at Y
  refine gg 1 rfl ?_;refine Rn.jR D0 Y (G:=Bool) [] (λg=>[(2,pt b1 0),(4,Str (p4.1)),(5,Str (p4.2.1)),(24,.bool (g))]) (λg=>[zAi b1 118 [Str (([]:List UInt8)),Str (([]:List UInt8))]]) (λj g=>j g) ?_ ?_
  ·rintro y8 w9 D9 Y
   try dsimp only at Y
   refine gg 1 rfl ?_;refine bS Y 2 5 (λh10 Y=>?_) (λh10 Y=>?_)
   ·refine Rn.q rfl (V.bldS (cs:=[_,_]) zg8 rfl rfl) (Rn.sq rfl O118 rfl rfl (D9.get 0 rfl) ?_);intro w11 m11 x11;have D12:=(D9.st 0 rfl x11 m11).nf [zAi _ _ [_,_]] rfl;refine gg 2 rfl ?_;refine Rn.retG2 func104 rfl (rvC rfl V118 O118 (D12.get 0 rfl) rfl) (rvT rfl) ?_;obtain rfl:=zF3 Y;exact ⟨rfl,D12.pk []⟩
   refine Rn.q rfl (V.bldS (cs:=[_,_]) zg8 rfl rfl) (Rn.sq rfl O118 rfl rfl (D9.get 0 rfl) ?_);intro w13 m13 x13;have D14:=(D9.st 0 rfl x13 m13).nf [zAi _ _ [_,_]] rfl;refine gg 2 rfl ?_;refine Rn.retG2 func104 rfl (rvC rfl V118 O118 (D14.get 0 rfl) rfl) (rvT rfl) ?_;obtain rfl:=zF3 Y;exact ⟨rfl,D14.pk []⟩
  intro j2 Y K2;refine zai Y (Rn.part (t:=20) rfl) (λh15 Y=>?_) (λh15 Y=>?_)
  ·refine gg 4 rfl ?_;exact K2 true _ _ sA (D7.pk [0]) Y
  refine gg 1 rfl ?_;obtain ⟨p16,e16,Y⟩:=zA7 Y
  refine Rn.c0 (cK func163) (zLy (Z0:=All) e16  :) D7 λw16 _ D17=>?_
  refine Rn.q rfl (V.notB rfl) (gg 1 rfl ?_);exact K2 (!p16) _ _ sA (D17.pk [0]) Y
 intro j1 Y K1;refine zai Y (Rn.part (t:=15) rfl) (λh18 Y=>?_) (λh18 Y=>?_)
 ·refine gg 4 rfl ?_;exact K1 true _ _ sA (D5.pk [0]) Y
 refine gg 1 rfl ?_;obtain ⟨p19,e19,Y⟩:=zA7 Y
 refine Rn.c0 (cK func103) (zHx (Z0:=All) e19  :) D5 λw19 _ D20=>?_
 refine Rn.q rfl (V.notB rfl) (gg 1 rfl ?_);exact K1 (!p19) _ _ sA (D20.pk [0]) Y
theorem zPe {x0:(List zA0)} {x1:(List UInt8)} {r:Int} (Y:zJj x0 x1=some r) (f0:(slR A0 c0 zA0.rep x0).H Z0 w) :
 Calls prog 105 #[.slice A0 (x0).length c0,Str (x1)] w λx w'=>x=.returned (iv r)∧Hp Z0 No w w' []:=by
 obtain ⟨D0,D2,hc0⟩:=knA f0;refine eg func105 8 ?_;refine Rn.q rfl (V.lenV U34 rfl) (gg 2 rfl ?_);refine Rn.jG D0 Y (G:=Unit) (λg=>[(0,.slice A0 (x0).length c0),(1,Str (x1))]) (λg=>[slR A0 c0 zA0.rep x0]) (λj g=>j ()) ?_ ?_
 ·rintro _ w3 D3 Y
  try dsimp only at Y
  refine gg 6 rfl (Rn.q rfl (V.lenV U34 rfl) (gg 1 rfl ?_));obtain ⟨z4,e4,Y⟩:=zA7 Y;refine Rn.ixH D3 0 rfl e4 rfl rfl rfl U34 O118 rfl rfl rfl rfl ?_;rintro b4 o4 vs4 hr4 D4;obtain rfl:=zA0.relE hr4;refine gg 1 rfl (Rn.q rfl (V.ldR0 V9 rfl (D4.get 1 rfl).2 rfl) (Rn.q rfl (V.lssS rfl rfl) (gg 1 rfl ?_)));refine bS Y 4 5 (λh6 Y=>?_) (λh6 Y=>?_)
  ·cases Y
   exact Rn.R1 func105 ⟨rfl,D4.pk []⟩
  cases Y
  exact Rn.R1 func105 ⟨rfl,D4.pk []⟩
 intro j1 Y K1;refine gg 1 rfl ?_;refine Rn.loopF (G:=Int) (λg=>[(0,.slice A0 (x0).length c0),(1,Str (x1)),(7,.slice A0 (x0).length c0),(8,iv (x0.length:Int)),(9,iv g)]) (λg w'=>Hp Z0 No w w' [slR A0 c0 zA0.rep x0]) (λn g=>zEd x0 x1 j1 n g) fuel 0 sA (D2.pk [0]) Y (λ_=>rfl) ?_;clear Y;rintro m8 y7 w8 D8 Y N8;replace Y:zEd x0 x1 j1 (m8+1) y7=some r:=Y;rw [zEd] at Y;refine gg 5 rfl ?_;refine bD Y 5 1 (λh9 Y=>?_) (λh9 Y=>?_)
 ·obtain ⟨z10,e10,Y⟩:=zA7 Y;refine Rn.ixH D8 0 rfl e10 rfl rfl rfl U34 O118 rfl rfl rfl rfl ?_;rintro b10 o10 vs10 hr10 D10;obtain rfl:=zA0.relE hr10;refine Rn.q rfl (V.ldA (vs:=[_,_]) V118 O118 rfl (Rd.pre (D10.get 1 rfl).2 2) rfl) (Rn.als rfl rfl rfl Tryz.zeroValue118 rfl O118 rfl rfl rfl rfl (by first|exact zJx rfl|(simp [Value.oneCell'];done)) ?_);intro b12 w12 hb12 m12 e12;have D14:=(D10.addBox hb12 e12 m12).nf [_,_,zAi _ _ [_,_]] rfl;refine gg 4 rfl (Rn.q rfl (V.ldB V9 rfl (D14.get 2 rfl) rfl) (gg 1 rfl (Rn.q rfl (V.eqlS rfl rfl) (gg 1 rfl ?_))));refine bD Y 4 6 (λh15 Y=>?_) (λh15 Y=>?_)
  ·cases Y
   exact Rn.R1 func105 ⟨rfl,D14.pk []⟩
  exact N8 (W64 (y7+1)) _ _ sA (D14.pk [0]) Y
 exact K1 () _ _ sA (D8.pk [0]) Y
theorem zQn {x0:(List UInt8)} {r:((List UInt8)×(List zA0)×Int×Int)} (Y:zLa x0=some r)  :
 Calls prog 56 #[Str (x0)] w λx w'=>∃ A_1_0 c_1_0,x=.returned (.tuple #[Str (r.1),.slice A_1_0 (r.2.1).length c_1_0,iv r.2.2.1,iv r.2.2.2])∧Hp Z0 No w w' [zAy 118 A_1_0 c_1_0 zA0.rep r.2.1]:=by
 have D0:=Hp.nil Z0 No w;have hc0:=Calm.nil;refine eg func56 10 ?_;obtain ⟨p1,e1,Y⟩:=zA7 Y
 refine Rn.c0 (cK func55) (zIc (Z0:=All) e1  :) D0 λw1 _ D2=>?_
 refine gg 12 rfl ?_;obtain ⟨p3,e3,Y⟩:=zA7 Y
 refine Rn.c0 (cK func103) (zHx (Z0:=All) e3  :) D2 λw3 _ D4=>?_
 refine Rn.q rfl (V.notB rfl) (gg 1 rfl ?_);refine bS Y 7 5 (λh5 Y=>?_) (λh5 Y=>?_)
 ·have D6:=D4.addNil 118 zA0.rep;refine Rn.retG4 func56 rfl (rvT rfl) (rvT rfl) (rvT rfl) (rvT rfl) ?_;obtain rfl:=zF3 Y;exact ⟨none,0,rfl,D6.pk [0]⟩
 refine Rn.q rfl (V.lenS U9 rfl) (gg 3 rfl ?_);refine Rn.jG D0 Y (G:=(List zA0)×Option Addr×Nat) (λg=>[(2,Str (p1.1)),(3,.slice (g.2.1) ((g.1)).length (g.2.2))]) (λg=>[zAy 118 (g.2.1) (g.2.2) zA0.rep (g.1)]) (λj g=>j g.1) ?_ ?_
 ·rintro ⟨y8,A9,c9⟩ w11 D11 Y
  try dsimp only at Y
  refine gg 9 rfl ?_;refine Rn.retG4 func56 rfl (rvT rfl) (rvT rfl) (rvT rfl) (rvT rfl) ?_;obtain rfl:=zF3 Y;exact ⟨A9,c9,rfl,D11.pk [0]⟩
 intro j1 Y K1;refine gg 1 rfl ?_;have D18:=D4.addNil 118 zA0.rep;refine Rn.loopF (G:=(List zA0)×Int×(List UInt8)×Bool×Option Addr×Nat) (λg=>[(2,Str (p1.1)),(3,.slice (g.2.2.2.2.1) ((g.1)).length (g.2.2.2.2.2)),(4,iv (g.2.1)),(6,Str ((g.2.2.1))),(7,.bool ((g.2.2.2.1)))]) (λg w'=>Hp Z0 No w w' [zAy 118 (g.2.2.2.2.1) (g.2.2.2.2.2) zA0.rep (g.1)]) (λn g=>zDs j1 n g.1 g.2.1 g.2.2.1 g.2.2.2.1) fuel (([]:List zA0),(W64 ((p1.1.length:Int)+1)),p1.2.1,p1.2.2,none,0) sA (D18.pk [0]) Y (λ_=>rfl) ?_;clear Y;rintro m20 ⟨y12,y15,y16,y17,A13,c13⟩ w20 D20 Y N20;replace Y:zDs j1 (m20+1) y12 y15 y16 y17=some r:=Y;rw [zDs] at Y;refine gg 5 rfl ?_;refine bS Y 9 1 (λh21 Y=>?_) (λh21 Y=>?_)
 ·obtain ⟨p22,e22,Y⟩:=zA7 Y
  refine Rn.c0 (cK func55) (zIc (Z0:=All) e22  :) D20 λw22 _ D23=>?_
  refine gg 11 rfl ?_;obtain ⟨p24,e24,Y⟩:=zA7 Y
  refine Rn.c0 (cK func104) (zR5 (Z0:=All) e24  :) D23 λw24 _ D25=>?_
  refine gg 3 rfl (Rn.als rfl rfl rfl Tryz.zeroValue118 rfl O118 rfl rfl rfl rfl (by first|exact zJx rfl|(simp [Value.oneCell'];done)) ?_);intro b26 w26 hb26 m26 e26;have D28:=(D25.addBox hb26 e26 m26).nf [_,zAi _ _ [_,_]] rfl;refine gg 6 rfl (Rn.q rfl (V.lenV U34 rfl) (gg 2 rfl ?_));refine Rn.jG D0 Y (G:=Int) (λg=>[(2,Str (p1.1)),(3,.slice A13 (y12).length c13),(4,iv y15),(6,Str (p22.2.1)),(7,.bool (p22.2.2)),(8,Str (p22.1)),(9,pt b26 0),(10,iv g)]) (λg=>[zAy 118 A13 c13 zA0.rep y12,zAi b26 118 [Str (p24.1.Key),Str (p24.1.Val)]]) (λj g=>j g) ?_ ?_
  ·rintro y29 w30 D30 Y
   try dsimp only at Y
   refine gg 6 rfl ?_;refine Rn.cutR [] [(2,Str (p1.1)),(3,.slice A13 (y12).length c13),(4,iv y15),(6,Str (p22.2.1)),(7,.bool (p22.2.2)),(8,Str (p22.1)),(9,pt b26 0),(10,iv y29),(44,.bool (decide ((y29=0)∧((y12.length:Int)>0))))] (λK31=>?_) ?_
   ·refine Rn.partD (t:=40) rfl (λh32=>?_) (λh32=>?_)
    ·refine gg 1 rfl (Rn.q rfl (V.lenV U34 rfl) (gg 2 rfl ?_));exact K31 _ sA
    refine gg 4 rfl ?_;exact K31 _ sA
   refine gg 1 rfl ?_;refine Rn.jG D0 Y (G:=Int) (λg=>[(2,Str (p1.1)),(3,.slice A13 (y12).length c13),(4,iv y15),(6,Str (p22.2.1)),(7,.bool (p22.2.2)),(8,Str (p22.1)),(9,pt b26 0),(10,iv g)]) (λg=>[zAy 118 A13 c13 zA0.rep y12,zAi b26 118 [Str (p24.1.Key),Str (p24.1.Val)]]) (λj g=>j g) ?_ ?_
   ·rintro y33 w34 D34 Y
    try dsimp only at Y
    refine gg 6 rfl ?_;refine bD Y 9 4 (λh35 Y=>?_) (λh35 Y=>?_)
    ·have D36:=D34.addNil 118 zA0.rep;refine Rn.retG4 func56 rfl (rvT rfl) (rvT rfl) (rvT rfl) (rvT rfl) ?_;obtain rfl:=zF3 Y;exact ⟨none,0,rfl,D36.pk [2]⟩
    refine Rn.q rfl (V.ldBA [_,_] V118 O118 rfl (D34.get 1 rfl) rfl rfl) ?_;obtain ⟨z38,e38,Y⟩:=zA7 Y;refine Rn.pushH (z:=p24.1) (vs:=[Str (p24.1.Key),Str (p24.1.Val)]) D34 0 rfl e38 rfl rfl rfl rfl U34 zXz rfl rfl rfl rfl (λ_=>rfl) (⟨_,_,rfl,⟨rfl,trivial⟩,⟨rfl,trivial⟩⟩) ?_;intro A38 c38 w38 u38 D38;refine gg 5 rfl (Rn.q rfl (V.lenS U9 rfl) (gg 5 rfl ?_));exact N20 (z38,(W64 (y15+(W64 ((p22.1.length:Int)+1)))),p22.2.1,p22.2.2,A38,c38) _ _ sA (D38.pk [0]) Y
   intro j3 Y K3;refine bD Y 3 1 (λh40 Y=>?_) (λh40 Y=>?_)
   ·refine Rn.q rfl (V.ldB V9 rfl (D30.get 1 rfl) rfl) ?_;obtain ⟨p41,e41,Y⟩:=zA7 Y
    refine Rn.c0 (cK func105) (zPe (Z0:=All) e41 (zAw (D30.get 0 rfl)) :) D30 λw41 _ D42=>?_
    refine gg 2 rfl ?_;exact K3 p41 _ _ sA (D42.pk [0,1]) Y
   exact K3 y29 _ _ sA (D30.pk [0,1]) Y
  intro j2 Y K2;refine bD Y 3 1 (λh43 Y=>?_) (λh43 Y=>?_)
  ·exact K2 4 _ _ sA (D28.pk [0,1]) Y
  exact K2 p24.2 _ _ sA (D28.pk [0,1]) Y
 exact K1 (y12,A13,c13) _ _ sA (D20.pk [0]) Y
theorem zMm {x0:(List UInt8)} {r:(zA8×Int)} (Y:zIz x0=some r)  :
 Calls prog 18 #[Str (x0)] w λx w'=>∃ A_0_0 c_0_0 A_0_1 c_0_1 A_0_2 c_0_2,x=.returned (.tuple #[.agg [Str (r.1.Name),.slice A_0_0 (r.1.Attrs).length c_0_0,iv r.1.Kind,iv r.1.Temp,.bool (r.1.Mono),iv r.1.Start,iv r.1.Time,iv r.1.Int_,zAn r.1.Re,zAn r.1.Im,iv r.1.Hist.Scale,zAn r.1.Hist.Zero,iv r.1.Hist.Pos.Offset,.slice A_0_1 (r.1.Hist.Pos.Counts).length c_0_1,iv r.1.Hist.Neg.Offset,.slice A_0_2 (r.1.Hist.Neg.Counts).length c_0_2,iv r.1.Flags].toArray,iv r.2])∧Hp Z0 No w w' [slR A_0_0 c_0_0 zA0.rep r.1.Attrs,slR A_0_1 c_0_1 zAq r.1.Hist.Pos.Counts,slR A_0_2 c_0_2 zAq r.1.Hist.Neg.Counts]:=by
 have D0:=Hp.nil Z0 No w;have hc0:=Calm.nil;refine eg func18 2 ?_
 refine Rn.al D0 Tryz.zeroValue42 λb1 w1 D3=>?_
 replace D3:=D3.nf [zAi _ _ [_,_,_,_,_,_,_,_,_,_,_,_,_,_,_,_,_]] rfl;refine gg 5 rfl ?_;obtain ⟨p4,e4,Y⟩:=zA7 Y
 refine Rn.c0 (cK func55) (zIc (Z0:=All) e4  :) D3 λw4 _ D5=>?_
 refine gg 11 rfl ?_;obtain ⟨p6,e6,Y⟩:=zA7 Y
 refine Rn.c2 (cK func56) (zQn (Z0:=All) e6  :) λA6_1_0 c6_1_0 w6 Q6=>?_
 have D8:=D5.callF (flC (zAm zA0.flat _ _ _ _) fl0) Q6;refine gg 14 rfl (Rn.q rfl (V.notB rfl) (gg 1 rfl ?_));refine Rn.cutR [6,7,8,9,10,11,12,13,14,15,16,17,18,19,20] [(2,pt b1 0),(5,Str (p4.2.1)),(7,Str (p6.1)),(8,.slice A6_1_0 (p6.2.1).length c6_1_0),(31,.bool (decide (((!p4.2.2)=true)∨(p6.2.2.2≠0))))] (λK9=>?_) ?_
 ·refine Rn.part (t:=28) rfl (λh10=>?_) (λh10=>?_)
  ·refine gg 3 rfl ?_;exact K9 _ sA
  refine gg 3 rfl ?_;exact K9 _ sA
 refine gg 1 rfl ?_;refine Rn.cutR [11,12,13,14,15,16,17,18,19,20] [(2,pt b1 0),(5,Str (p4.2.1)),(7,Str (p6.1)),(8,.slice A6_1_0 (p6.2.1).length c6_1_0),(36,.bool (decide ((((!p4.2.2)=true)∨(p6.2.2.2≠0))∨((p4.2.1.length:Int)≠3))))] (λK11=>?_) ?_
 ·refine Rn.partD (t:=32) rfl (λh12=>?_) (λh12=>?_)
  ·refine gg 4 rfl ?_;exact K11 _ sA
  refine gg 1 rfl (Rn.q rfl (V.lenS U9 rfl) (gg 2 rfl ?_));exact K11 _ sA
 refine gg 1 rfl ?_;refine Rn.jR D0 Y (G:=Bool) [] (λg=>[(2,pt b1 0),(5,Str (p4.2.1)),(7,Str (p6.1)),(8,.slice A6_1_0 (p6.2.1).length c6_1_0),(46,.bool (g))]) (λg=>[zAi b1 42 [Str (([]:List UInt8)),.slice none 0 0,iv 0,iv 0,.bool false,iv 0,iv 0,iv 0,zAn (0:UInt64),zAn (0:UInt64),iv 0,zAn (0:UInt64),iv 0,.slice none 0 0,iv 0,.slice none 0 0,iv 0],zAy 118 A6_1_0 c6_1_0 zA0.rep p6.2.1]) (λj g=>j g) ?_ ?_
 ·rintro y13 w14 D14 Y
  try dsimp only at Y
  refine gg 1 rfl ?_;refine bS Y 2 2 (λh15 Y=>?_) (λh15 Y=>?_)
  ·refine Rn.q rfl (V.bldS (cs:=[_,_,_,_,_,_,_,_,_,_,_,_,_,_,_,_,_]) zhc rfl rfl) (Rn.sq rfl O42 rfl rfl (D14.get 0 rfl) ?_);intro w16 m16 x16;have D17:=(D14.st 0 rfl x16 m16).nf [zAi _ _ [_,_,_,_,_,_,_,_,_,_,_,_,_,_,_,_,_],_] rfl;refine gg 2 rfl ?_;have D18:=D17.addNil 118 zA0.rep;have D21:=D18.freeze 2 rfl;have D22:=D21.addNil 35 zAq;have D25:=D22.freeze 3 rfl;have D26:=D25.addNil 35 zAq;have D29:=D26.freeze 4 rfl;refine Rn.retG2 func18 rfl (rvC rfl V42 O42 (D17.get 0 rfl) rfl) (rvT rfl) ?_;obtain rfl:=zF3 Y;exact ⟨none,0,none,0,none,0,rfl,D29.pk [2,3,4]⟩
  refine Rn.drawH rfl D14 ?_;intro w30 D30;refine dq [0,1,2] ?_;obtain ⟨z31,e31,Y⟩:=zA7 Y;refine RH.tk 3 rfl (λw' hDr=>V.idxSZ U9 rfl rfl e31) ?_;refine RH.tk 4 rfl (λw' hDr=>V.cv8i (a:=z31) U5 U3 rfl) ?_;refine dq [5,6] ?_;obtain ⟨z32,e32,Y⟩:=zA7 Y;refine RH.tk 7 rfl (λw' hDr=>V.idxSZ U9 rfl rfl e32) ?_;refine RH.tk 8 rfl (λw' hDr=>V.cv8i (a:=z32) U5 U3 rfl) ?_;refine dq [9,10] ?_;obtain ⟨z33,e33,Y⟩:=zA7 Y;refine RH.tk 11 rfl (λw' hDr=>V.idxSZ U9 rfl rfl e33) ?_;refine RH.tk 12 rfl (λw' hDr=>V.eql rfl rfl) ?_;refine RH.tk 13 rfl (λw' hDr=>V.bldS (cs:=[_,_,_,_,_,_,_,_,_,_,_,_,_,_,_,_,_]) zhc rfl rfl) ?_;refine RH.alloc 14 (by kernel_rfl) rfl rfl rfl Tryz.zeroValue42 rfl ?_;intro b34 w34 hb34 m34 e34
  have hfr34:w30.heap.size≤b34:=by have hh:=((Ext.refl _):Ext w30 w30).size;omega
  have D36:=(D30.addBox hb34 e34 m34).nf [_,_,zAi _ _ [_,_,_,_,_,_,_,_,_,_,_,_,_,_,_,_,_]] rfl;refine ⟨((Ext.refl _).trans e34),?_⟩;refine RH.st 15 (by kernel_rfl) rfl rfl O42 rfl rfl rfl rfl (by first|exact zJx rfl|(simp [Value.oneCell'];done)) (D36.get 2 rfl) (by first|exact nbl rfl|(simp;done)) ?_;intro w37 m37 x37;have D38:=(D36.st 2 rfl x37 m37).nf [_,_,zAi _ _ [_,_,_,_,_,_,_,_,_,_,_,_,_,_,_,_,_]] rfl;refine ⟨(zPc ((Ext.refl _).trans e34) x37 hfr34),?_⟩;refine RH.dn ?_;refine gg 2 rfl (Rn.q rfl (V.ldBA [_,_,_,_,_,_,_,_,_,_,_,_,_,_,_,_,_] V42 O42 rfl (D38.get 2 rfl) rfl rfl) ?_);have D40:=D38.freeze 1 rfl;refine Rn.als rfl rfl rfl Tryz.zeroValue42 rfl O42 rfl rfl rfl rfl (by first|exact zJx rfl|(simp [Value.oneCell'];done)) ?_;intro b41 w41 hb41 m41 e41;have D43:=(D40.addBox hb41 e41 m41).nf [_,_,_,zAi _ _ [_,_,_,_,_,_,_,_,_,_,_,_,_,_,_,_,_]] rfl;refine gg 5 rfl (Rn.sq rfl O3 rfl rfl (D43.get 3 rfl) ?_);intro w44 m44 x44;have D45:=(D43.st 3 rfl x44 m44).nf [_,_,_,zAi _ _ [_,_,_,_,_,_,_,_,_,_,_,_,_,_,_,_,_]] rfl;refine gg 4 rfl (Rn.q rfl (V.ldB V3 rfl (D45.get 3 rfl) rfl) (gg 2 rfl ?_));refine Rn.jG D0 Y (G:=zA8×Option Addr×Nat×Option Addr×Nat×Option Addr×Nat) (λg=>[(2,pt b1 0),(11,pt b34 0),(12,pt b41 0)]) (λg=>[zAi b1 42 [Str (([]:List UInt8)),.slice none 0 0,iv 0,iv 0,.bool false,iv 0,iv 0,iv 0,zAn (0:UInt64),zAn (0:UInt64),iv 0,zAn (0:UInt64),iv 0,.slice none 0 0,iv 0,.slice none 0 0,iv 0],slR A6_1_0 c6_1_0 zA0.rep p6.2.1,zAi b34 42 [Str (p6.1),.slice A6_1_0 (p6.2.1).length c6_1_0,iv (W64 ((z31.toNat:Int)-48)),iv (W64 ((z32.toNat:Int)-48)),.bool (decide (((z33).toNat:Int)=49)),iv 0,iv 0,iv 0,zAn (0:UInt64),zAn (0:UInt64),iv 0,zAn (0:UInt64),iv 0,.slice none 0 0,iv 0,.slice none 0 0,iv 0],slR (g.2.1) (g.2.2.1) zA0.rep (g.1).Attrs,zAy 35 (g.2.2.2.1) (g.2.2.2.2.1) zAq (g.1).Hist.Pos.Counts,zAy 35 (g.2.2.2.2.2.1) (g.2.2.2.2.2.2) zAq (g.1).Hist.Neg.Counts,zAi b41 42 [Str ((g.1).Name),.slice (g.2.1) ((g.1).Attrs).length (g.2.2.1),iv (g.1).Kind,iv (g.1).Temp,.bool ((g.1).Mono),iv (g.1).Start,iv (g.1).Time,iv (g.1).Int_,zAn (g.1).Re,zAn (g.1).Im,iv (g.1).Hist.Scale,zAn (g.1).Hist.Zero,iv (g.1).Hist.Pos.Offset,.slice (g.2.2.2.1) ((g.1).Hist.Pos.Counts).length (g.2.2.2.2.1),iv (g.1).Hist.Neg.Offset,.slice (g.2.2.2.2.2.1) ((g.1).Hist.Neg.Counts).length (g.2.2.2.2.2.2),iv (g.1).Flags]]) (λj g=>j g.1) ?_ ?_
  ·rintro ⟨y46,A47,c47,A49,c49,A51,c51⟩ w53 D53 Y
   try dsimp only at Y
   refine gg 3 rfl (Rn.q rfl (V.ldBA [_,_,_,_,_,_,_,_,_,_,_,_,_,_,_,_,_] V42 O42 rfl (D53.get 6 rfl) rfl rfl) ?_);obtain ⟨p54,e54,Y⟩:=zA7 Y
   refine Rn.c0 (cK func57) (zK0 (Z0:=All) e54 (show zA8.rep.rel All _ _ _ from ⟨_,_,rfl,⟨rfl,trivial⟩,⟨_,_,rfl,⟨_,_,rfl,(zA5 (D53.get 3 rfl)).1,(zA5 (D53.get 3 rfl)).2.1,(zA5 (D53.get 3 rfl)).2.2⟩,⟨_,_,rfl,⟨rfl,trivial⟩,⟨_,_,rfl,⟨rfl,trivial⟩,⟨_,_,rfl,⟨rfl,trivial⟩,⟨_,_,rfl,⟨rfl,trivial⟩,⟨_,_,rfl,⟨rfl,trivial⟩,⟨_,_,rfl,⟨rfl,trivial⟩,⟨_,_,rfl,⟨rfl,trivial⟩,⟨_,_,rfl,⟨rfl,trivial⟩,⟨_,_,rfl,⟨_,_,rfl,⟨rfl,trivial⟩,⟨_,_,rfl,⟨rfl,trivial⟩,⟨_,_,rfl,⟨_,_,rfl,⟨rfl,trivial⟩,⟨_,_,rfl,(zAw (D53.get 4 rfl)).1,(zAw (D53.get 4 rfl)).2.1,(zAw (D53.get 4 rfl)).2.2⟩⟩,⟨_,_,rfl,⟨rfl,trivial⟩,⟨_,_,rfl,(zAw (D53.get 5 rfl)).1,(zAw (D53.get 5 rfl)).2.1,(zAw (D53.get 5 rfl)).2.2⟩⟩⟩⟩⟩,⟨rfl,trivial⟩⟩⟩⟩⟩⟩⟩⟩⟩⟩⟩⟩) :) D53 λw54 _ D55=>?_
   refine gg 2 rfl ?_;refine bD Y 2 3 (λh56 Y=>?_) (λh56 Y=>?_)
   ·refine Rn.q rfl (V.bldS (cs:=[_,_,_,_,_,_,_,_,_,_,_,_,_,_,_,_,_]) zhc rfl rfl) (Rn.sq rfl O42 rfl rfl (D55.get 0 rfl) ?_);intro w57 m57 x57;have D58:=(D55.st 0 rfl x57 m57).nf [zAi _ _ [_,_,_,_,_,_,_,_,_,_,_,_,_,_,_,_,_],_,_,_,_,_,_] rfl;refine gg 2 rfl ?_;have D59:=D58.addNil 118 zA0.rep;have D62:=D59.freeze 7 rfl;have D63:=D62.addNil 35 zAq;have D66:=D63.freeze 8 rfl;have D67:=D66.addNil 35 zAq;have D70:=D67.freeze 9 rfl;refine Rn.retG2 func18 rfl (rvC rfl V42 O42 (D58.get 0 rfl) rfl) (rvT rfl) ?_;obtain rfl:=zF3 Y;exact ⟨none,0,none,0,none,0,rfl,D70.pk [7,8,9]⟩
   refine Rn.q rfl (V.ldBA [_,_,_,_,_,_,_,_,_,_,_,_,_,_,_,_,_] V42 O42 rfl (D55.get 2 rfl) rfl rfl) (Rn.sq rfl O42 rfl rfl (D55.get 0 rfl) ?_);intro w71 m71 x71;have D72:=(D55.st 0 rfl x71 m71).nf [zAi _ _ [_,_,_,_,_,_,_,_,_,_,_,_,_,_,_,_,_],_,_,_,_,_,_] rfl;refine gg 2 rfl ?_;have D73:=D72.addNil 35 zAq;have D76:=D73.freeze 7 rfl;have D77:=D76.addNil 35 zAq;have D80:=D77.freeze 8 rfl;refine Rn.retG2 func18 rfl (rvC rfl V42 O42 (D72.get 0 rfl) rfl) (rvT rfl) ?_;obtain rfl:=zF3 Y;exact ⟨A6_1_0,c6_1_0,none,0,none,0,rfl,D80.pk [1,7,8]⟩
  intro j2 Y K2;refine bD Y 2 1 (λh81 Y=>?_) (λh81 Y=>?_)
  ·refine Rn.sq rfl O3 rfl rfl (D45.get 3 rfl) ?_;intro w82 m82 x82;have D83:=(D45.st 3 rfl x82 m82).nf [_,_,_,zAi _ _ [_,_,_,_,_,_,_,_,_,_,_,_,_,_,_,_,_]] rfl;refine gg 1 rfl ?_;have D84:=D83.addNil 35 zAq;have D86:=D84.addNil 35 zAq;have D88:=D86.dup 1 rfl (λ_ h=>h);exact K2 ((⟨p6.1,p6.2.1,W64 ((z31.toNat:Int)-48),W64 ((z32.toNat:Int)-48),decide (((z33).toNat:Int)=49),1,1,0,(0:UInt64),(0:UInt64),(⟨0,(0:UInt64),(⟨0,([]:List UInt64)⟩:zAa),(⟨0,([]:List UInt64)⟩:zAa)⟩:zA2),0⟩:zA8),A6_1_0,c6_1_0,none,0,none,0) _ _ sA (D88.pk [0,1,2,6,4,5,3]) Y
  have D90:=D45.addNil 35 zAq;have D92:=D90.addNil 35 zAq;have D94:=D92.dup 1 rfl (λ_ h=>h);exact K2 ((⟨p6.1,p6.2.1,W64 ((z31.toNat:Int)-48),W64 ((z32.toNat:Int)-48),decide (((z33).toNat:Int)=49),0,1,0,(0:UInt64),(0:UInt64),(⟨0,(0:UInt64),(⟨0,([]:List UInt64)⟩:zAa),(⟨0,([]:List UInt64)⟩:zAa)⟩:zA2),0⟩:zA8),A6_1_0,c6_1_0,none,0,none,0) _ _ sA (D94.pk [0,1,2,6,4,5,3]) Y
 intro j1 Y K1;refine zKs Y (Rn.partD (t:=37) rfl) (λh96 Y=>?_) (λh96 Y=>?_)
 ·refine gg 9 rfl ?_;exact K1 true _ _ sA (D8.pk [0,1]) Y
 refine gg 1 rfl ?_;obtain ⟨z97,e97,Y⟩:=zA7 Y;refine Rn.q rfl (V.idxSZ U9 rfl rfl e97) (Rn.q rfl (V.neq rfl rfl) (gg 1 rfl ?_));refine Rn.jR D0 Y (G:=Bool) [20] (λg=>[(2,pt b1 0),(5,Str (p4.2.1)),(7,Str (p6.1)),(8,.slice A6_1_0 (p6.2.1).length c6_1_0),(37,.bool false),(45,.bool (g))]) (λg=>[zAi b1 42 [Str (([]:List UInt8)),.slice none 0 0,iv 0,iv 0,.bool false,iv 0,iv 0,iv 0,zAn (0:UInt64),zAn (0:UInt64),iv 0,zAn (0:UInt64),iv 0,.slice none 0 0,iv 0,.slice none 0 0,iv 0],zAy 118 A6_1_0 c6_1_0 zA0.rep p6.2.1]) (λj g=>j g) ?_ ?_
 ·rintro y98 w99 D99 Y
  try dsimp only at Y
  refine gg 1 rfl ?_;exact K1 y98 _ _ sA (D99.pk [0,1]) Y
 intro j3 Y K3;refine zKs Y (Rn.partD (t:=41) rfl) (λh100 Y=>?_) (λh100 Y=>?_)
 ·refine gg 1 rfl ?_;obtain ⟨z101,e101,Y⟩:=zA7 Y;refine Rn.q rfl (V.idxSZ U9 rfl rfl e101) (Rn.q rfl (V.neq rfl rfl) (gg 1 rfl ?_));exact K3 (decide (((z101).toNat:Int)≠49)) _ _ sA (D8.pk [0,1]) Y
 refine gg 4 rfl ?_;exact K3 false _ _ sA (D8.pk [0,1]) Y
theorem zKr {x0:(List UInt8)} {x1:Int} {r:((Option zA)×Int)} (Y:zHa x0 x1=some r) (f0:(slR A0 c0 zBu x0).H Z0 w) :
 Calls prog 36 #[.slice A0 (x0).length c0,iv x1] w λx w'=>∃ F_0 b_0,x=.returned (.tuple #[.pointer (zhe b_0 r.1),iv r.2])∧Hp Z0 No w w' [zbj r.1 (λz=>zA.obj F_0 b_0 z)]:=by
 obtain ⟨D0,D2,hc0⟩:=knA f0;refine eg func36 13 ?_;refine bD Y 5 3 (λh3 Y=>?_) (λh3 Y=>?_)
 ·have D5:=D2.addNone (λz=>zA.obj No 0 z)
  cases Y
  exact Rn.R2 func36 ⟨No,0,rfl,D5.pk [1]⟩
 refine Rn.q rfl (V.lenV U22 rfl) (gg 1 rfl ?_);obtain ⟨z6,e6,Y⟩:=zA7 Y;refine Rn.q rfl (V.quoZ rfl rfl e6) (gg 2 rfl ?_);refine Rn.jR D0 Y (G:=Bool) [17] (λg=>[(0,.slice A0 (x0).length c0),(1,iv x1),(26,.bool (g))]) (λg=>[slR A0 c0 zBu x0]) (λj g=>j g) ?_ ?_
 ·rintro y7 w8 D8 Y
  try dsimp only at Y
  refine gg 2 rfl ?_;refine aS Y (λh9 Y=>?_) (λh9 Y=>?_)
  ·cases Y
  refine gg 3 rfl (Rn.q rfl (V.lenV U22 rfl) (gg 2 rfl ?_));obtain ⟨z10,e10,Y⟩:=zA7 Y;refine Rn.q rfl (V.quoZ rfl rfl e10) (gg 3 rfl ?_);refine aD Y (λh11 Y=>?_) (λh11 Y=>?_)
  ·cases Y
  refine gg 3 rfl ?_;obtain ⟨z12,e12,Y⟩:=zA7 Y;refine Rn.q rfl (V.remZ rfl rfl e12) (gg 2 rfl ?_);refine Rn.jR D0 Y (G:=Bool) [15] (λg=>[(0,.slice A0 (x0).length c0),(1,iv x1),(49,.bool (g))]) (λg=>[slR A0 c0 zBu x0]) (λj g=>j g) ?_ ?_
  ·rintro y13 w14 D14 Y
   try dsimp only at Y
   refine gg 2 rfl ?_;refine aS Y (λh15 Y=>?_) (λh15 Y=>?_)
   ·cases Y
   refine gg 5 rfl ?_;obtain ⟨p16,e16,Y⟩:=zA7 Y
   refine Rn.c2 (cK func75) (zG5 (Z0:=All) e16 (zA5 (D14.get 0 rfl)) :) λA16_0_0 c16_0_0 w16 Q16=>?_
   have D18:=D14.callF (flC (zAm zEj _ _ _ _) fl0) Q16;refine gg 1 rfl (Rn.q rfl (V.bldS (cs:=[_,_,_]) st139 rfl rfl) (Rn.box rfl rfl rfl rfl rfl ?_));intro b19 w19 hb19 m19 e19;have D21:=(D18.addBox hb19 e19 m19).nf [_,_,zAi _ _ [_,_,_]] rfl;refine gg 3 rfl ?_;have D23:=D21.freeze 1 rfl;have D24:=D23.dup 1 rfl (λ_ h=>h);have D27:=D24.cu [0,1] [2,3];obtain ⟨F26,D26⟩:=D27.fold (zA.sh b19 (⟨p16,x1,0⟩:zA)) ⟨A16_0_0,c16_0_0,rfl⟩;have D28:=D26.toSome (R:=(λz=>zA.obj F26 b19 z)) 2 rfl
   cases Y
   exact Rn.R2 func36 ⟨F26,b19,rfl,D28.pk [2]⟩
  intro j2 Y K2;refine zKs Y (Rn.partD (t:=38) rfl) (λh29 Y=>?_) (λh29 Y=>?_)
  ·refine gg 2 rfl ?_;obtain ⟨z30,e30,Y⟩:=zA7 Y;refine Rn.q rfl (V.quoZ rfl rfl e30) ?_;obtain ⟨z31,e31,Y⟩:=zA7 Y;refine Rn.ixH D8 0 rfl e31 rfl rfl rfl U22 O5 rfl rfl rfl rfl ?_;rintro b31 o31 vs31 ⟨rfl,_⟩ D31;refine Rn.q rfl (V.ldR0 V5 rfl (D31.get 1 rfl).2 rfl) (gg 1 rfl ?_);obtain ⟨z33,e33,Y⟩:=zA7 Y;refine Rn.q rfl (V.remZ rfl rfl e33) (Rn.q rfl (V.cv64 U3 U137 rfl) (Rn.q rfl (V.shl8 (a:=z31) (m:=(zAf z33).toNat) rfl rfl) (Rn.q rfl (V.neq rfl rfl) (gg 1 rfl ?_))));exact K2 (decide (((shl8 z31 ((zAf z33).toNat)).toNat:Int)≠0)) _ _ sA (D31.pk [0]) Y
  refine gg 11 rfl ?_;exact K2 false _ _ sA (D8.pk [0]) Y
 intro j1 Y K1;refine zKs Y (Rn.partD (t:=15) rfl) (λh34 Y=>?_) (λh34 Y=>?_)
 ·cases Y
 refine gg 1 rfl (Rn.q rfl (V.lenV U22 rfl) (gg 1 rfl ?_));obtain ⟨z35,e35,Y⟩:=zA7 Y;refine Rn.q rfl (V.quoZ rfl rfl e35) (gg 2 rfl ?_);refine Rn.jR D0 Y (G:=Bool) [16,17] (λg=>[(0,.slice A0 (x0).length c0),(1,iv x1),(15,.bool false),(25,.bool (g))]) (λg=>[slR A0 c0 zBu x0]) (λj g=>j g) ?_ ?_
 ·rintro y36 w37 D37 Y
  try dsimp only at Y
  refine gg 1 rfl ?_;exact K1 y36 _ _ sA (D37.pk [0]) Y
 intro j3 Y K3;refine zKs Y (Rn.partD (t:=21) rfl) (λh38 Y=>?_) (λh38 Y=>?_)
 ·refine gg 1 rfl ?_;obtain ⟨z39,e39,Y⟩:=zA7 Y;refine Rn.q rfl (V.remZ rfl rfl e39) (gg 2 rfl ?_);exact K3 (decide (z39>0)) _ _ sA (D2.pk [0]) Y
 refine gg 4 rfl ?_;exact K3 false _ _ sA (D2.pk [0]) Y
theorem zN3 {x0:zA8} {r:zA8} (Y:zId x0=some r) (h0:zA8.rep.rel Z0 w cs0 x0) :
 Calls prog 39 #[.agg cs0.toArray] w λx w'=>∃ A_0_0 c_0_0 A_0_1 c_0_1 A_0_2 c_0_2,x=.returned (.agg [Str (r.Name),.slice A_0_0 (r.Attrs).length c_0_0,iv r.Kind,iv r.Temp,.bool (r.Mono),iv r.Start,iv r.Time,iv r.Int_,zAn r.Re,zAn r.Im,iv r.Hist.Scale,zAn r.Hist.Zero,iv r.Hist.Pos.Offset,.slice A_0_1 (r.Hist.Pos.Counts).length c_0_1,iv r.Hist.Neg.Offset,.slice A_0_2 (r.Hist.Neg.Counts).length c_0_2,iv r.Flags].toArray)∧Hp Z0 No w w' [zAy 118 A_0_0 c_0_0 zA0.rep r.Attrs,zAy 35 A_0_1 c_0_1 zAq r.Hist.Pos.Counts,zAy 35 A_0_2 c_0_2 zAq r.Hist.Neg.Counts]:=by
 have D0:=Hp.nil Z0 No w;have hc0:=Calm.nil;obtain ⟨Ar1,cr1,Ar3,cr3,Ar5,cr5,rfl,fs1,fs3,fs5⟩:=zA8.relE h0;obtain ⟨D7,hc0⟩:=D0.kn (r:=slR Ar1 cr1 zA0.rep x0.Attrs) hc0 fs1;obtain ⟨D8,hc0⟩:=D7.kn (r:=slR Ar3 cr3 zAq x0.Hist.Pos.Counts) hc0 fs3;obtain ⟨D9,hc0⟩:=D8.kn (r:=slR Ar5 cr5 zAq x0.Hist.Neg.Counts) hc0 fs5;refine eg func39 2 ?_;refine Rn.box rfl rfl rfl rfl rfl ?_;intro b10 w10 hb10 m10 e10;have D12:=(D9.addBox hb10 e10 m10).nf [_,_,_,zAi _ _ [_,_,_,_,_,_,_,_,_,_,_,_,_,_,_,_,_]] rfl
 refine Rn.al D12 Tryz.zeroValue42 λb13 w13 D15=>?_
 replace D15:=D15.nf [_,_,_,_,zAi _ _ [_,_,_,_,_,_,_,_,_,_,_,_,_,_,_,_,_]] rfl;refine gg 4 rfl (Rn.q rfl (V.ldB V34 rfl (D15.get 3 rfl) rfl) ?_);obtain ⟨p16,e16,Y⟩:=zA7 Y
 refine Rn.c2 (cK func89) (zG1 (Z0:=All) e16 (zA5 (D15.get 0 rfl)) :) λA16_0_0 c16_0_0 w16 Q16=>?_
 have D18:=D15.callF (flC (zAm zA0.flat _ _ _ _) fl0) Q16;refine gg 1 rfl (Rn.sq rfl O34 rfl rfl (D18.get 3 rfl) ?_);intro w19 m19 x19;have D20:=(D18.st 3 rfl x19 m19).nf [_,_,_,zAi _ _ [_,_,_,_,_,_,_,_,_,_,_,_,_,_,_,_,_],_,_] rfl;refine gg 4 rfl (Rn.q rfl (V.ldBA [_,_,_,_,_,_] V40 O40 rfl (D20.get 3 rfl) rfl rfl) ?_);obtain ⟨p21,e21,Y⟩:=zA7 Y;refine Rn.cq (cK func90) (zHn (Z0:=All) e21 (show zA2.rep.rel All _ _ _ from ⟨_,_,rfl,⟨rfl,trivial⟩,⟨_,_,rfl,⟨rfl,trivial⟩,⟨_,_,rfl,⟨_,_,rfl,⟨rfl,trivial⟩,⟨_,_,rfl,(zA5 (D20.get 1 rfl)).1,(zA5 (D20.get 1 rfl)).2.1,(zA5 (D20.get 1 rfl)).2.2⟩⟩,⟨_,_,rfl,⟨rfl,trivial⟩,⟨_,_,rfl,(zA5 (D20.get 2 rfl)).1,(zA5 (D20.get 2 rfl)).2.1,(zA5 (D20.get 2 rfl)).2.2⟩⟩⟩⟩⟩) :) ?_;rintro _ w21 ⟨A21_0_0,c21_0_0,A21_0_1,c21_0_1,rfl,Q21⟩;refine ⟨_,rfl,?_⟩;have D24:=D20.callF (flC (zAm zCz _ _ _ _) (flC (zAm zCz _ _ _ _) fl0)) Q21;refine gg 1 rfl (Rn.sq rfl O40 rfl rfl (D24.get 3 rfl) ?_);intro w25 m25 x25;have D26:=(D24.st 3 rfl x25 m25).nf [_,_,_,zAi _ _ [_,_,_,_,_,_,_,_,_,_,_,_,_,_,_,_,_],_,_,_,_] rfl;refine gg 3 rfl (Rn.q rfl (V.ldBA [_,_,_,_,_,_,_,_,_,_,_,_,_,_,_,_,_] V42 O42 rfl (D26.get 3 rfl) rfl rfl) (Rn.sq rfl O42 rfl rfl (D26.get 4 rfl) ?_));intro w27 m27 x27;have D28:=(D26.st 4 rfl x27 m27).nf [_,_,_,_,zAi _ _ [_,_,_,_,_,_,_,_,_,_,_,_,_,_,_,_,_],_,_,_] rfl;refine gg 1 rfl ?_;refine Rn.retG1 func39 rfl (rvC rfl V42 O42 (D28.get 4 rfl) rfl) ?_;obtain rfl:=zF3 Y;exact ⟨A16_0_0,c16_0_0,A21_0_0,c21_0_0,A21_0_1,c21_0_1,rfl,D28.pk [5,6,7]⟩
theorem zEh {x0:zA} {r:Int} (Y:zC1 x0=some r) (f0:(fzR (zA.obj F0 b0 x0)).H Z0 w) :
 Calls prog 40 #[pt b0 0] w λx w'=>x=.returned (iv r)∧Hp Z0 No w w' []:=by
 obtain ⟨D0,D2,hc0⟩:=knA f0;refine eg func40 5 ?_;obtain ⟨_,⟨A4_0,c4_0,rfl⟩,D4⟩:=D2.unfz 0 rfl;replace D4:=D4.nq;have D8:=D4.fzS 2 rfl;refine Rn.drawP rfl D8 ?_;intro w3 D3;refine dq [0,1,2] ?_;refine RH.tp 3 rfl (V.ldB V3 rfl (D3.getz 1 rfl) rfl) ?_;refine dq [4,5,6] ?_;refine RH.tp 7 rfl (V.ldB V3 rfl (D3.getz 1 rfl) rfl) ?_;refine dq [8,9] ?_;refine RH.dn ?_
 cases Y
 exact Rn.R1 func40 ⟨rfl,D3.pk []⟩
theorem zEg {x0:zA} {x1:Int} {r:(UInt64×Bool)} (Y:zD1 x0 x1=some r) (f0:(fzR (zA.obj F0 b0 x0)).H Z0 w) :
 Calls prog 194 #[pt b0 0,iv x1] w λx w'=>x=.returned (.tuple #[zAn r.1,.bool (r.2)])∧Hp Z0 No w w' []:=by
 obtain ⟨D0,D2,hc0⟩:=knA f0;refine eg func194 11 ?_;refine Rn.cutR [6,7,8,9,10,11] [(0,pt b0 0),(1,iv x1),(16,.bool (decide ((x1<0)∨(x1>64))))] (λK3=>?_) ?_
 ·refine Rn.partD (t:=13) rfl (λh4=>?_) (λh4=>?_)
  ·refine gg 3 rfl ?_;exact K3 _ sA
  refine gg 3 rfl ?_;exact K3 _ sA
 refine gg 1 rfl ?_;refine Rn.jR D0 Y (G:=Bool) [] (λg=>[(0,pt b0 0),(1,iv x1),(22,.bool (g))]) (λg=>[fzR (zA.obj F0 b0 x0)]) (λj g=>j g) ?_ ?_
 ·rintro y5 w6 D6 Y
  try dsimp only at Y
  refine gg 1 rfl ?_;refine bS Y 5 11 (λh7 Y=>?_) (λh7 Y=>?_)
  ·cases Y
   exact Rn.R2 func194 ⟨rfl,D6.pk []⟩
  obtain ⟨_,⟨A8_0,c8_0,rfl⟩,D8⟩:=D6.unfz 0 rfl;replace D8:=D8.nq;have D12:=D8.fzS 2 rfl;refine Rn.q rfl (V.ldB V3 rfl (D12.getz 1 rfl) rfl) (gg 2 rfl ?_);refine Rn.jG D0 Y (G:=UInt64) (λg=>[(6,zAn g)]) (λg=>[]) (λj g=>j g) ?_ ?_
  ·rintro y13 w14 D14 Y
   try dsimp only at Y
   refine gg 6 rfl ?_
   cases Y
   exact Rn.R2 func194 ⟨rfl,D14.pk []⟩
  intro j2 Y K2;refine gg 1 rfl ?_;refine Rn.loopF (G:=Int×UInt64×Int) (λg=>[(0,pt b0 0),(1,iv (g.1)),(6,zAn (g.2.1)),(7,iv (g.2.2))]) (λg w'=>Hp Z0 No w w' [fzR (zA.obj F0 b0 x0),fzR (zAi b0 139 [.slice A8_0 (x0.b).length c8_0,iv x0.n,iv x0.at_]),slR A8_0 c8_0 zBu x0.b]) (λn g=>zDa x0 j2 n g.1 g.2.1 g.2.2) fuel (x1,(0:UInt64),x0.at_) sA (D12.pk [0,1,3]) Y (λ_=>rfl) ?_;clear Y;rintro m18 ⟨y15,y16,y17⟩ w18 D18 Y N18;replace Y:zDa x0 j2 (m18+1) y15 y16 y17=some r:=Y;rw [zDa] at Y;refine gg 6 rfl ?_;refine bD Y 5 1 (λh19 Y=>?_) (λh19 Y=>?_)
  ·obtain ⟨z20,e20,Y⟩:=zA7 Y;refine Rn.q rfl (V.remZ rfl rfl e20) (gg 7 rfl (Rn.q rfl (V.mini rfl rfl) (gg 7 rfl (Rn.q rfl (V.ldB V22 rfl (D18.getz 1 rfl) rfl) (gg 1 rfl ?_)))));obtain ⟨z21,e21,Y⟩:=zA7 Y;refine Rn.q rfl (V.quoZ rfl rfl e21) ?_;obtain ⟨z22,e22,Y⟩:=zA7 Y;refine Rn.ixH D18 2 rfl e22 rfl rfl rfl U22 O5 rfl rfl rfl rfl ?_;rintro b22 o22 vs22 ⟨rfl,_⟩ D22;refine Rn.q rfl (V.ldR0 V5 rfl (D22.get 3 rfl).2 rfl) (gg 3 rfl (Rn.q rfl (V.cv64 U3 U137 rfl) (Rn.q rfl (V.shr8 (a:=z22) (m:=(zAf (W64 ((W64 (8-z20))-(min y15 (W64 (8-z20)))))).toNat) rfl rfl) (gg 1 rfl (Rn.q rfl (V.cv64 U3 U137 rfl) (Rn.q rfl (V.shl8 (a:=(1:UInt8)) (m:=(zAf (min y15 (W64 (8-z20)))).toNat) rfl rfl) (Rn.q rfl (V.ari8 (a:=shl8 (1:UInt8) ((zAf (min y15 (W64 (8-z20)))).toNat)) (b:=(1:UInt8)) rfl rfl _ rfl (zaq _ _)) (Rn.q rfl (V.and8 (a:=shr8 z22 ((zAf (W64 ((W64 (8-z20))-(min y15 (W64 (8-z20)))))).toNat)) (b:=(shl8 (1:UInt8) ((zAf (min y15 (W64 (8-z20)))).toNat))-(1:UInt8)) rfl rfl) (gg 6 rfl (Rn.q rfl (V.cv64 U3 U137 rfl) (Rn.q rfl (V.shl64 (a:=y16) (m:=(zAf (min y15 (W64 (8-z20)))).toNat) rfl rfl) (gg 1 rfl (Rn.q rfl (V.cv64 U5 U35 rfl) (Rn.q rfl (V.o64 rfl rfl (shl64 y16 ((zAf (min y15 (W64 (8-z20)))).toNat)) (zAf (((shr8 z22 ((zAf (W64 ((W64 (8-z20))-(min y15 (W64 (8-z20)))))).toNat))&&&((shl8 (1:UInt8) ((zAf (min y15 (W64 (8-z20)))).toNat))-(1:UInt8))).toNat:Int)) rfl rfl (zXf _ _ _)) (gg 16 rfl ?_)))))))))))))));exact N18 ((W64 (y15-(min y15 (W64 (8-z20))))),((shl64 y16 ((zAf (min y15 (W64 (8-z20)))).toNat))|||(zAf (((shr8 z22 ((zAf (W64 ((W64 (8-z20))-(min y15 (W64 (8-z20)))))).toNat))&&&((shl8 (1:UInt8) ((zAf (min y15 (W64 (8-z20)))).toNat))-(1:UInt8))).toNat:Int))),(W64 (y17+(min y15 (W64 (8-z20)))))) _ _ sA (D22.pk [0,1,2]) Y
  exact K2 y16 _ _ sA (D18.pk []) Y
 intro j1 Y K1;refine zKs Y (Rn.partD (t:=17) rfl) (λh24 Y=>?_) (λh24 Y=>?_)
 ·refine gg 5 rfl ?_;exact K1 true _ _ sA (D2.pk [0]) Y
 refine gg 2 rfl ?_;obtain ⟨p25,e25,Y⟩:=zA7 Y
 refine Rn.c0 (cK func40) (zEh (Z0:=All) e25 (zU0 (D2.get 0 rfl)) :) D2 λw25 _ D26=>?_
 refine gg 2 rfl ?_;exact K1 (decide (x1>p25)) _ _ sA (D26.pk [0]) Y
theorem m_bitio_Reader_Skip_sim {x0:zA} {x1:Int} {r:(Bool×zA)} (Y:zCj x0 x1=some r) (hL:zKt Z0 w [zA.obj F0 b0 x0]) :
 Calls prog 145 #[pt b0 0,iv x1] w λx w'=>∃ F_p0,x=.returned (.bool (r.1))∧Hp Z0 (LS [zA.obj F0 b0 x0]) w w' [zA.obj F_p0 b0 r.2]:=by
 have D0:=hL.start;refine eg func145 10 ?_;refine Rn.jR D0 Y (G:=Bool×(Nat→Prop)) [] (λg=>[(0,pt b0 0),(1,iv x1),(12,.bool ((g.1)))]) (λg=>[zA.obj (g.2) b0 x0]) (λj g=>j g.1) ?_ ?_
 ·rintro ⟨y3,F2⟩ w4 D4 Y
  try dsimp only at Y
  refine gg 1 rfl ?_;refine bS Y 4 6 (λh5 Y=>?_) (λh5 Y=>?_)
  ·cases Y
   exact Rn.R1 func145 ⟨F2,rfl,D4.pk [0]⟩
  obtain ⟨_,⟨A6_0,c6_0,rfl⟩,D6⟩:=D4.unf 0 rfl;replace D6:=D6.nq;refine Rn.q rfl (V.ldB V3 rfl (D6.get 0 rfl) rfl) (gg 4 rfl (Rn.sq rfl O3 rfl rfl (D6.get 0 rfl) ?_));intro w8 m8 x8;have D9:=(D6.st 0 rfl x8 m8).nf [zAi _ _ [_,_,_],_] rfl;refine gg 5 rfl ?_;have D10:=D9.dup 1 rfl (λ_ h=>h);have D13:=D10.cu [1] [0,2];obtain ⟨F12,D12⟩:=D13.fold (zA.sh b0 (⟨x0.b,x0.n,W64 (x0.at_+x1)⟩:zA)) ⟨A6_0,c6_0,rfl⟩
  cases Y
  exact Rn.R1 func145 ⟨F12,rfl,D12.pk [1]⟩
 intro j1 Y K1;refine zKs Y (Rn.partD (t:=7) rfl) (λh14 Y=>?_) (λh14 Y=>?_)
 ·refine gg 5 rfl ?_;exact K1 (true,F0) _ _ sA (D0.pk [0]) Y
 refine gg 2 rfl ?_;obtain ⟨p15,e15,Y⟩:=zA7 Y
 refine Rn.c0 (cK func40) (zEh (Z0:=All) e15 (zD8 (D0.get 0 rfl)) :) D0 λw15 _ D16=>?_
 refine gg 2 rfl ?_;exact K1 ((decide (x1>p15)),F0) _ _ sA (D16.pk [0]) Y
theorem zS1 {x0:zA} {x1:Int} {r:UInt64} (Y:zNi x0 x1=some r) (f0:(fzR (zA.obj F0 b0 x0)).H Z0 w) :
 Calls prog 195 #[pt b0 0,iv x1] w λx w'=>x=.returned (zAn r)∧Hp Z0 No w w' []:=by
 obtain ⟨D0,D2,hc0⟩:=knA f0;refine eg func195 7 ?_;obtain ⟨p3,e3,Y⟩:=zA7 Y
 refine Rn.c0 (cK func194) (zEg (Z0:=All) e3 (zU0 (D2.get 0 rfl)) :) D2 λw3 _ D4=>?_
 refine gg 10 rfl ?_;obtain ⟨_,⟨A5_0,c5_0,rfl⟩,D5⟩:=D4.unfz 0 rfl;replace D5:=D5.nq;have D9:=D5.fzS 2 rfl;refine Rn.q rfl (V.ldBA [_,_,_] V139 O139 rfl (D9.getz 1 rfl) rfl rfl) (Rn.als rfl rfl rfl Tryz.zeroValue139 rfl O139 rfl rfl rfl rfl (by first|exact zJx rfl|(simp [Value.oneCell'];done)) ?_);intro b10 w10 hb10 m10 e10;have D12:=(D9.addBox hb10 e10 m10).nf [_,_,_,_,zAi _ _ [_,_,_]] rfl;refine gg 3 rfl ?_;have D14:=D12.dup 3 rfl (λ_ h=>h);have D17:=D14.cu [0,1,2,3] [4,5];obtain ⟨F16,D16⟩:=D17.fold (zA.sh b10 x0) ⟨A5_0,c5_0,rfl⟩;obtain ⟨p13,e13,Y⟩:=zA7 Y;have D18:=D16.cu [0,1,2,3] [4]
 refine Rn.a1 (cK func145) (m_bitio_Reader_Skip_sim e13 D18.lend :) D18 λF13_p0 w13 D20=>?_
 refine gg 4 rfl ?_;obtain ⟨p21,e21,Y⟩:=zA7 Y
 refine Rn.c0 (cK func194) (zEg (Z0:=All) e21 (zD8 (D20.get 4 rfl)) :) D20 λw21 _ D22=>?_
 refine gg 10 rfl (Rn.q rfl (V.cv64 U3 U137 rfl) (Rn.q rfl (V.shl64 (a:=p3.1) (m:=(zAf x1).toNat) rfl rfl) (gg 1 rfl (Rn.q rfl (V.o64 rfl rfl (shl64 p3.1 ((zAf x1).toNat)) p21.1 rfl rfl (zXf _ _ _)) (gg 2 rfl ?_)))))
 cases Y
 exact Rn.R1 func195 ⟨rfl,D22.pk []⟩
theorem m_vary_Get_sim {x0:zA} {r:(UInt64×Int×zA)} (Y:zLe x0=some r) (hL:zKt Z0 w [zA.obj F0 b0 x0]) :
 Calls prog 135 #[pt b0 0] w λx w'=>∃ F_p0,x=.returned (.tuple #[zAn r.1,iv r.2.1])∧Hp Z0 (LS [zA.obj F0 b0 x0]) w w' [zA.obj F_p0 b0 r.2.2]:=by
 have D0:=hL.start;refine eg func135 8 ?_;obtain ⟨p2,e2,Y⟩:=zA7 Y
 refine Rn.c0 (cK func194) (zEg (Z0:=All) e2 (zD8 (D0.get 0 rfl)) :) D0 λw2 _ D3=>?_
 refine gg 10 rfl (Rn.q rfl (V.notB rfl) (gg 1 rfl ?_));refine bS Y 5 3 (λh4 Y=>?_) (λh4 Y=>?_)
 ·cases Y
  exact Rn.R2 func135 ⟨F0,rfl,D3.pk [0]⟩
 obtain ⟨p5,e5,Y⟩:=zA7 Y
 refine Rn.c0 (cK func180) (zKw (Z0:=All) e5  :) D3 λw5 _ D6=>?_
 refine gg 1 rfl ?_;obtain ⟨z7,e7,Y⟩:=zA7 Y;refine Rn.q rfl (V.arE1 zcg V3 rfl rfl (zQx e7 rfl) (zQr (λx:Int=>(.int .i64 x:Value)) e7)) (gg 8 rfl ?_);obtain ⟨p8,e8,Y⟩:=zA7 Y
 refine Rn.c0 (cK func40) (zEh (Z0:=All) e8 (zD8 (D6.get 0 rfl)) :) D6 λw8 _ D9=>?_
 refine gg 2 rfl ?_;refine bD Y 5 6 (λh10 Y=>?_) (λh10 Y=>?_)
 ·cases Y
  exact Rn.R2 func135 ⟨F0,rfl,D9.pk [0]⟩
 refine Rn.q rfl (V.mini rfl rfl) ?_;obtain ⟨p11,e11,Y⟩:=zA7 Y
 refine Rn.c0 (cK func194) (zEg (Z0:=All) e11 (zD8 (D9.get 0 rfl)) :) D9 λw11 _ D12=>?_
 refine gg 12 rfl ?_;refine Rn.jG D0 Y (G:=UInt64×(Nat→Prop)) (λg=>[(0,pt b0 0),(4,zAn p2.1),(6,iv z7),(7,zAn (g.1))]) (λg=>[zA.obj (g.2) b0 x0]) (λj g=>j g.1) ?_ ?_
 ·rintro ⟨y14,F13⟩ w15 D15 Y
  try dsimp only at Y
  refine gg 4 rfl ?_;obtain ⟨p16,e16,Y⟩:=zA7 Y
  refine Rn.c0 (cK func179) (zNy (Z0:=All) e16  :) D15 λw16 _ D17=>?_
  refine gg 1 rfl (Rn.q rfl (V.cvW U35 U3 rfl) (gg 2 rfl ?_));refine bD Y 5 6 (λh18 Y=>?_) (λh18 Y=>?_)
  ·cases Y
   exact Rn.R2 func135 ⟨F13,rfl,D17.pk [0]⟩
  obtain ⟨p19,e19,Y⟩:=zA7 Y;have D20:=D17.cu [] [0]
  refine Rn.a1 (cK func145) (m_bitio_Reader_Skip_sim e19 D20.lend :) D20 λF19_p0 w19 D22=>?_
  refine gg 7 rfl ?_
  cases Y
  exact Rn.R2 func135 ⟨F19_p0,rfl,D22.pk [0]⟩
 intro j1 Y K1;refine bD Y 3 2 (λh23 Y=>?_) (λh23 Y=>?_)
 ·refine Rn.q rfl (V.cv64 U3 U137 rfl) (Rn.q rfl (V.shl64 (a:=(1:UInt64)) (m:=(zAf z7).toNat) rfl rfl) (Rn.q rfl (V.ari64 (a:=shl64 (1:UInt64) ((zAf z7).toNat)) (b:=(1:UInt64)) rfl rfl _ rfl (zI1 _ _)) (Rn.q rfl (V.o64 rfl rfl p11.1 ((shl64 (1:UInt64) ((zAf z7).toNat))-(1:UInt64)) rfl rfl (zSl _ _ _)) (gg 2 rfl ?_))));exact K1 ((p11.1&&&((shl64 (1:UInt64) ((zAf z7).toNat))-(1:UInt64))),F0) _ _ sA (D12.pk [0]) Y
 obtain ⟨p24,e24,Y⟩:=zA7 Y
 refine Rn.c0 (cK func195) (zS1 (Z0:=All) e24 (zD8 (D12.get 0 rfl)) :) D12 λw24 _ D25=>?_
 refine gg 2 rfl ?_;exact K1 (p24,F0) _ _ sA (D25.pk [0]) Y
theorem zSv {x0:UInt64} {r:Int} (Y:zN5 x0=some r)  :
 Calls prog 224 #[zAn x0] w λx w'=>x=.returned (iv r)∧Hp Z0 No w w' []:=by
 have D0:=Hp.nil Z0 No w;have hc0:=Calm.nil;refine eg func224 7 ?_;refine Rn.q rfl (V.sh64 rfl rfl _ 1 rfl rfl (zSk _ _ _ 1 (by decide))) (Rn.q rfl (V.cvW U35 U3 rfl) (gg 1 rfl (Rn.q rfl (V.o64 rfl rfl x0 (1:UInt64) rfl rfl (zSl _ _ _)) (Rn.q rfl (V.cvW U35 U3 rfl) (Rn.q rfl (V.negI rfl) (Rn.q rfl (V.xorZ rfl rfl) (gg 2 rfl ?_)))))))
 cases Y
 exact Rn.R1 func224 ⟨rfl,D0.pk []⟩
theorem m_vary_GetInt_sim {x0:zA} {r:(Int×Int×zA)} (Y:zJh x0=some r) (hL:zKt Z0 w [zA.obj F0 b0 x0]) :
 Calls prog 192 #[pt b0 0] w λx w'=>∃ F_p0,x=.returned (.tuple #[iv r.1,iv r.2.1])∧Hp Z0 (LS [zA.obj F0 b0 x0]) w w' [zA.obj F_p0 b0 r.2.2]:=by
 have D0:=hL.start;refine eg func192 8 ?_;obtain ⟨p2,e2,Y⟩:=zA7 Y;have D3:=D0.cu [] [0]
 refine Rn.a1 (cK func135) (m_vary_Get_sim e2 D3.lend :) D3 λF2_p0 w2 D5=>?_
 refine gg 9 rfl ?_;obtain ⟨p6,e6,Y⟩:=zA7 Y
 refine Rn.c0 (cK func224) (zSv (Z0:=All) e6  :) D5 λw6 _ D7=>?_
 refine gg 4 rfl ?_
 cases Y
 exact Rn.R2 func192 ⟨F2_p0,rfl,D7.pk [0]⟩
theorem m_bitio_Reader_Take_sim {x0:zA} {x1:Int} {r:(UInt64×Bool×zA)} (Y:zDh x0 x1=some r) (hL:zKt Z0 w [zA.obj F0 b0 x0]) :
 Calls prog 196 #[pt b0 0,iv x1] w λx w'=>∃ F_p0,x=.returned (.tuple #[zAn r.1,.bool (r.2.1)])∧Hp Z0 (LS [zA.obj F0 b0 x0]) w w' [zA.obj F_p0 b0 r.2.2]:=by
 have D0:=hL.start;refine eg func196 9 ?_;obtain ⟨p2,e2,Y⟩:=zA7 Y
 refine Rn.c0 (cK func194) (zEg (Z0:=All) e2 (zD8 (D0.get 0 rfl)) :) D0 λw2 _ D3=>?_
 refine gg 11 rfl ?_;refine Rn.jG D0 Y (G:=zA×(Nat→Prop)) (λg=>[(6,zAn p2.1),(7,.bool (p2.2))]) (λg=>[zA.obj (g.2) b0 (g.1)]) (λj g=>j g.1) ?_ ?_
 ·rintro ⟨y4,F4⟩ w5 D5 Y
  try dsimp only at Y
  refine gg 7 rfl ?_
  cases Y
  exact Rn.R2 func196 ⟨F4,rfl,D5.pk [0]⟩
 intro j1 Y K1;refine bS Y 4 1 (λh6 Y=>?_) (λh6 Y=>?_)
 ·obtain ⟨_,⟨A7_0,c7_0,rfl⟩,D7⟩:=D3.unf 0 rfl;replace D7:=D7.nq;refine Rn.q rfl (V.ldB V3 rfl (D7.get 0 rfl) rfl) (gg 4 rfl (Rn.sq rfl O3 rfl rfl (D7.get 0 rfl) ?_));intro w9 m9 x9;have D10:=(D7.st 0 rfl x9 m9).nf [zAi _ _ [_,_,_],_] rfl;refine gg 1 rfl ?_;have D11:=D10.dup 1 rfl (λ_ h=>h);have D14:=D11.cu [1] [0,2];obtain ⟨F13,D13⟩:=D14.fold (zA.sh b0 (⟨x0.b,x0.n,W64 (x0.at_+x1)⟩:zA)) ⟨A7_0,c7_0,rfl⟩;exact K1 ((⟨x0.b,x0.n,W64 (x0.at_+x1)⟩:zA),F13) _ _ sA (D13.pk [1]) Y
 exact K1 (x0,F0) _ _ sA (D3.pk [0]) Y
theorem zE2 {x0:zA} {r:Int} (Y:zC x0=some r) (f0:(fzR (zA.obj F0 b0 x0)).H Z0 w) :
 Calls prog 146 #[pt b0 0] w λx w'=>x=.returned (iv r)∧Hp Z0 No w w' []:=by
 obtain ⟨D0,D2,hc0⟩:=knA f0;refine eg func146 9 ?_;obtain ⟨_,⟨A3_0,c3_0,rfl⟩,D3⟩:=D2.unfz 0 rfl;replace D3:=D3.nq;have D7:=D3.fzS 2 rfl;refine Rn.q rfl (V.ldB V3 rfl (D7.getz 1 rfl) rfl) (gg 2 rfl ?_)
 cases Y
 exact Rn.R1 func146 ⟨rfl,D7.pk []⟩
theorem m_vary_step_sim {x0:zA} {r:(Int×Int×zA)} (Y:zNj x0=some r) (hL:zKt Z0 w [zA.obj F0 b0 x0]) :
 Calls prog 193 #[pt b0 0] w λx w'=>∃ F_p0,x=.returned (.tuple #[iv r.1,iv r.2.1])∧Hp Z0 (LS [zA.obj F0 b0 x0]) w w' [zA.obj F_p0 b0 r.2.2]:=by
 have D0:=hL.start;refine eg func193 9 ?_;obtain ⟨_,⟨A2_0,c2_0,rfl⟩,D2⟩:=D0.unf 0 rfl;replace D2:=D2.nq;refine Rn.q rfl (V.ldBA [_,_,_] V139 O139 rfl (D2.get 0 rfl) rfl rfl) (Rn.als rfl rfl rfl Tryz.zeroValue139 rfl O139 rfl rfl rfl rfl (by first|exact zJx rfl|(simp [Value.oneCell'];done)) ?_);intro b4 w4 hb4 m4 e4;have D6:=(D2.addBox hb4 e4 m4).nf [_,_,zAi _ _ [_,_,_]] rfl;refine gg 6 rfl ?_;have D7:=D6.dup 1 rfl (λ_ h=>h);have D10:=D7.cu [1,2] [0,3];obtain ⟨F9,D9⟩:=D10.fold (zA.sh b0 x0) ⟨A2_0,c2_0,rfl⟩;have D11:=D9.dup 0 rfl (λ_ h=>h);have D14:=D11.cu [0,2] [1,3];obtain ⟨F13,D13⟩:=D14.fold (zA.sh b4 x0) ⟨A2_0,c2_0,rfl⟩;refine Rn.jG D0 Y (G:=Int×zA×(Nat→Prop)×(Nat→Prop)) (λg=>[(0,pt b0 0),(4,pt b4 0),(5,iv (g.1))]) (λg=>[zA.obj (g.2.2.1) b0 x0,zA.obj (g.2.2.2) b4 (g.2.1)]) (λj g=>j g.1 g.2.1) ?_ ?_
 ·rintro ⟨y16,y17,F15,F17⟩ w18 D18 Y
  try dsimp only at Y
  refine gg 2 rfl ?_;obtain ⟨p19,e19,Y⟩:=zA7 Y
  refine Rn.c0 (cK func177) (zK (Z0:=All) e19  :) D18 λw19 _ D20=>?_
  refine gg 1 rfl ?_;obtain ⟨z21,e21,Y⟩:=zA7 Y;refine Rn.q rfl (V.arE1 zch V3 rfl rfl (zQx e21 rfl) (zQr (λx:Int=>(.int .i64 x:Value)) e21)) (gg 5 rfl ?_);obtain ⟨p22,e22,Y⟩:=zA7 Y;have D23:=D20.cu [0] [1]
  refine Rn.a1 (cK func196) (m_bitio_Reader_Take_sim e22 D23.lend :) D23 λF22_p0 w22 D25=>?_
  refine gg 10 rfl (Rn.q rfl (V.notB rfl) (gg 1 rfl ?_));refine bS Y 5 6 (λh26 Y=>?_) (λh26 Y=>?_)
  ·cases Y
   exact Rn.R2 func193 ⟨F15,rfl,D25.pk [0]⟩
  refine Rn.q rfl (V.cv64 U3 U137 rfl) (Rn.q rfl (V.shl64 (a:=p22.1) (m:=(zAf (W64 (64-z21))).toNat) rfl rfl) (Rn.q rfl (V.cvW U35 U3 rfl) (gg 2 rfl (Rn.q rfl (V.cv64 U3 U137 rfl) (Rn.q rfl (V.shrZ (m:=(zAf (W64 (64-z21))).toNat) rfl rfl) (gg 6 rfl ?_))))));obtain ⟨p27,e27,Y⟩:=zA7 Y
  refine Rn.c0 (cK func175) (zPb (Z0:=All) e27  :) D25 λw27 _ D28=>?_
  refine gg 3 rfl ?_;refine bD Y 5 4 (λh29 Y=>?_) (λh29 Y=>?_)
  ·cases Y
   exact Rn.R2 func193 ⟨F15,rfl,D28.pk [0]⟩
  obtain ⟨p30,e30,Y⟩:=zA7 Y
  refine Rn.c0 (cK func146) (zE2 (Z0:=All) e30 (zD8 (D28.get 1 rfl)) :) D28 λw30 _ D31=>?_
  refine gg 1 rfl ?_;obtain ⟨p32,e32,Y⟩:=zA7 Y
  refine Rn.c0 (cK func146) (zE2 (Z0:=All) e32 (zD8 (D31.get 0 rfl)) :) D31 λw32 _ D33=>?_
  refine gg 1 rfl ?_;obtain ⟨p34,e34,Y⟩:=zA7 Y;have D35:=D33.cu [1] [0]
  refine Rn.a1 (cK func145) (m_bitio_Reader_Skip_sim e34 D35.lend :) D35 λF34_p0 w34 D37=>?_
  refine gg 7 rfl ?_
  cases Y
  exact Rn.R2 func193 ⟨F34_p0,rfl,D37.pk [1]⟩
 intro j1 Y K1;refine gg 1 rfl ?_;refine Rn.loopF (G:=Int×zA×(Nat→Prop)×(Nat→Prop)) (λg=>[(0,pt b0 0),(4,pt b4 0),(5,iv (g.1))]) (λg w'=>Hp Z0 (LS [zA.obj F0 b0 x0]) w w' [zA.obj (g.2.2.1) b0 x0,zA.obj (g.2.2.2) b4 (g.2.1)]) (λn g=>zG x0 j1 n g.1 g.2.1) fuel (0,x0,F9,F13) sA (D13.pk [1,2]) Y (λ_=>rfl) ?_;clear Y;rintro m41 ⟨y39,y40,F38,F40⟩ w41 D41 Y N41;replace Y:zG x0 j1 (m41+1) y39 y40=some r:=Y;rw [zG] at Y;refine gg 6 rfl ?_;refine bD Y 4 1 (λh42 Y=>?_) (λh42 Y=>?_)
 ·obtain ⟨p43,e43,Y⟩:=zA7 Y;have D44:=D41.cu [0] [1]
  refine Rn.a1 (cK func196) (m_bitio_Reader_Take_sim e43 D44.lend :) D44 λF43_p0 w43 D46=>?_
  refine gg 10 rfl (Rn.q rfl (V.notB rfl) (gg 1 rfl ?_));refine bS Y 5 5 (λh47 Y=>?_) (λh47 Y=>?_)
  ·cases Y
   exact Rn.R2 func193 ⟨F38,rfl,D46.pk [0]⟩
  refine Rn.q rfl (V.eql rfl rfl) (gg 1 rfl ?_);refine bD Y 1 7 (λh48 Y=>?_) (λh48 Y=>?_)
  ·exact K1 (y39,p43.2.2,F38,F43_p0) _ _ sA (D46.pk [0,1]) Y
  exact N41 ((W64 (y39+1)),p43.2.2,F38,F43_p0) _ _ sA (D46.pk [0,1]) Y
 exact K1 (y39,y40,F38,F40) _ _ sA (D41.pk [0,1]) Y
theorem m_vary_Row_Get_sim {x0:zA9} {x1:zA} {r:(Int×Int×zA×zA9)} (Y:zKe x0 x1=some r) (hL:zKt Z0 w [zAi b0 186 [iv x0.n,zAn x0.last,zAn x0.step],zA.obj F1 b1 x1]) :
 Calls prog 134 #[pt b0 0,pt b1 0] w λx w'=>∃ F_p1,x=.returned (.tuple #[iv r.1,iv r.2.1])∧Hp Z0 (LS [zAi b0 186 [iv x0.n,zAn x0.last,zAn x0.step],zA.obj F1 b1 x1]) w w' [zA.obj F_p1 b1 r.2.2.1,zAi b0 186 [iv r.2.2.2.n,zAn r.2.2.2.last,zAn r.2.2.2.step]]:=by
 have D0:=hL.start;refine eg func134 15 ?_;refine Rn.q rfl (V.ldB V3 rfl (D0.get 0 rfl) rfl) (gg 2 rfl ?_);refine Rn.jG D0 Y (G:=UInt64×zA×(Nat→Prop)) (λg=>[(0,pt b0 0),(6,zAn (g.1))]) (λg=>[zAi b0 186 [iv x0.n,zAn x0.last,zAn x0.step],zA.obj (g.2.2) b1 (g.2.1)]) (λj g=>j g.1 g.2.1) ?_ ?_
 ·rintro ⟨y3,y4,F4⟩ w5 D5 Y
  try dsimp only at Y
  refine gg 4 rfl ?_;obtain ⟨p6,e6,Y⟩:=zA7 Y;have D7:=D5.cu [1] [0];refine Rn.cq (cK func178) (m_vary_Row_follow_sim e6 D7.lend :) ?_;rintro _ w6 ⟨rfl,Q6⟩;refine ⟨_,rfl,?_⟩;have D9:=D7.callAZ Q6;refine gg 4 rfl (Rn.q rfl (V.cvW U35 U3 rfl) (gg 3 rfl ?_))
  cases Y
  exact Rn.R2 func134 ⟨F4,rfl,D9.pk [0,1]⟩
 intro j1 Y K1;refine bD Y 3 3 (λh10 Y=>?_) (λh10 Y=>?_)
 ·obtain ⟨p11,e11,Y⟩:=zA7 Y;have D12:=D0.cu [0] [1]
  refine Rn.a1 (cK func192) (m_vary_GetInt_sim e11 D12.lend :) D12 λF11_p0 w11 D14=>?_
  refine gg 12 rfl ?_;refine bD Y 6 5 (λh15 Y=>?_) (λh15 Y=>?_)
  ·cases Y
   exact Rn.R2 func134 ⟨F11_p0,rfl,D14.pk [1,0]⟩
  refine Rn.q rfl (V.ldB V35 rfl (D14.get 0 rfl) rfl) (gg 1 rfl (Rn.q rfl (V.cv64 U3 U35 rfl) (Rn.q rfl (V.ari64 (a:=x0.last) (b:=zAf p11.1) rfl rfl _ rfl (zJe _ _)) (gg 2 rfl ?_))));exact K1 ((x0.last+(zAf p11.1)),p11.2.2,F11_p0) _ _ sA (D14.pk [0,1]) Y
 obtain ⟨p16,e16,Y⟩:=zA7 Y;have D17:=D0.cu [0] [1]
 refine Rn.a1 (cK func193) (m_vary_step_sim e16 D17.lend :) D17 λF16_p0 w16 D19=>?_
 refine gg 12 rfl ?_;refine bD Y 6 1 (λh20 Y=>?_) (λh20 Y=>?_)
 ·cases Y
  exact Rn.R2 func134 ⟨F16_p0,rfl,D19.pk [1,0]⟩
 refine Rn.drawP rfl D19 ?_;intro w21 D21;refine dq [0,1,2] ?_;refine RH.tp 3 rfl (V.ldB V35 rfl (D21.get 0 rfl) rfl) ?_;refine dq [4,5,6] ?_;refine RH.tp 7 rfl (V.ldB V35 rfl (D21.get 0 rfl) rfl) ?_;refine RH.tp 8 rfl (V.ari64 (a:=x0.last) (b:=x0.step) rfl rfl _ rfl (zJe _ _)) ?_;refine dq [9] ?_;refine RH.tp 10 rfl (V.cv64 U3 U35 rfl) ?_;refine RH.tp 11 rfl (V.ari64 (a:=x0.last+x0.step) (b:=zAf p16.1) rfl rfl _ rfl (zJe _ _)) ?_;refine dq [12] ?_;refine RH.dn ?_;exact K1 (((x0.last+x0.step)+(zAf p16.1)),p16.2.2,F16_p0) _ _ sA (D21.pk [0,1]) Y
theorem m_chunk_in_int_sim {p0_0:Nat} {x0:zA6} {x1:Int} {x2:Int} {r:(Int×zA6)} (Y:zHr x0 x1 x2=some r) (hL:zKt Z0 w [zA6.obj F0 b0 p0_0 x0]) :
 Calls prog 88 #[pt b0 0,iv x1,iv x2] w λx w'=>∃ F_p0,x=.returned (iv r.1)∧Hp Z0 (LS [zA6.obj F0 b0 p0_0 x0]) w w' [zA6.obj F_p0 b0 p0_0 r.2]:=by
 have D0:=hL.start;refine eg func88 10 ?_;obtain ⟨_,⟨F2_0,F2_1,b2_1,F2_2,b2_2,F2_3,b2_3,F2_4,b2_4,F2_5,b2_5,F2_6,b2_6,F2_7,b2_7,rfl⟩,D2⟩:=D0.unf 0 rfl;replace D2:=D2.nq;refine Rn.q rfl (V.ldB V25 rfl (D2.get 0 rfl) rfl) (gg 2 rfl ?_);refine aD Y (λh11 Y=>?_) (λh11 Y=>?_)
 ·refine gg 5 rfl (Rn.sq rfl O25 rfl rfl (D2.get 0 rfl) ?_);intro w12 m12 x12;have D13:=(D2.st 0 rfl x12 m12).nf [zAi _ _ [_,_,_,_,_,_,_,_,_],_,_,_,_,_,_,_,_] rfl;refine gg 6 rfl ?_;have D15:=D13.cu [] [0,1,2,3,4,5,6,7,8];obtain ⟨F14,D14⟩:=D15.fold (zA6.sh b0 p0_0 (⟨x0.r,x0.rows,x2⟩:zA6)) ⟨F2_0,F2_1,b2_1,F2_2,b2_2,F2_3,b2_3,F2_4,b2_4,F2_5,b2_5,F2_6,b2_6,F2_7,b2_7,rfl⟩
  cases Y
  exact Rn.R1 func88 ⟨F14,rfl,D14.pk [0]⟩
 cases Y
theorem m_chunk_in_int_s2_sim {v0_r:Value} {v0_rows_ords:Value} {v0_rows_times:Value} {v0_rows_spans:Value} {v0_rows_ints:Value} {v0_rows_re:Value} {v0_rows_im:Value} {v0_rows_hists:Value} {x0_e:Int} {x1:Int} {x2:Int} {r:(Int×Int)} (Y:zK9 x0_e x1 x2=some r) (hL:zKt Z0 w [zAi b0 83 [v0_r,v0_rows_ords,v0_rows_times,v0_rows_spans,v0_rows_ints,v0_rows_re,v0_rows_im,v0_rows_hists,iv x0_e]]) :
 Calls prog 88 #[pt b0 0,iv x1,iv x2] w λx w'=>x=.returned (iv r.1)∧Hp Z0 (LS [zAi b0 83 [v0_r,v0_rows_ords,v0_rows_times,v0_rows_spans,v0_rows_ints,v0_rows_re,v0_rows_im,v0_rows_hists,iv x0_e]]) w w' [zAi b0 83 [v0_r,v0_rows_ords,v0_rows_times,v0_rows_spans,v0_rows_ints,v0_rows_re,v0_rows_im,v0_rows_hists,iv r.2]]:=by
 have D0:=hL.start;refine eg func88 10 ?_;refine Rn.q rfl (V.ldB V25 rfl (D0.get 0 rfl) rfl) (gg 2 rfl ?_);refine aD Y (λh2 Y=>?_) (λh2 Y=>?_)
 ·refine gg 5 rfl (Rn.sq rfl O25 rfl rfl (D0.get 0 rfl) ?_);intro w3 m3 x3;have D4:=(D0.st 0 rfl x3 m3).nf [zAi _ _ [_,_,_,_,_,_,_,_,_]] rfl;refine gg 6 rfl ?_
  cases Y
  exact Rn.R1 func88 ⟨rfl,D4.pk [0]⟩
 cases Y
theorem m_chunk_reader_row_s2_sim {F0_r:Nat→Prop} {b0_r:Nat} {x0_r:zA} {v0_rows_ords:Value} {v0_rows_times:Value} {v0_rows_spans:Value} {v0_rows_ints:Value} {v0_rows_re:Value} {v0_rows_im:Value} {v0_rows_hists:Value} {x0_e:Int} {x1:zA9} {r:(Int×zA×Int×zA9)} (Y:zCx x0_r x0_e x1=some r) (hL:zKt Z0 w [zAi b0 83 [pt b0_r 0,v0_rows_ords,v0_rows_times,v0_rows_spans,v0_rows_ints,v0_rows_re,v0_rows_im,v0_rows_hists,iv x0_e],zA.obj F0_r b0_r x0_r,zAi b1 186 [iv x1.n,zAn x1.last,zAn x1.step]]) :
 Calls prog 82 #[pt b0 0,pt b1 0] w λx w'=>∃ F_p0_r,x=.returned (iv r.1)∧Hp Z0 (LS [zAi b0 83 [pt b0_r 0,v0_rows_ords,v0_rows_times,v0_rows_spans,v0_rows_ints,v0_rows_re,v0_rows_im,v0_rows_hists,iv x0_e],zA.obj F0_r b0_r x0_r,zAi b1 186 [iv x1.n,zAn x1.last,zAn x1.step]]) w w' [zA.obj F_p0_r b0_r r.2.1,zAi b1 186 [iv r.2.2.2.n,zAn r.2.2.2.last,zAn r.2.2.2.step],zAi b0 83 [pt b0_r 0,v0_rows_ords,v0_rows_times,v0_rows_spans,v0_rows_ints,v0_rows_re,v0_rows_im,v0_rows_hists,iv r.2.2.1]]:=by
 have D0:=hL.start;refine eg func82 10 ?_;refine Rn.q rfl (V.ldB V25 rfl (D0.get 0 rfl) rfl) (gg 2 rfl ?_);refine aD Y (λh4 Y=>?_) (λh4 Y=>?_)
 ·cases Y
 refine gg 7 rfl (Rn.q rfl (V.ldB V72 rfl (D0.get 0 rfl) rfl) ?_);obtain ⟨p5,e5,Y⟩:=zA7 Y;have D6:=D0.cu [0] [2,1]
 refine Rn.a1 (cK func134) (m_vary_Row_Get_sim e5 D6.lend :) D6 λF5_p1 w5 D9=>?_
 refine gg 11 rfl ?_;obtain ⟨p10,e10,Y⟩:=zA7 Y;have D11:=D9.cu [1,2] [0];refine Rn.cq (cK func88) (m_chunk_in_int_s2_sim e10 D11.lend :) ?_;rintro _ w10 ⟨rfl,Q10⟩;refine ⟨_,rfl,?_⟩;have D13:=D11.callAZ Q10;refine gg 2 rfl ?_
 cases Y
 exact Rn.R1 func82 ⟨F5_p1,rfl,D13.pk [0,1,2]⟩
theorem m_chunk_in_uint64_sim {p0_0:Nat} {x0:zA6} {x1:UInt64} {x2:Int} {r:(UInt64×zA6)} (Y:zK8 x0 x1 x2=some r) (hL:zKt Z0 w [zA6.obj F0 b0 p0_0 x0]) :
 Calls prog 136 #[pt b0 0,zAn x1,iv x2] w λx w'=>∃ F_p0,x=.returned (zAn r.1)∧Hp Z0 (LS [zA6.obj F0 b0 p0_0 x0]) w w' [zA6.obj F_p0 b0 p0_0 r.2]:=by
 have D0:=hL.start;refine eg func136 10 ?_;obtain ⟨_,⟨F2_0,F2_1,b2_1,F2_2,b2_2,F2_3,b2_3,F2_4,b2_4,F2_5,b2_5,F2_6,b2_6,F2_7,b2_7,rfl⟩,D2⟩:=D0.unf 0 rfl;replace D2:=D2.nq;refine Rn.q rfl (V.ldB V25 rfl (D2.get 0 rfl) rfl) (gg 2 rfl ?_);refine aD Y (λh11 Y=>?_) (λh11 Y=>?_)
 ·refine gg 5 rfl (Rn.sq rfl O25 rfl rfl (D2.get 0 rfl) ?_);intro w12 m12 x12;have D13:=(D2.st 0 rfl x12 m12).nf [zAi _ _ [_,_,_,_,_,_,_,_,_],_,_,_,_,_,_,_,_] rfl;refine gg 6 rfl ?_;have D15:=D13.cu [] [0,1,2,3,4,5,6,7,8];obtain ⟨F14,D14⟩:=D15.fold (zA6.sh b0 p0_0 (⟨x0.r,x0.rows,x2⟩:zA6)) ⟨F2_0,F2_1,b2_1,F2_2,b2_2,F2_3,b2_3,F2_4,b2_4,F2_5,b2_5,F2_6,b2_6,F2_7,b2_7,rfl⟩
  cases Y
  exact Rn.R1 func136 ⟨F14,rfl,D14.pk [0]⟩
 cases Y
theorem m_chunk_reader_flags_sim {p0_0:Nat} {x0:zA6} {r:(UInt64×zA6)} (Y:zFo x0=some r) (hL:zKt Z0 w [zA6.obj F0 b0 p0_0 x0]) :
 Calls prog 83 #[pt b0 0] w λx w'=>∃ F_p0,x=.returned (zAn r.1)∧Hp Z0 (LS [zA6.obj F0 b0 p0_0 x0]) w w' [zA6.obj F_p0 b0 p0_0 r.2]:=by
 have D0:=hL.start;refine eg func83 10 ?_;obtain ⟨_,⟨F2_0,F2_1,b2_1,F2_2,b2_2,F2_3,b2_3,F2_4,b2_4,F2_5,b2_5,F2_6,b2_6,F2_7,b2_7,rfl⟩,D2⟩:=D0.unf 0 rfl;replace D2:=D2.nq;refine Rn.q rfl (V.ldB V25 rfl (D2.get 0 rfl) rfl) (gg 2 rfl ?_);refine aD Y (λh11 Y=>?_) (λh11 Y=>?_)
 ·cases Y
 refine gg 6 rfl (Rn.q rfl (V.ldB V72 rfl (D2.get 0 rfl) rfl) ?_);obtain ⟨p12,e12,Y⟩:=zA7 Y;have D13:=D2.cu [0,2,3,4,5,6,7,8] [1]
 refine Rn.a1 (cK func135) (m_vary_Get_sim e12 D13.lend :) D13 λF12_p0 w12 D15=>?_
 refine gg 11 rfl ?_;have D18:=D15.cu [] [0,8,1,2,3,4,5,6,7];obtain ⟨F17,D17⟩:=D18.fold (zA6.sh b0 p0_0 (⟨p12.2.2,x0.rows,x0.e⟩:zA6)) ⟨F12_p0,F2_1,b2_1,F2_2,b2_2,F2_3,b2_3,F2_4,b2_4,F2_5,b2_5,F2_6,b2_6,F2_7,b2_7,rfl⟩;obtain ⟨p16,e16,Y⟩:=zA7 Y;have D19:=D17.cu [] [0]
 refine Rn.a1 (cK func136) (m_chunk_in_uint64_sim e16 D19.lend :) D19 λF16_p0 w16 D21=>?_
 refine gg 2 rfl ?_
 cases Y
 exact Rn.R1 func83 ⟨F16_p0,rfl,D21.pk [0]⟩
theorem m_histbits_reader_take_sim {p0_0:Nat} {x0:zA1} {x1:Int} {r:(Int×zA1)} (Y:zC2 x0 x1=some r) (hL:zKt Z0 w [zA1.obj F0 b0 p0_0 x0]) :
 Calls prog 137 #[pt b0 0,iv x1] w λx w'=>∃ F_p0,x=.returned (iv r.1)∧Hp Z0 (LS [zA1.obj F0 b0 p0_0 x0]) w w' [zA1.obj F_p0 b0 p0_0 r.2]:=by
 have D0:=hL.start;refine eg func137 10 ?_;obtain ⟨_,⟨F2_0,rfl⟩,D2⟩:=D0.unf 0 rfl;replace D2:=D2.nq;refine Rn.q rfl (V.ldB V25 rfl (D2.get 0 rfl) rfl) (gg 2 rfl ?_);refine bD Y 4 6 (λh4 Y=>?_) (λh4 Y=>?_)
 ·have D6:=D2.cu [] [0,1];obtain ⟨F5,D5⟩:=D6.fold (zA1.sh b0 p0_0 x0) ⟨F2_0,rfl⟩
  cases Y
  exact Rn.R1 func137 ⟨F5,rfl,D5.pk [0]⟩
 refine Rn.q rfl (V.ldB V72 rfl (D2.get 0 rfl) rfl) (gg 1 rfl ?_);obtain ⟨p7,e7,Y⟩:=zA7 Y;have D8:=D2.cu [0] [1]
 refine Rn.a1 (cK func196) (m_bitio_Reader_Take_sim e7 D8.lend :) D8 λF7_p0 w7 D10=>?_
 refine gg 10 rfl (Rn.q rfl (V.notB rfl) (gg 1 rfl ?_));have D12:=D10.cu [] [0,1];obtain ⟨F11,D11⟩:=D12.fold (zA1.sh b0 p0_0 (⟨p7.2.2,x0.e⟩:zA1)) ⟨F7_p0,rfl⟩;refine Rn.jG D0 Y (G:=zA1×(Nat→Prop)) (λg=>[(5,zAn p7.1)]) (λg=>[zA1.obj (g.2) b0 p0_0 (g.1)]) (λj g=>j g.1) ?_ ?_
 ·rintro ⟨y13,F13⟩ w14 D14 Y
  try dsimp only at Y
  refine gg 3 rfl (Rn.q rfl (V.cvW U35 U3 rfl) (gg 2 rfl ?_))
  cases Y
  exact Rn.R1 func137 ⟨F13,rfl,D14.pk [0]⟩
 intro j1 Y K1;refine bS Y 4 1 (λh15 Y=>?_) (λh15 Y=>?_)
 ·obtain ⟨_,⟨F16_0,rfl⟩,D16⟩:=D11.unf 0 rfl;replace D16:=D16.nq;refine Rn.sq rfl O25 rfl rfl (D16.get 0 rfl) ?_;intro w18 m18 x18;have D19:=(D16.st 0 rfl x18 m18).nf [zAi _ _ [_,_],_] rfl;refine gg 1 rfl ?_;have D21:=D19.cu [] [0,1];obtain ⟨F20,D20⟩:=D21.fold (zA1.sh b0 p0_0 (⟨p7.2.2,2⟩:zA1)) ⟨F16_0,rfl⟩;exact K1 ((⟨p7.2.2,2⟩:zA1),F20) _ _ sA (D20.pk [0]) Y
 exact K1 ((⟨p7.2.2,x0.e⟩:zA1),F11) _ _ sA (D11.pk [0]) Y
theorem m_histbits_reader_int_sim {p0_0:Nat} {x0:zA1} {r:(Int×zA1)} (Y:zCs x0=some r) (hL:zKt Z0 w [zA1.obj F0 b0 p0_0 x0]) :
 Calls prog 141 #[pt b0 0] w λx w'=>∃ F_p0,x=.returned (iv r.1)∧Hp Z0 (LS [zA1.obj F0 b0 p0_0 x0]) w w' [zA1.obj F_p0 b0 p0_0 r.2]:=by
 have D0:=hL.start;refine eg func141 10 ?_;obtain ⟨_,⟨F2_0,rfl⟩,D2⟩:=D0.unf 0 rfl;replace D2:=D2.nq;refine Rn.q rfl (V.ldB V25 rfl (D2.get 0 rfl) rfl) (gg 2 rfl ?_);refine bD Y 4 6 (λh4 Y=>?_) (λh4 Y=>?_)
 ·have D6:=D2.cu [] [0,1];obtain ⟨F5,D5⟩:=D6.fold (zA1.sh b0 p0_0 x0) ⟨F2_0,rfl⟩
  cases Y
  exact Rn.R1 func141 ⟨F5,rfl,D5.pk [0]⟩
 refine Rn.q rfl (V.ldB V72 rfl (D2.get 0 rfl) rfl) ?_;obtain ⟨p7,e7,Y⟩:=zA7 Y;have D8:=D2.cu [0] [1]
 refine Rn.a1 (cK func192) (m_vary_GetInt_sim e7 D8.lend :) D8 λF7_p0 w7 D10=>?_
 refine gg 12 rfl (Rn.sq rfl O25 rfl rfl (D10.get 0 rfl) ?_);intro w11 m11 x11;have D12:=(D10.st 0 rfl x11 m11).nf [zAi _ _ [_,_],_] rfl;refine gg 6 rfl ?_;have D14:=D12.cu [] [0,1];obtain ⟨F13,D13⟩:=D14.fold (zA1.sh b0 p0_0 (⟨p7.2.2,p7.2.1⟩:zA1)) ⟨F7_p0,rfl⟩
 cases Y
 exact Rn.R1 func141 ⟨F13,rfl,D13.pk [0]⟩
theorem m_histbits_reader_side_sim {p0_0:Nat} {x0:zA1} {r:(zAa×zA1)} (Y:zEu x0=some r) (hL:zKt Z0 w [zA1.obj F0 b0 p0_0 x0]) :
 Calls prog 142 #[pt b0 0] w λx w'=>∃ A_0_0 c_0_0 F_p0,x=.returned (.agg [iv r.1.Offset,.slice A_0_0 (r.1.Counts).length c_0_0].toArray)∧Hp Z0 (LS [zA1.obj F0 b0 p0_0 x0]) w w' [zAy 35 A_0_0 c_0_0 zAq r.1.Counts,zA1.obj F_p0 b0 p0_0 r.2]:=by
 have D0:=hL.start;refine eg func142 2 ?_
 refine Rn.al D0 Tryz.zeroValue38 λb2 w2 D4=>?_
 replace D4:=D4.nf [_,zAi _ _ [_,_]] rfl;refine gg 4 rfl ?_;obtain ⟨p5,e5,Y⟩:=zA7 Y;have D6:=D4.cu [1] [0]
 refine Rn.a1 (cK func137) (m_histbits_reader_take_sim e5 D6.lend :) D6 λF5_p0 w5 D8=>?_
 refine gg 8 rfl ?_;obtain ⟨_,⟨F9_0,rfl⟩,D9⟩:=D8.unf 1 rfl;replace D9:=D9.nq;refine Rn.q rfl (V.ldB V25 rfl (D9.get 1 rfl) rfl) (gg 2 rfl ?_);refine Rn.cutR [] [(0,pt b0 0),(2,pt b2 0),(3,iv p5.1),(14,.bool (decide ((p5.2.e=0)∧(p5.1>160))))] (λK11=>?_) ?_
 ·refine Rn.partD (t:=11) rfl (λh12=>?_) (λh12=>?_)
  ·refine gg 3 rfl ?_;exact K11 _ sA
  refine gg 3 rfl ?_;exact K11 _ sA
 refine gg 1 rfl ?_;have D14:=D9.cu [0] [1,2];obtain ⟨F13,D13⟩:=D14.fold (zA1.sh b0 p0_0 p5.2) ⟨F9_0,rfl⟩;refine Rn.jG D0 Y (G:=zA1×(Nat→Prop)) (λg=>[(0,pt b0 0),(2,pt b2 0),(3,iv p5.1)]) (λg=>[zAi b2 38 [iv 0,.slice none 0 0],zA1.obj (g.2) b0 p0_0 (g.1)]) (λj g=>j g.1) ?_ ?_
 ·rintro ⟨y15,F15⟩ w16 D16 Y
  try dsimp only at Y
  refine gg 6 rfl ?_;obtain ⟨_,⟨F17_0,rfl⟩,D17⟩:=D16.unf 1 rfl;replace D17:=D17.nq;refine Rn.q rfl (V.ldB V25 rfl (D17.get 1 rfl) rfl) (gg 2 rfl ?_);refine Rn.cutR [] [(0,pt b0 0),(2,pt b2 0),(3,iv p5.1),(26,.bool (decide ((y15.e≠0)∨(p5.1=0))))] (λK19=>?_) ?_
  ·refine Rn.partD (t:=23) rfl (λh20=>?_) (λh20=>?_)
   ·refine gg 3 rfl ?_;exact K19 _ sA
   refine gg 3 rfl ?_;exact K19 _ sA
  refine gg 1 rfl ?_;refine bD Y 2 2 (λh21 Y=>?_) (λh21 Y=>?_)
  ·refine Rn.q rfl (V.bldS (cs:=[_,_]) st38 rfl rfl) (Rn.sq rfl O38 rfl rfl (D17.get 0 rfl) ?_);intro w22 m22 x22;have D23:=(D17.st 0 rfl x22 m22).nf [zAi _ _ [_,_],_,_] rfl;refine gg 1 rfl ?_;have D24:=D23.addNil 35 zAq;have D27:=D24.cu [0,3] [1,2];obtain ⟨F26,D26⟩:=D27.fold (zA1.sh b0 p0_0 y15) ⟨F17_0,rfl⟩;refine Rn.retG1 func142 rfl (rvC rfl V38 O38 (D23.get 0 rfl) rfl) ?_;obtain rfl:=zF3 Y;exact ⟨none,0,F26,rfl,D26.pk [1,2]⟩
  have D30:=D17.cu [0] [1,2];obtain ⟨F29,D29⟩:=D30.fold (zA1.sh b0 p0_0 y15) ⟨F17_0,rfl⟩;have D31:=(D29.cutF [] [0,1] [] rfl (by decide) trivial).nf ([]++[_,_]) rfl;refine Rn.drawF rfl D31 ?_;intro w32 hmo32 D32;refine dq [0,2] ?_;obtain ⟨p33,e33,Y⟩:=zA7 Y;obtain ⟨z37,e37,Y⟩:=zA7 Y;refine RH.both 1 3 (by kernel_rfl) ?_ ?_
  ·have e43:=e33;have D44:=D32.cu [0] [1];refine RB.cl (cK func141) 1 rfl rfl rfl rfl (m_histbits_reader_int_sim e43 D44.lend :) ?_;rintro _ w43 ⟨F43_p0,rfl,Q43⟩;have D46:=D44.callAZ Q43;refine ⟨_,rfl,D46.fr,?_⟩;have e47:=e37;refine RH.mkSlH (rep:=zAq) 3 (by kernel_rfl) D46 e47 rfl rfl rfl U36 zVc rfl (zs:=[zAn (0:UInt64)]) (by kernel_rfl) rfl rfl (λ_ _=>⟨rfl,trivial⟩) ?_;intro b47 w47 D47 x47;refine ⟨D47.fr,?_⟩;refine RH.ho 4 rfl (V.bldS (cs:=[_,_]) st38 rfl rfl) ?_;refine RH.st 5 (by kernel_rfl) rfl rfl O38 rfl rfl rfl rfl (by first|exact zJx rfl|(simp [Value.oneCell'];done)) (D47.get 0 rfl) (by first|exact nbl rfl|(simp;done)) ?_;intro w49 m49 x49;have D50:=(D47.st 0 rfl x49 m49).nf [zAi _ _ [_,_],_,_] rfl;refine ⟨D50.fr,?_⟩;refine RH.dn ?_;have D51:=hmo32.callAZ D50;have D52:=(D51.pk [0,1,2]).nq;refine Rn.retG1 func142 rfl (rvC rfl V38 O38 (D52.get 0 rfl) rfl) ?_;obtain rfl:=zF3 Y;exact ⟨(some ⟨b47,0,none⟩),(z37).length,F43_p0,rfl,D52.pk [2,1]⟩
  have e53:=e37;refine RB.mkSlH (rep:=zAq) 3 D32 e53 rfl rfl rfl U36 zVc rfl (zs:=[zAn (0:UInt64)]) (by kernel_rfl) rfl rfl (λ_ _=>⟨rfl,trivial⟩) ?_;intro b53 w53 D53 x53;refine ⟨D53.fr,?_⟩;have e55:=e33;have D56:=D53.cu [0,2] [1];refine RH.cq (cK func141) 1 (m_histbits_reader_int_sim e55 D56.lend :) ?_;rintro _ w55 ⟨F55_p0,rfl,Q55⟩;have D58:=D56.callAZ Q55;refine ⟨_,rfl,D58.fr,?_⟩;refine RH.ho 4 rfl (V.bldS (cs:=[_,_]) st38 rfl rfl) ?_;refine RH.st 5 (by kernel_rfl) rfl rfl O38 rfl rfl rfl rfl (by first|exact zJx rfl|(simp [Value.oneCell'];done)) (D58.get 0 rfl) (by first|exact nbl rfl|(simp;done)) ?_;intro w59 m59 x59;have D60:=(D58.st 0 rfl x59 m59).nf [zAi _ _ [_,_],_,_] rfl;refine ⟨D60.fr,?_⟩;refine RH.dn ?_;have D61:=hmo32.callAZ D60;have D62:=(D61.pk [0,1,2]).nq;refine Rn.retG1 func142 rfl (rvC rfl V38 O38 (D62.get 0 rfl) rfl) ?_;obtain rfl:=zF3 Y;exact ⟨(some ⟨b53,0,none⟩),(z37).length,F55_p0,rfl,D62.pk [1,2]⟩
 intro j1 Y K1;refine bD Y 4 1 (λh63 Y=>?_) (λh63 Y=>?_)
 ·obtain ⟨_,⟨F64_0,rfl⟩,D64⟩:=D13.unf 1 rfl;replace D64:=D64.nq;refine Rn.sq rfl O25 rfl rfl (D64.get 1 rfl) ?_;intro w66 m66 x66;have D67:=(D64.st 1 rfl x66 m66).nf [_,zAi _ _ [_,_],_] rfl;refine gg 1 rfl ?_;have D69:=D67.cu [0] [1,2];obtain ⟨F68,D68⟩:=D69.fold (zA1.sh b0 p0_0 (⟨p5.2.r,4⟩:zA1)) ⟨F64_0,rfl⟩;exact K1 ((⟨p5.2.r,4⟩:zA1),F68) _ _ sA (D68.pk [0,1]) Y
 exact K1 (p5.2,F13) _ _ sA (D13.pk [0,1]) Y
theorem m_histbits_reader_num_sim {p0_0:Nat} {x0:zA1} {r:(UInt64×zA1)} (Y:zE0 x0=some r) (hL:zKt Z0 w [zA1.obj F0 b0 p0_0 x0]) :
 Calls prog 143 #[pt b0 0] w λx w'=>∃ F_p0,x=.returned (zAn r.1)∧Hp Z0 (LS [zA1.obj F0 b0 p0_0 x0]) w w' [zA1.obj F_p0 b0 p0_0 r.2]:=by
 have D0:=hL.start;refine eg func143 10 ?_;obtain ⟨_,⟨F2_0,rfl⟩,D2⟩:=D0.unf 0 rfl;replace D2:=D2.nq;refine Rn.q rfl (V.ldB V25 rfl (D2.get 0 rfl) rfl) (gg 2 rfl ?_);refine bD Y 4 6 (λh4 Y=>?_) (λh4 Y=>?_)
 ·have D6:=D2.cu [] [0,1];obtain ⟨F5,D5⟩:=D6.fold (zA1.sh b0 p0_0 x0) ⟨F2_0,rfl⟩
  cases Y
  exact Rn.R1 func143 ⟨F5,rfl,D5.pk [0]⟩
 refine Rn.q rfl (V.ldB V72 rfl (D2.get 0 rfl) rfl) ?_;obtain ⟨p7,e7,Y⟩:=zA7 Y;have D8:=D2.cu [0] [1]
 refine Rn.a1 (cK func135) (m_vary_Get_sim e7 D8.lend :) D8 λF7_p0 w7 D10=>?_
 refine gg 12 rfl (Rn.sq rfl O25 rfl rfl (D10.get 0 rfl) ?_);intro w11 m11 x11;have D12:=(D10.st 0 rfl x11 m11).nf [zAi _ _ [_,_],_] rfl;refine gg 6 rfl ?_;have D14:=D12.cu [] [0,1];obtain ⟨F13,D13⟩:=D14.fold (zA1.sh b0 p0_0 (⟨p7.2.2,p7.2.1⟩:zA1)) ⟨F7_p0,rfl⟩
 cases Y
 exact Rn.R1 func143 ⟨F13,rfl,D13.pk [0]⟩
end Go.Proofs.YthjhejgjcdajdaaGreatDoor
