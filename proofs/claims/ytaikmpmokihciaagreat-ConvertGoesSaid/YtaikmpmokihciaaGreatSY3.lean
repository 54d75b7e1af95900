import Derived.Test.YtaikmpmokihciaaGreatRows
import Derived.Test.YtaikmpmokihciaaGreatVY2
import Derived.Test.YtaikmpmokihciaaGreatSY2
import Derived.Test.YtaikmpmokihciaaGreatIY
set_option maxRecDepth 20000
set_option maxHeartbeats 40000000
set_option linter.unusedVariables false
set_option linter.unusedSimpArgs false
namespace Go.Proofs.YtaikmpmokihciaaGreat
open Go Go.RowKit Go.Wk _root_.Go.Proofs.Tryz
open _root_.Go.Proofs.Tryz renaming underlying3→U3,underlying4→U4,underlying5→U5,underlying9→U9,underlying24→U24,underlying27→U27,underlying30→U30,underlying31→U31,underlying32→U32,underlying51→U51,underlying102→U102,underlying130→U130,underlying134→U134,underlying163→U163,isAgg3→V3,isAgg4→V4,isAgg5→V5,isAgg9→V9,isAgg30→V30,isAgg31→V31,isAgg32→V32,isAgg34→V34,isAgg36→V36,isAgg38→V38,isAgg39→V39,isAgg51→V51,isAgg67→V67,isAgg70→V70,isAgg72→V72,isAgg130→V130,sizeOf3→O3,sizeOf5→O5,sizeOf9→O9,sizeOf31→O31,sizeOf34→O34,sizeOf36→O36,sizeOf38→O38,sizeOf39→O39,sizeOf51→O51,sizeOf70→O70,sizeOf72→O72,sizeOf116→O116
variable {Z0:Nat→Prop} {w:World} {F0:Nat→Prop} {F1:Nat→Prop} {F2:Nat→Prop} {F3:Nat→Prop} {F4:Nat→Prop} {F5:Nat→Prop} {b0:Nat} {b1:Nat} {b2:Nat} {b3:Nat} {b4:Nat} {b5:Nat} {A0:Option Addr} {A1:Option Addr} {A2:Option Addr} {A3:Option Addr} {A4:Option Addr} {A5:Option Addr} {c0:Nat} {c1:Nat} {c2:Nat} {c3:Nat} {c4:Nat} {c5:Nat} {cs0:List Value} {cs1:List Value} {cs2:List Value} {cs3:List Value}
theorem m_tocum_Next_sim {x0:T_api_State} {x1:T_api_Point} {x2:Int} {r:(T_api_State×T_api_Point×Int)} (Y:m_tocum_Next x0 x1 x2=some r) (h0:T_api_State.rep.rel Z0 w cs0 x0) (h1:T_api_Point.rep.rel Z0 w cs1 x1) :
 Calls prog 80 #[.agg cs0.toArray,.agg cs1.toArray,iv x2] w λx w'=>∃ A_0_0 c_0_0 A_0_1 c_0_1 A_1_0 c_1_0 A_1_1 c_1_1 A_1_2 c_1_2,x=.returned (.tuple #[.agg [.bool (r.1.Some),iv r.1.Start,iv r.1.Time,iv r.1.Int_,u64v r.1.Re,u64v r.1.Im,iv r.1.Hist.Scale,u64v r.1.Hist.Zero,iv r.1.Hist.Pos.Offset,.slice A_0_0 (r.1.Hist.Pos.Counts).length c_0_0,iv r.1.Hist.Neg.Offset,.slice A_0_1 (r.1.Hist.Neg.Counts).length c_0_1].toArray,.agg [Str (r.2.1.Name),.slice A_1_0 (r.2.1.Attrs).length c_1_0,iv r.2.1.Kind,iv r.2.1.Temp,.bool (r.2.1.Mono),iv r.2.1.Start,iv r.2.1.Time,iv r.2.1.Int_,u64v r.2.1.Re,u64v r.2.1.Im,iv r.2.1.Hist.Scale,u64v r.2.1.Hist.Zero,iv r.2.1.Hist.Pos.Offset,.slice A_1_1 (r.2.1.Hist.Pos.Counts).length c_1_1,iv r.2.1.Hist.Neg.Offset,.slice A_1_2 (r.2.1.Hist.Neg.Counts).length c_1_2,iv r.2.1.Flags].toArray,iv r.2.2])∧Hp Z0 No w w' [slR A_0_0 c_0_0 w64R r.1.Hist.Pos.Counts,slR A_0_1 c_0_1 w64R r.1.Hist.Neg.Counts,slR A_1_0 c_1_0 T_api_Pair.rep r.2.1.Attrs,slR A_1_1 c_1_1 w64R r.2.1.Hist.Pos.Counts,slR A_1_2 c_1_2 w64R r.2.1.Hist.Neg.Counts]:=by
 have D0:=Hp.nil Z0 No w;have hc0:=Calm.nil;obtain ⟨Ar1,cr1,Ar3,cr3,rfl,fs1,fs3⟩:=T_api_State.relE h0;obtain ⟨D11,hc0⟩:=D0.kn hc0 fs1;obtain ⟨D12,hc0⟩:=D11.kn hc0 fs3;obtain ⟨Ar5,cr5,Ar7,cr7,Ar9,cr9,rfl,fs5,fs7,fs9⟩:=T_api_Point.relE h1;obtain ⟨D13,hc0⟩:=D12.kn hc0 fs5;obtain ⟨D14,hc0⟩:=D13.kn hc0 fs7;obtain ⟨D15,hc0⟩:=D14.kn hc0 fs9;refine eg func80 2 ?_
 refine Rn.bx D15 λb16 w16 D18=>?_
 replace D18:=D18.nb
 refine Rn.bx D18 λb19 w19 D21=>?_
 replace D21:=D21.nb
 refine Rn.al D21 Tryz.zeroValue70 λb22 w22 D24=>?_
 replace D24:=D24.nb
 refine Rn.al D24 Tryz.zeroValue38 λb25 w25 D27=>?_
 replace D27:=D27.nb;refine gg 4 rfl (Rn.q rfl (V.ldBA [_,_,_,_,_,_,_,_,_,_,_,_,_,_,_,_,_] V38 O38 rfl (D27.get 6 rfl) rfl rfl) ?_);obtain ⟨p28,e28,Y⟩:=bindE Y
 refine Rn.c0 (cK func20) (m_point_Check_sim (Z0:=All) e28 (T_api_Point.relA (D27.get 2 rfl) (D27.get 3 rfl) (D27.get 4 rfl)) :) D27 λw28 _ D29=>?_
 replace D29:=D29.nq;refine gg 3 rfl ?_;refine Rn.jF D29 [0,1,2,3,4,5,7,8,99,99,99,99] Y (G:=Int×T_api_Point×Option Addr×Nat×Option Addr×Nat×Option Addr×Nat) (λg=>[(2,iv x2),(3,pt b16 0),(4,pt b19 0),(6,pt b22 0),(7,pt b25 0),(9,iv (g.1))]) (λg=>[_,_,_,_,_,_,_,_,slR (g.2.2.1) (g.2.2.2.1) T_api_Pair.rep (g.2.1).Attrs,slR (g.2.2.2.2.1) (g.2.2.2.2.2.1) w64R (g.2.1).Hist.Pos.Counts,slR (g.2.2.2.2.2.2.1) (g.2.2.2.2.2.2.2) w64R (g.2.1).Hist.Neg.Counts,boxR b19 38 [Str ((g.2.1).Name),.slice (g.2.2.1) ((g.2.1).Attrs).length (g.2.2.2.1),iv (g.2.1).Kind,iv (g.2.1).Temp,.bool ((g.2.1).Mono),iv (g.2.1).Start,iv (g.2.1).Time,iv (g.2.1).Int_,u64v (g.2.1).Re,u64v (g.2.1).Im,iv (g.2.1).Hist.Scale,u64v (g.2.1).Hist.Zero,iv (g.2.1).Hist.Pos.Offset,.slice (g.2.2.2.2.1) ((g.2.1).Hist.Pos.Counts).length (g.2.2.2.2.2.1),iv (g.2.1).Hist.Neg.Offset,.slice (g.2.2.2.2.2.2.1) ((g.2.1).Hist.Neg.Counts).length (g.2.2.2.2.2.2.2),iv (g.2.1).Flags]]) (λj g=>j g.1 g.2.1) ?_ ?_
 ·rintro ⟨y30,y31,A32,c32,A34,c34,A36,c36⟩ w38 D38 Y
  try dsimp only at Y
  refine gg 6 rfl ?_;refine Rn.jF D38 [0,1,5,6,7,8,9,10,11] Y (G:=Int) (λg=>[(2,iv x2),(3,pt b16 0),(4,pt b19 0),(6,pt b22 0),(7,pt b25 0),(9,iv g)]) (λg=>[_,_,_,_,_,_,_,_,_]) (λj g=>j g) ?_ ?_
  ·rintro y39 w40 D40 Y
   try dsimp only at Y
   refine gg 6 rfl ?_;refine bD Y 2 8 (λh41 Y=>?_) (λh41 Y=>?_)
   ·refine Rn.q rfl (V.bldS (cs:=[_,_,_,_,_,_,_,_,_,_,_,_]) st70 rfl rfl) (Rn.q rfl (V.bldS (cs:=[_,_,_,_,_,_,_,_,_,_,_,_,_,_,_,_,_]) st38 rfl rfl) (gg 1 rfl (Rn.sn D40 3 O70 λw42 D43=>?_)));refine Rn.stF rfl rfl O38 rfl rfl rfl rfl (by first|exact ones rfl|(simp [Value.oneCell'];done)) (D43.get 4 rfl) rfl ?_;intro w44 m44 x44;have D45:=D43.sn 4 x44 m44;refine gg 2 rfl ?_;have D46:=D45.addNil 31 w64R;have D49:=D46.freeze 9 rfl;have D50:=D49.addNil 31 w64R;have D53:=D50.freeze 10 rfl;have D54:=D53.addNil 116 T_api_Pair.rep;have D57:=D54.freeze 11 rfl;have D58:=D57.addNil 31 w64R;have D61:=D58.freeze 12 rfl;have D62:=D61.addNil 31 w64R;have D65:=D62.freeze 13 rfl;refine Rn.retG3 func80 rfl (rvC rfl V70 O70 (D45.get 3 rfl) rfl) (rvC rfl V38 O38 (D45.get 4 rfl) rfl) (rvT rfl) ?_;obtain rfl:=someE Y;exact ⟨none,0,none,0,none,0,none,0,none,0,rfl,D65.pk [9,10,11,12,13]⟩
   refine Rn.q rfl (V.ldB V3 rfl (D40.get 2 rfl) rfl) (gg 1 rfl (Rn.q rfl (V.ldB V3 rfl (D40.get 8 rfl) rfl) (Rn.q rfl (V.bldS (cs:=[_,_,_,_,_,_,_,_,_,_,_,_]) st70 rfl rfl) (Rn.als rfl rfl rfl Tryz.zeroValue70 rfl O70 rfl rfl rfl rfl (by first|exact ones rfl|(simp [Value.oneCell'];done)) ?_))));intro b66 w66 hb66 m66 e66;have D68:=(D40.addBox hb66 e66 m66).nb;refine gg 2 rfl ?_;have D75:=(D68.cutF [2,3,4,8] [9] [0,1,5,6,7] rfl (by decide) ⟨λ_ h=>h,λ_ h=>h,λ_ h=>h,λ_ h=>h,λ_ h=>h,trivial⟩).nf ([_,_,_,_,_,_,_,_,_]++[_,_,_,_,_,_]) rfl;refine Rn.drawF rfl D75 ?_;intro w76 hmo76 D76;refine dq [0] ?_;refine RH.tk 1 rfl (λw' hDr=>V.ldB V3 rfl ((hmo76.awayK hDr).get 0 rfl) rfl) ?_;refine dq [2] ?_;refine RH.tk 3 rfl (λw' hDr=>V.ldB V31 rfl ((hmo76.awayK hDr).get 0 rfl) rfl) ?_;refine dq [4] ?_;refine RH.tk 5 rfl (λw' hDr=>V.ldB V31 rfl ((hmo76.awayK hDr).get 0 rfl) rfl) ?_;refine dq [6] ?_;refine RH.tk 7 rfl (λw' hDr=>V.ldBA [_,_,_,_,_,_] V36 O36 rfl ((hmo76.awayK hDr).get 0 rfl) rfl rfl) ?_;refine dq [8] ?_
   refine RH.sn 9 D76 0 O3 λw77 D78=>?_
   refine ⟨D78.fr,?_⟩;refine dq [10] ?_
   refine RH.sn 11 D78 0 O31 λw79 D80=>?_
   refine ⟨D80.fr,?_⟩;refine dq [12] ?_
   refine RH.sn 13 D80 0 O31 λw81 D82=>?_
   refine ⟨D82.fr,?_⟩;refine dq [14] ?_
   refine RH.sn 15 D82 0 O36 λw83 D84=>?_
   refine ⟨D84.fr,?_⟩;refine RH.dn ?_;have D85:=hmo76.callAZ D84;have D86:=(D85.pk [0,1,2,3,9,10,11,12,13,14]).nq;refine gg 1 rfl ?_;refine Rn.jF D86 [0,1,2,3,5,6,7,8,9,99,99,99] Y (G:=Int×T_api_State×Option Addr×Nat×Option Addr×Nat) (λg=>[(4,pt b19 0),(6,pt b22 0),(7,pt b25 0),(10,iv (g.1)),(11,pt b66 0)]) (λg=>[_,_,_,_,_,_,_,_,_,slR (g.2.2.1) (g.2.2.2.1) w64R (g.2.1).Hist.Pos.Counts,slR (g.2.2.2.2.1) (g.2.2.2.2.2) w64R (g.2.1).Hist.Neg.Counts,boxR b66 70 [.bool ((g.2.1).Some),iv (g.2.1).Start,iv (g.2.1).Time,iv (g.2.1).Int_,u64v (g.2.1).Re,u64v (g.2.1).Im,iv (g.2.1).Hist.Scale,u64v (g.2.1).Hist.Zero,iv (g.2.1).Hist.Pos.Offset,.slice (g.2.2.1) ((g.2.1).Hist.Pos.Counts).length (g.2.2.2.1),iv (g.2.1).Hist.Neg.Offset,.slice (g.2.2.2.2.1) ((g.2.1).Hist.Neg.Counts).length (g.2.2.2.2.2)]]) (λj g=>j g.1 g.2.1) ?_ ?_
   ·rintro ⟨y87,y88,A89,c89,A91,c91⟩ w93 D93 Y
    try dsimp only at Y
    refine gg 6 rfl ?_;refine Rn.jF D93 [0,1,2,3,4,5,6,7,8,9,10,99,99,99] Y (G:=T_api_State×Option Addr×Nat×Option Addr×Nat) (λg=>[(4,pt b19 0),(6,pt b22 0),(7,pt b25 0),(10,iv y87),(11,pt b66 0)]) (λg=>[_,_,_,_,_,_,_,_,_,_,_,slR (g.2.1) (g.2.2.1) w64R (g.1).Hist.Pos.Counts,slR (g.2.2.2.1) (g.2.2.2.2) w64R (g.1).Hist.Neg.Counts,boxR b66 70 [.bool ((g.1).Some),iv (g.1).Start,iv (g.1).Time,iv (g.1).Int_,u64v (g.1).Re,u64v (g.1).Im,iv (g.1).Hist.Scale,u64v (g.1).Hist.Zero,iv (g.1).Hist.Pos.Offset,.slice (g.2.1) ((g.1).Hist.Pos.Counts).length (g.2.2.1),iv (g.1).Hist.Neg.Offset,.slice (g.2.2.2.1) ((g.1).Hist.Neg.Counts).length (g.2.2.2.2)]]) (λj g=>j g.1) ?_ ?_
    ·rintro ⟨y94,A95,c95,A97,c97⟩ w99 D99 Y
     try dsimp only at Y
     refine gg 3 rfl (Rn.q rfl (V.ldBA [_,_,_,_,_,_] V36 O36 rfl (D99.get 13 rfl) rfl rfl) ?_);obtain ⟨p100,e100,Y⟩:=bindE Y;refine Rn.cq (cK func130) (m_hist_Clone_sim (Z0:=All) e100 (T_api_Hist.relA (D99.get 11 rfl) (D99.get 12 rfl)) :) ?_;rintro _ w100 ⟨A100_0_0,c100_0_0,A100_0_1,c100_0_1,rfl,Q100⟩;refine ⟨_,rfl,?_⟩;have D103:=D99.callF (flC (ownR_flat w64_flat _ _ _ _) (flC (ownR_flat w64_flat _ _ _ _) fl0)) Q100;replace D103:=D103.nq;refine gg 1 rfl (Rn.sn D103 13 O36 λw104 D105=>?_);refine gg 2 rfl ?_;have D108:=D105.freeze 14 rfl;have D110:=D108.freeze 15 rfl;refine Rn.drawK 5 rfl D110 (by kernel_rfl) ?_;intro w106 D106;refine RH.tk 0 rfl (λw' hDr=>V.ldBA [_,_,_,_,_,_,_,_,_,_,_,_] V70 O70 rfl ((D106.ext hDr).get 13 rfl) rfl rfl) ?_;refine RH.tk 1 rfl (λw' hDr=>V.ldBA [_,_,_,_,_,_,_,_,_,_,_,_] V70 O70 rfl ((D106.ext hDr).get 13 rfl) rfl rfl) ?_;refine RH.tk 2 rfl (λw' hDr=>V.ldBA [_,_,_,_,_,_,_,_,_,_,_,_,_,_,_,_,_] V38 O38 rfl ((D106.ext hDr).get 3 rfl) rfl rfl) ?_;refine dq [3] ?_;obtain ⟨p111,e111,Y⟩:=bindE Y;refine RH.cq (cK func145) 4 (m_tocum_answer_sim (Z0:=All) e111 (T_api_State.relA (D106.get 14 rfl) (D106.get 15 rfl)) (T_api_Point.relA (D106.get 6 rfl) (D106.get 7 rfl) (D106.get 8 rfl)) :) ?_;rintro _ w111 ⟨A111_0_0,c111_0_0,A111_0_1,c111_0_1,A111_0_2,c111_0_2,rfl,Q111⟩;refine ⟨_,rfl,((Ext.refl _).trans Q111.fr),?_⟩;have D115:=D106.callF (flC (ownR_flat T_api_Pair.flat _ _ _ _) (flC (ownR_flat w64_flat _ _ _ _) (flC (ownR_flat w64_flat _ _ _ _) fl0))) Q111;refine RG.tailK (by kernel_rfl) ?_
     refine RH.sn 5 D115 1 O70 λw116 D117=>?_
     refine ⟨trivial,?_⟩;refine RH.stF 6 (by kernel_rfl) rfl rfl O38 rfl rfl rfl rfl (by first|exact ones rfl|(simp [Value.oneCell'];done)) (D117.get 2 rfl) rfl ?_;intro w118 m118 x118;have D119:=D117.sn 2 x118 m118;refine ⟨trivial,?_⟩;refine dq [7] ?_;refine RH.dn ?_;have D121:=D119.freeze 16 rfl;have D123:=D121.freeze 17 rfl;have D125:=D123.freeze 18 rfl;refine Rn.retG3 func80 rfl (rvC rfl V70 O70 (D119.get 1 rfl) rfl) (rvC rfl V38 O38 (D119.get 2 rfl) rfl) (rvT rfl) ?_;obtain rfl:=someE Y;exact ⟨A100_0_0,c100_0_0,A100_0_1,c100_0_1,A111_0_0,c111_0_0,A111_0_1,c111_0_1,A111_0_2,c111_0_2,rfl,D125.pk [14,15,16,17,18]⟩
    intro j4 Y K4;refine bD Y 2 1 (λh126 Y=>?_) (λh126 Y=>?_)
    ·refine Rn.q rfl (V.ldB V3 rfl (D93.get 3 rfl) rfl) (gg 1 rfl (Rn.q rfl (V.ldB V3 rfl (D93.get 3 rfl) rfl) (gg 1 rfl (Rn.q rfl (V.ldB V3 rfl (D93.get 3 rfl) rfl) (gg 1 rfl (Rn.q rfl (V.ldB V31 rfl (D93.get 3 rfl) rfl) (gg 1 rfl (Rn.q rfl (V.ldB V31 rfl (D93.get 3 rfl) rfl) (gg 1 rfl (Rn.q rfl (V.ldBA [_,_,_,_,_,_] V36 O36 rfl (D93.get 3 rfl) rfl rfl) (Rn.q rfl (V.bldS (cs:=[_,_,_,_,_,_,_,_,_,_,_,_]) st70 rfl rfl) (Rn.sn D93 11 O70 λw127 D128=>?_))))))))))));refine gg 1 rfl ?_;have D129:=D128.dup 7 rfl (λ_ h=>h);have D131:=D129.dup 8 rfl (λ_ h=>h);exact K4 ((⟨true,y31.Start,y31.Time,y31.Int_,y31.Re,y31.Im,y31.Hist⟩:T_api_State),A34,c34,A36,c36) _ _ sA (D131.pk [0,1,2,3,4,5,6,7,8,9,10,12,13,11]) Y
    have D133:=D93.dup 9 rfl (λ_ h=>h);have D135:=D133.dup 10 rfl (λ_ h=>h);exact K4 (y88,A89,c89,A91,c91) _ _ sA (D135.pk [0,1,2,3,4,5,6,7,8,9,10,12,13,11]) Y
   intro j3 Y K3;refine gg 4 rfl (Rn.q rfl (V.ldB V4 rfl (D86.get 0 rfl) rfl) (Rn.q rfl (V.notB rfl) (gg 2 rfl ?_)));refine bS Y 4 3 (λh137 Y=>?_) (λh137 Y=>?_)
   ·have D138:=D86.dup 5 rfl (λ_ h=>h);have D140:=D138.dup 6 rfl (λ_ h=>h);exact K3 (1,(⟨true,x0.Start,y31.Time,x0.Int_,x0.Re,x0.Im,x0.Hist⟩:T_api_State),Ar1,cr1,Ar3,cr3) _ _ sA (D140.pk [0,1,2,3,5,6,7,8,9,10,11,4]) Y
   refine Rn.q rfl (V.ldB V3 rfl (D86.get 3 rfl) rfl) (gg 1 rfl (Rn.q rfl (V.ldB V3 rfl (D86.get 0 rfl) rfl) (gg 3 rfl ?_)));refine bD Y 4 2 (λh142 Y=>?_) (λh142 Y=>?_)
   ·have D143:=D86.dup 5 rfl (λ_ h=>h);have D145:=D143.dup 6 rfl (λ_ h=>h);exact K3 (8,(⟨true,x0.Start,y31.Time,x0.Int_,x0.Re,x0.Im,x0.Hist⟩:T_api_State),Ar1,cr1,Ar3,cr3) _ _ sA (D145.pk [0,1,2,3,5,6,7,8,9,10,11,4]) Y
   refine Rn.q rfl (V.ldBA [_,_,_,_,_,_,_,_,_,_,_,_,_,_,_,_,_] V38 O38 rfl (D86.get 3 rfl) rfl rfl) (gg 1 rfl ?_);obtain ⟨j5,hj5,Y⟩:=jnE Y
   have K5:Calls prog 144 #[pt b66 0,.agg [Str (y31.Name),.slice A32 (y31.Attrs).length c32,iv y31.Kind,iv y31.Temp,.bool (y31.Mono),iv y31.Start,iv y31.Time,iv y31.Int_,u64v y31.Re,u64v y31.Im,iv y31.Hist.Scale,u64v y31.Hist.Zero,iv y31.Hist.Pos.Offset,.slice A34 (y31.Hist.Pos.Counts).length c34,iv y31.Hist.Neg.Offset,.slice A36 (y31.Hist.Neg.Counts).length c36,iv y31.Flags].toArray,iv x2] w83 (λx w'=>∃ g:Bool×T_api_State×Option Addr×Nat×Option Addr×Nat,x=.returned (.bool ((g.1)))∧(Hp Z0 No w w' [boxR b16 70 [.bool (x0.Some),iv x0.Start,iv x0.Time,iv x0.Int_,u64v x0.Re,u64v x0.Im,iv x0.Hist.Scale,u64v x0.Hist.Zero,iv x0.Hist.Pos.Offset,.slice Ar1 (x0.Hist.Pos.Counts).length cr1,iv x0.Hist.Neg.Offset,.slice Ar3 (x0.Hist.Neg.Counts).length cr3],boxR b22 70 [.bool false,iv 0,iv 0,iv 0,u64v (0:UInt64),u64v (0:UInt64),iv 0,u64v (0:UInt64),iv 0,.slice none 0 0,iv 0,.slice none 0 0],boxR b25 38 [Str (([]:List UInt8)),.slice none 0 0,iv 0,iv 0,.bool false,iv 0,iv 0,iv 0,u64v (0:UInt64),u64v (0:UInt64),iv 0,u64v (0:UInt64),iv 0,.slice none 0 0,iv 0,.slice none 0 0,iv 0],boxR b19 38 [Str (y31.Name),.slice A32 (y31.Attrs).length c32,iv y31.Kind,iv y31.Temp,.bool (y31.Mono),iv y31.Start,iv y31.Time,iv y31.Int_,u64v y31.Re,u64v y31.Im,iv y31.Hist.Scale,u64v y31.Hist.Zero,iv y31.Hist.Pos.Offset,.slice A34 (y31.Hist.Pos.Counts).length c34,iv y31.Hist.Neg.Offset,.slice A36 (y31.Hist.Neg.Counts).length c36,iv y31.Flags],slR Ar1 cr1 w64R x0.Hist.Pos.Counts,slR Ar3 cr3 w64R x0.Hist.Neg.Counts,slR A32 c32 T_api_Pair.rep y31.Attrs,slR A34 c34 w64R y31.Hist.Pos.Counts,slR A36 c36 w64R y31.Hist.Neg.Counts,slR (g.2.2.1) (g.2.2.2.1) w64R (g.2.1).Hist.Pos.Counts,slR (g.2.2.2.2.1) (g.2.2.2.2.2) w64R (g.2.1).Hist.Neg.Counts,boxR b66 70 [.bool ((g.2.1).Some),iv (g.2.1).Start,iv (g.2.1).Time,iv (g.2.1).Int_,u64v (g.2.1).Re,u64v (g.2.1).Im,iv (g.2.1).Hist.Scale,u64v (g.2.1).Hist.Zero,iv (g.2.1).Hist.Pos.Offset,.slice (g.2.2.1) ((g.2.1).Hist.Pos.Counts).length (g.2.2.2.1),iv (g.2.1).Hist.Neg.Offset,.slice (g.2.2.2.2.1) ((g.2.1).Hist.Neg.Counts).length (g.2.2.2.2.2)]])∧j5 g.1 g.2.1=some r):=by
    refine eg func144 2 ?_
    refine Rn.bx D86 λb154 w154 D156=>?_
    replace D156:=D156.nb;refine gg 6 rfl (Rn.q rfl (V.ldB V3 rfl (D156.get 10 rfl) rfl) (gg 1 rfl ?_));refine Rn.jF D156 [0,1,2,3,5,6,7,8,9,10,99,99,99] Y (G:=T_api_State×Option Addr×Nat×Option Addr×Nat) (λg=>[]) (λg=>[_,_,_,_,_,_,_,_,_,_,slR (g.2.1) (g.2.2.1) w64R (g.1).Hist.Pos.Counts,slR (g.2.2.2.1) (g.2.2.2.2) w64R (g.1).Hist.Neg.Counts,boxR b66 70 [.bool ((g.1).Some),iv (g.1).Start,iv (g.1).Time,iv (g.1).Int_,u64v (g.1).Re,u64v (g.1).Im,iv (g.1).Hist.Scale,u64v (g.1).Hist.Zero,iv (g.1).Hist.Pos.Offset,.slice (g.2.1) ((g.1).Hist.Pos.Counts).length (g.2.2.1),iv (g.1).Hist.Neg.Offset,.slice (g.2.2.2.1) ((g.1).Hist.Neg.Counts).length (g.2.2.2.2)]]) (λj g=>j g.1) ?_ ?_
    ·rintro ⟨y157,A158,c158,A160,c160⟩ w162 D162 Y
     try dsimp only at Y
     refine gg 4 rfl ?_;refine Rn.retG1 func144 rfl (rvT rfl) ?_;exact ⟨(true,y157,A158,c158,A160,c160),rfl,D162.pk [0,1,2,3,4,5,6,7,8,10,11,12],Y⟩
    intro j6 Y K6;refine gg 6 rfl ?_;refine bD Y 1 5 (λh163 Y=>?_) (λh163 Y=>?_)
    ·refine Rn.drawP rfl D156 ?_;intro w164 D164;refine dq [0,1,2] ?_;refine RH.tp 3 rfl (V.ldB V3 rfl (D164.get 4 rfl) rfl) ?_;refine dq [4] ?_;refine RH.tp 5 rfl (V.ldB V3 rfl (D164.get 10 rfl) rfl) ?_;refine dq [6,7] ?_;refine RH.dn ?_;refine gg 2 rfl ?_;refine Rn.jF D164 [0,1,2,3,4,5,6,7,8,9,10] Y (G:=Bool) (λg=>[(0,pt b66 0),(7,iv (W64 (x0.Int_+y31.Int_))),(82,.bool (g))]) (λg=>[_,_,_,_,_,_,_,_,_,_,_]) (λj g=>j g) ?_ ?_
     ·rintro y165 w166 D166 Y
      try dsimp only at Y
      refine bS Y 4 6 (λh167 Y=>?_) (λh167 Y=>?_)
      ·have D168:=D166.dup 5 rfl (λ_ h=>h);have D170:=D168.dup 6 rfl (λ_ h=>h);refine Rn.retG1 func144 rfl (rvT rfl) ?_;exact ⟨(false,(⟨true,x0.Start,y31.Time,x0.Int_,x0.Re,x0.Im,x0.Hist⟩:T_api_State),Ar1,cr1,Ar3,cr3),rfl,D170.pk [0,1,2,3,5,6,7,8,9,11,12,4],Y⟩
      refine Rn.sn D166 4 O3 λw172 D173=>?_
      refine gg 2 rfl ?_;have D174:=D173.dup 5 rfl (λ_ h=>h);have D176:=D174.dup 6 rfl (λ_ h=>h);exact K6 ((⟨true,x0.Start,y31.Time,W64 (x0.Int_+y31.Int_),x0.Re,x0.Im,x0.Hist⟩:T_api_State),Ar1,cr1,Ar3,cr3) _ _ (sb trivial) (D176.pk [0,1,2,3,5,6,7,8,9,10,11,12,4]) Y
     intro j7 Y K7;refine Rn.drawP rfl D164 ?_;intro w178 D178;refine dq [0,1,2,3] ?_;refine RH.tp 4 rfl (V.ldB V3 rfl (D178.get 4 rfl) rfl) ?_;refine dq [5,6] ?_;refine RH.tp 7 rfl (V.ldB V3 rfl (D178.get 10 rfl) rfl) ?_;refine dq [8] ?_;refine RH.tp 9 rfl (V.neqB U4 rfl rfl) ?_;refine dq [10] ?_;refine askD Y (RH.partD (t:=78) rfl) (λh179 Y=>?_) (λh179 Y=>?_)
     ·refine dq [11] ?_;refine RH.tp 12 rfl (V.ldB V3 rfl (D178.get 10 rfl) rfl) ?_;refine dq [13,14] ?_;refine RH.dn ?_;exact K7 (decide (y31.Int_≠0)) _ _ sA (D178.pk [0,1,2,3,4,5,6,7,8,9,10]) Y
     refine dq [11,12,13,14] ?_;refine RH.dn ?_;exact K7 false _ _ sA (D178.pk [0,1,2,3,4,5,6,7,8,9,10]) Y
    refine bD Y 1 1 (λh180 Y=>?_) (λh180 Y=>?_)
    ·refine Rn.jF D156 [0,1,2,3,4,5,6,7,8,9,10,99] Y (G:=T_api_Hist×Bool×(Nat→Prop)×Nat) (λg=>[(0,pt b66 0),(8,pt (g.2.2.2) 0),(9,.bool ((g.2.1)))]) (λg=>[_,_,_,_,_,_,_,_,_,_,_,T_api_Hist.obj (g.2.2.1) (g.2.2.2) (g.1)]) (λj g=>j g.1 g.2.1) ?_ ?_
     ·rintro ⟨y181,y183,F181,b181⟩ w184 D184 Y
      try dsimp only at Y
      refine gg 4 rfl (Rn.q rfl (V.notB rfl) (gg 1 rfl ?_));refine bS Y 4 3 (λh185 Y=>?_) (λh185 Y=>?_)
      ·have D186:=D184.dup 5 rfl (λ_ h=>h);have D188:=D186.dup 6 rfl (λ_ h=>h);refine Rn.retG1 func144 rfl (rvT rfl) ?_;exact ⟨(false,(⟨true,x0.Start,y31.Time,x0.Int_,x0.Re,x0.Im,x0.Hist⟩:T_api_State),Ar1,cr1,Ar3,cr3),rfl,D188.pk [0,1,2,3,5,6,7,8,9,12,13,4],Y⟩
      obtain ⟨_,⟨A190_0,c190_0,A190_1,c190_1,rfl⟩,D190⟩:=D184.unf 11 rfl;replace D190:=D190.nq;refine Rn.q rfl (V.ldBA [_,_,_,_,_,_] V36 O36 rfl (D190.get 11 rfl) rfl rfl) (gg 2 rfl (Rn.sn D190 4 O36 λw193 D194=>?_));refine gg 2 rfl ?_;exact K6 ((⟨true,x0.Start,y31.Time,x0.Int_,x0.Re,x0.Im,y181⟩:T_api_State),A190_0,c190_0,A190_1,c190_1) _ _ (sb trivial) (D194.pk [0,1,2,3,5,6,7,8,9,10,12,13,4]) Y
     intro j8 Y K8;refine Rn.drawH rfl D156 ?_;intro w195 D195;refine dq [0,1,2] ?_;refine RH.tk 3 rfl (λw' hDr=>V.ldBA [_,_,_,_,_,_] V36 O36 rfl ((D195.ext hDr).get 4 rfl) rfl rfl) ?_;refine dq [4] ?_;refine RH.tk 5 rfl (λw' hDr=>V.ldBA [_,_,_,_,_,_] V36 O36 rfl ((D195.ext hDr).get 10 rfl) rfl rfl) ?_;refine dq [6] ?_;obtain ⟨p196,e196,Y⟩:=bindE Y;refine RH.both 7 11 (by kernel_rfl) ?_ ?_
     ·have e205:=e196;refine RB.cl (cK func190) 7 rfl rfl rfl rfl (m_tocum_Together_sim (Z0:=D195.Z) e205 (T_api_Hist.relI (D195.get 5 rfl) (D195.get 6 rfl)) (T_api_Hist.relI (D195.get 8 rfl) (D195.get 9 rfl)) :) ?_;rintro _ w205 ⟨A205_0_0,c205_0_0,A205_0_1,c205_0_1,rfl,Q205⟩;refine ⟨_,rfl,((Ext.refl _).trans Q205.fr),?_⟩;have D208:=D195.callZ Q205;refine dq [8,9,10] ?_;refine RH.alloc 11 (by kernel_rfl) rfl rfl rfl Tryz.zeroValue36 rfl ?_;intro b209 w209 hb209 m209 e209
      have hfr209:w195.heap.size≤b209:=by have hh:=(((Ext.refl _).trans Q205.fr):Ext w195 w205).size;omega
      have D211:=(D208.addBox hb209 e209 m209).nb;refine ⟨(((Ext.refl _).trans Q205.fr).trans e209),?_⟩;refine RH.st 12 (by kernel_rfl) rfl rfl O36 rfl rfl rfl rfl (by first|exact ones rfl|(simp [Value.oneCell'];done)) (D211.get 13 rfl) (by first|exact nbl rfl|(simp;done)) ?_;intro w212 m212 x212;have D213:=D211.sn 13 x212 m212;refine ⟨(ext_st (((Ext.refl _).trans Q205.fr).trans e209) x212 hfr209),?_⟩;refine dq [13] ?_;refine RH.dn ?_;have D214:=D213.dup 11 rfl (λ_ h=>h);have D216:=D214.dup 12 rfl (λ_ h=>h);have D219:=D216.cu [0,1,2,3,4,5,6,7,8,9,10,11,12] [13,14,15];obtain ⟨F218,D218⟩:=D219.fold (T_api_Hist.sh b209 p196.1) ⟨A205_0_0,c205_0_0,A205_0_1,c205_0_1,rfl⟩;exact K8 (p196.1,p196.2,F218,b209) _ _ sA (D218.pk [0,1,2,3,4,5,6,7,8,9,10,13]) Y
     refine RB.alloc 11 rfl rfl rfl Tryz.zeroValue36 rfl ?_;intro b220 w220 hb220 m220 e220
     have hfr220:w195.heap.size≤b220:=by have hh:=((Ext.refl _):Ext w195 w195).size;omega
     have D222:=(D195.addBox hb220 e220 m220).nb;refine ⟨((Ext.refl _).trans e220),?_⟩;have e223:=e196;refine RH.cq (cK func190) 7 (m_tocum_Together_sim (Z0:=D222.Z) e223 (T_api_Hist.relI (D222.get 5 rfl) (D222.get 6 rfl)) (T_api_Hist.relI (D222.get 8 rfl) (D222.get 9 rfl)) :) ?_;rintro _ w223 ⟨A223_0_0,c223_0_0,A223_0_1,c223_0_1,rfl,Q223⟩;refine ⟨_,rfl,(((Ext.refl _).trans e220).trans Q223.fr),?_⟩;have D226:=D222.callZ Q223;refine dq [8,9,10] ?_;refine RH.st 12 (by kernel_rfl) rfl rfl O36 rfl rfl rfl rfl (by first|exact ones rfl|(simp [Value.oneCell'];done)) (D226.get 11 rfl) (by first|exact nbl rfl|(simp;done)) ?_;intro w227 m227 x227;have D228:=D226.sn 11 x227 m227;refine ⟨(ext_st (((Ext.refl _).trans e220).trans Q223.fr) x227 hfr220),?_⟩;refine dq [13] ?_;refine RH.dn ?_;have D229:=D228.dup 12 rfl (λ_ h=>h);have D231:=D229.dup 13 rfl (λ_ h=>h);have D234:=D231.cu [0,1,2,3,4,5,6,7,8,9,10,12,13] [11,14,15];obtain ⟨F233,D233⟩:=D234.fold (T_api_Hist.sh b220 p196.1) ⟨A223_0_0,c223_0_0,A223_0_1,c223_0_1,rfl⟩;exact K8 (p196.1,p196.2,F233,b220) _ _ sA (D233.pk [0,1,2,3,4,5,6,7,8,9,10,13]) Y
    refine Rn.drawH rfl D156 ?_;intro w235 D235;refine dq [0,1,2] ?_;refine RH.tk 3 rfl (λw' hDr=>V.ldB V31 rfl ((D235.ext hDr).get 4 rfl) rfl) ?_;refine dq [4,5,6] ?_;refine RH.tk 7 rfl (λw' hDr=>V.ldB V31 rfl ((D235.ext hDr).get 4 rfl) rfl) ?_;refine dq [8] ?_;refine RH.tk 9 rfl (λw' hDr=>V.ldB V31 rfl ((D235.ext hDr).get 10 rfl) rfl) ?_;refine dq [10] ?_;refine RH.ho 11 rfl (V.ldB V31 rfl (D235.get 10 rfl) rfl) ?_;obtain ⟨p236,e236,Y⟩:=bindE Y;refine RH.cq (cK func191) 12 (m_num_AddPhasor_sim (Z0:=All) e236  :) ?_;rintro _ w236 ⟨rfl,Q236⟩;refine ⟨_,rfl,((Ext.refl _).trans Q236.fr),?_⟩;have D237:=D235.call0 Q236;refine dq [13,14,15,16,17] ?_;refine RH.dn ?_;refine gg 2 rfl ?_;refine Rn.jF D237 [0,1,2,3,4,5,6,7,8,9,10] Y (G:=Bool) (λg=>[(0,pt b66 0),(10,u64v p236.1),(11,u64v p236.2),(50,.bool (g))]) (λg=>[_,_,_,_,_,_,_,_,_,_,_]) (λj g=>j g) ?_ ?_
    ·rintro y238 w239 D239 Y
     try dsimp only at Y
     refine bS Y 4 8 (λh240 Y=>?_) (λh240 Y=>?_)
     ·have D241:=D239.dup 5 rfl (λ_ h=>h);have D243:=D241.dup 6 rfl (λ_ h=>h);refine Rn.retG1 func144 rfl (rvT rfl) ?_;exact ⟨(false,(⟨true,x0.Start,y31.Time,x0.Int_,x0.Re,x0.Im,x0.Hist⟩:T_api_State),Ar1,cr1,Ar3,cr3),rfl,D243.pk [0,1,2,3,5,6,7,8,9,11,12,4],Y⟩
     refine Rn.sn D239 4 O31 λw245 D246=>?_
     refine gg 2 rfl (Rn.sn D246 4 O31 λw247 D248=>?_);refine gg 2 rfl ?_;have D249:=D248.dup 5 rfl (λ_ h=>h);have D251:=D249.dup 6 rfl (λ_ h=>h);exact K6 ((⟨true,x0.Start,y31.Time,x0.Int_,p236.1,p236.2,x0.Hist⟩:T_api_State),Ar1,cr1,Ar3,cr3) _ _ (sb trivial) (D251.pk [0,1,2,3,5,6,7,8,9,10,11,12,4]) Y
    intro j9 Y K9;refine Rn.drawH rfl D237 ?_;intro w253 D253;refine dq [0,1] ?_;refine RH.bslS 2 (by kernel_rfl) rfl rfl rfl U32 el31 rfl rfl rfl rfl (by first|exact szs rfl|(simp [Value.cells];done)) (by decide) ?_;intro b254 w254 hb254 m254 e254;have D255:=D253.addLit (rep:=w64R) (xs:=([p236.1,p236.2]:List UInt64)) (vss:=[[u64v p236.1],[u64v p236.2]]) hb254 e254 m254 rfl rfl rfl ((rels_cons (λ_ _=>⟨rfl,trivial⟩) (rels_cons (λ_ _=>⟨rfl,trivial⟩) rels0)));refine ⟨((Ext.refl _).trans e254),?_⟩;obtain ⟨p257,e257,Y⟩:=bindE Y;refine RH.cq (cK func192) 3 (m_tocum_finite_sim (Z0:=All) e257 (own_slR (D255.get 11 rfl)) :) ?_;rintro _ w257 ⟨rfl,Q257⟩;refine ⟨_,rfl,(((Ext.refl _).trans e254).trans Q257.fr),?_⟩;have D258:=D255.call0 Q257;refine RH.ho 4 rfl (V.notB rfl) ?_;refine dq [5] ?_;refine askS Y (RH.part (t:=35) rfl) (λh259 Y=>?_) (λh259 Y=>?_)
    ·refine dq [6,7,8] ?_;refine RH.tk 9 rfl (λw' hDr=>V.ldB V31 rfl ((D253.ext hDr).get 4 rfl) rfl) ?_;refine dq [10,11,12] ?_;refine RH.tk 13 rfl (λw' hDr=>V.ldB V31 rfl ((D253.ext hDr).get 4 rfl) rfl) ?_;refine dq [14] ?_;refine RH.tk 15 rfl (λw' hDr=>V.ldB V31 rfl ((D253.ext hDr).get 10 rfl) rfl) ?_;refine dq [16] ?_;refine RH.ho 17 rfl (V.ldB V31 rfl (D258.get 10 rfl) rfl) ?_;refine RH.bslS 18 (by kernel_rfl) rfl rfl rfl U32 el31 rfl rfl rfl rfl (by first|exact szs rfl|(simp [Value.cells];done)) (by decide) ?_;intro b260 w260 hb260 m260 e260;have D261:=D258.addLit (rep:=w64R) (xs:=([x0.Re,x0.Im,y31.Re,y31.Im]:List UInt64)) (vss:=[[u64v x0.Re],[u64v x0.Im],[u64v y31.Re],[u64v y31.Im]]) hb260 e260 m260 rfl rfl rfl ((rels_cons (λ_ _=>⟨rfl,trivial⟩) (rels_cons (λ_ _=>⟨rfl,trivial⟩) (rels_cons (λ_ _=>⟨rfl,trivial⟩) (rels_cons (λ_ _=>⟨rfl,trivial⟩) rels0)))));refine ⟨((((Ext.refl _).trans e254).trans Q257.fr).trans e260),?_⟩;obtain ⟨p263,e263,Y⟩:=bindE Y;refine RH.cq (cK func192) 19 (m_tocum_finite_sim (Z0:=All) e263 (own_slR (D261.get 12 rfl)) :) ?_;rintro _ w263 ⟨rfl,Q263⟩;refine ⟨_,rfl,(((((Ext.refl _).trans e254).trans Q257.fr).trans e260).trans Q263.fr),?_⟩;have D264:=D261.call0 Q263;refine dq [20] ?_;refine RH.dn ?_;exact K9 p263 _ _ sA (D264.pk [0,1,2,3,4,5,6,7,8,9,10]) Y
    refine dq [6,7,8,9,10,11,12,13,14,15,16,17,18,19,20] ?_;refine RH.dn ?_;exact K9 false _ _ sA (D258.pk [0,1,2,3,4,5,6,7,8,9,10]) Y
   refine Rn.cl (cK func144) rfl rfl rfl rfl K5 ?_;clear Y K5;subst hj5;rintro _ w153 ⟨⟨y147,y148,A149,c149,A151,c151⟩,rfl,D153,Y⟩
   try dsimp only at Y D153
   refine ⟨_,rfl,?_⟩;refine Rn.q rfl (V.notB rfl) (gg 2 rfl ?_);refine bS Y 4 2 (λh265 Y=>?_) (λh265 Y=>?_)
   ·exact K3 (16,y148,A149,c149,A151,c151) _ _ sA (D153.pk [0,1,2,3,4,5,6,7,8,9,10,11]) Y
   exact K3 (0,y148,A149,c149,A151,c151) _ _ sA (D153.pk [0,1,2,3,4,5,6,7,8,9,10,11]) Y
  intro j2 Y K2;refine bD Y 1 1 (λh266 Y=>?_) (λh266 Y=>?_)
  ·refine Rn.q rfl (V.ldBA [_,_,_,_,_,_,_,_,_,_,_,_] V70 O70 rfl (D38.get 5 rfl) rfl rfl) (Rn.q rfl (V.ldBA [_,_,_,_,_,_,_,_,_,_,_,_,_,_,_,_,_] V38 O38 rfl (D38.get 11 rfl) rfl rfl) ?_);obtain ⟨p267,e267,Y⟩:=bindE Y
   refine Rn.c0 (cK func143) (m_tocum_check_sim (Z0:=All) e267 (T_api_State.relA (D38.get 0 rfl) (D38.get 1 rfl)) (T_api_Point.relA (D38.get 8 rfl) (D38.get 9 rfl) (D38.get 10 rfl)) :) D38 λw267 _ D268=>?_
   replace D268:=D268.nq;refine gg 2 rfl ?_;exact K2 p267 _ _ sA (D268.pk [0,1,5,6,7,8,9,10,11]) Y
  exact K2 y30 _ _ sA (D38.pk [0,1,5,6,7,8,9,10,11]) Y
 intro j1 Y K1;refine gg 7 rfl ?_;refine bD Y 2 3 (λh269 Y=>?_) (λh269 Y=>?_)
 ·have D270:=D29.dup 2 rfl (λ_ h=>h);have D272:=D270.dup 3 rfl (λ_ h=>h);have D274:=D272.dup 4 rfl (λ_ h=>h);exact K1 (p28,x1,Ar5,cr5,Ar7,cr7,Ar9,cr9) _ _ sA (D274.pk [0,1,2,3,4,5,7,8,9,10,11,6]) Y
 refine Rn.q rfl (V.ldB V3 rfl (D29.get 6 rfl) rfl) (gg 3 rfl ?_);refine bD Y 4 3 (λh276 Y=>?_) (λh276 Y=>?_)
 ·have D277:=D29.dup 2 rfl (λ_ h=>h);have D279:=D277.dup 3 rfl (λ_ h=>h);have D281:=D279.dup 4 rfl (λ_ h=>h);exact K1 (14,x1,Ar5,cr5,Ar7,cr7,Ar9,cr9) _ _ sA (D281.pk [0,1,2,3,4,5,7,8,9,10,11,6]) Y
 refine Rn.q rfl (V.ldB V3 rfl (D29.get 6 rfl) rfl) (gg 3 rfl ?_);refine bD Y 4 3 (λh283 Y=>?_) (λh283 Y=>?_)
 ·have D284:=D29.dup 2 rfl (λ_ h=>h);have D286:=D284.dup 3 rfl (λ_ h=>h);have D288:=D286.dup 4 rfl (λ_ h=>h);exact K1 (3,x1,Ar5,cr5,Ar7,cr7,Ar9,cr9) _ _ sA (D288.pk [0,1,2,3,4,5,7,8,9,10,11,6]) Y
 refine Rn.q rfl (V.ldB V3 rfl (D29.get 6 rfl) rfl) (gg 3 rfl ?_);refine bD Y 2 2 (λh290 Y=>?_) (λh290 Y=>?_)
 ·refine Rn.q rfl (V.ldBA [_,_,_,_,_,_] V36 O36 rfl (D29.get 6 rfl) rfl rfl) (gg 1 rfl ?_);obtain ⟨p291,e291,Y⟩:=bindE Y;refine Rn.cq (cK func28) (m_hist_Fit_sim (Z0:=All) e291 (T_api_Hist.relA (D29.get 3 rfl) (D29.get 4 rfl)) :) ?_;rintro _ w291 ⟨A291_0_0,c291_0_0,A291_0_1,c291_0_1,rfl,Q291⟩;refine ⟨_,rfl,?_⟩;have D294:=D29.callF (flC (ownR_flat w64_flat _ _ _ _) (flC (ownR_flat w64_flat _ _ _ _) fl0)) Q291;replace D294:=D294.nq;refine gg 4 rfl (Rn.sn D294 6 O36 λw295 D296=>?_);refine gg 3 rfl ?_;have D298:=D296.freeze 9 rfl;have D300:=D298.freeze 10 rfl;have D301:=D300.dup 2 rfl (λ_ h=>h);exact K1 (p291.2,(⟨x1.Name,x1.Attrs,x1.Kind,x1.Temp,x1.Mono,x1.Start,x1.Time,x1.Int_,x1.Re,x1.Im,p291.1,x1.Flags⟩:T_api_Point),Ar5,cr5,A291_0_0,c291_0_0,A291_0_1,c291_0_1) _ _ sA (D301.pk [0,1,2,3,4,5,7,8,11,9,10,6]) Y
 have D303:=D29.dup 2 rfl (λ_ h=>h);have D305:=D303.dup 3 rfl (λ_ h=>h);have D307:=D305.dup 4 rfl (λ_ h=>h);exact K1 (p28,x1,Ar5,cr5,Ar7,cr7,Ar9,cr9) _ _ sA (D307.pk [0,1,2,3,4,5,7,8,9,10,11,6]) Y
theorem m_convert_pass_sim {x0:T_api_State} {x1:T_api_Point} {x2:Int} {r:(T_api_State×T_api_Point×Int)} (Y:m_convert_pass x0 x1 x2=some r) (h0:T_api_State.rep.rel Z0 w cs0 x0) (h1:T_api_Point.rep.rel Z0 w cs1 x1) :
 Calls prog 81 #[.agg cs0.toArray,.agg cs1.toArray,iv x2] w λx w'=>∃ A_0_0 c_0_0 A_0_1 c_0_1 A_1_0 c_1_0 A_1_1 c_1_1 A_1_2 c_1_2,x=.returned (.tuple #[.agg [.bool (r.1.Some),iv r.1.Start,iv r.1.Time,iv r.1.Int_,u64v r.1.Re,u64v r.1.Im,iv r.1.Hist.Scale,u64v r.1.Hist.Zero,iv r.1.Hist.Pos.Offset,.slice A_0_0 (r.1.Hist.Pos.Counts).length c_0_0,iv r.1.Hist.Neg.Offset,.slice A_0_1 (r.1.Hist.Neg.Counts).length c_0_1].toArray,.agg [Str (r.2.1.Name),.slice A_1_0 (r.2.1.Attrs).length c_1_0,iv r.2.1.Kind,iv r.2.1.Temp,.bool (r.2.1.Mono),iv r.2.1.Start,iv r.2.1.Time,iv r.2.1.Int_,u64v r.2.1.Re,u64v r.2.1.Im,iv r.2.1.Hist.Scale,u64v r.2.1.Hist.Zero,iv r.2.1.Hist.Pos.Offset,.slice A_1_1 (r.2.1.Hist.Pos.Counts).length c_1_1,iv r.2.1.Hist.Neg.Offset,.slice A_1_2 (r.2.1.Hist.Neg.Counts).length c_1_2,iv r.2.1.Flags].toArray,iv r.2.2])∧Hp Z0 No w w' [slR A_0_0 c_0_0 w64R r.1.Hist.Pos.Counts,slR A_0_1 c_0_1 w64R r.1.Hist.Neg.Counts,slR A_1_0 c_1_0 T_api_Pair.rep r.2.1.Attrs,slR A_1_1 c_1_1 w64R r.2.1.Hist.Pos.Counts,slR A_1_2 c_1_2 w64R r.2.1.Hist.Neg.Counts]:=by
 have D0:=Hp.nil Z0 No w;have hc0:=Calm.nil;obtain ⟨Ar1,cr1,Ar3,cr3,rfl,fs1,fs3⟩:=T_api_State.relE h0;obtain ⟨D11,hc0⟩:=D0.kn hc0 fs1;obtain ⟨D12,hc0⟩:=D11.kn hc0 fs3;obtain ⟨Ar5,cr5,Ar7,cr7,Ar9,cr9,rfl,fs5,fs7,fs9⟩:=T_api_Point.relE h1;obtain ⟨D13,hc0⟩:=D12.kn hc0 fs5;obtain ⟨D14,hc0⟩:=D13.kn hc0 fs7;obtain ⟨D15,hc0⟩:=D14.kn hc0 fs9;refine eg func81 2 ?_
 refine Rn.bx D15 λb16 w16 D18=>?_
 replace D18:=D18.nb
 refine Rn.bx D18 λb19 w19 D21=>?_
 replace D21:=D21.nb
 refine Rn.al D21 Tryz.zeroValue70 λb22 w22 D24=>?_
 replace D24:=D24.nb
 refine Rn.al D24 Tryz.zeroValue38 λb25 w25 D27=>?_
 replace D27:=D27.nb;refine gg 4 rfl (Rn.q rfl (V.ldBA [_,_,_,_,_,_,_,_,_,_,_,_,_,_,_,_,_] V38 O38 rfl (D27.get 6 rfl) rfl rfl) ?_);obtain ⟨p28,e28,Y⟩:=bindE Y;refine Rn.cq (cK func82) (m_point_Clone_sim (Z0:=All) e28 (T_api_Point.relA (D27.get 2 rfl) (D27.get 3 rfl) (D27.get 4 rfl)) :) ?_;rintro _ w28 ⟨A28_0_0,c28_0_0,A28_0_1,c28_0_1,A28_0_2,c28_0_2,rfl,Q28⟩;refine ⟨_,rfl,?_⟩;have D32:=D27.callF (flC (ownR_flat T_api_Pair.flat _ _ _ _) (flC (ownR_flat w64_flat _ _ _ _) (flC (ownR_flat w64_flat _ _ _ _) fl0))) Q28;replace D32:=D32.nq;refine Rn.als rfl rfl rfl Tryz.zeroValue38 rfl O38 rfl rfl rfl rfl (by first|exact ones rfl|(simp [Value.oneCell'];done)) ?_;intro b33 w33 hb33 m33 e33;have D35:=(D32.addBox hb33 e33 m33).nb;refine gg 2 rfl ?_;refine Rn.jF D35 [0,1,2,3,4,5,6,7,8,99,99,99,99] Y (G:=T_api_Point×Option Addr×Nat×Option Addr×Nat×Option Addr×Nat) (λg=>[(4,pt b19 0),(6,pt b22 0),(7,pt b25 0),(9,pt b33 0)]) (λg=>[_,_,_,_,_,_,_,_,_,ownR 116 (g.2.1) (g.2.2.1) T_api_Pair.rep (g.1).Attrs,ownR 31 (g.2.2.2.1) (g.2.2.2.2.1) w64R (g.1).Hist.Pos.Counts,ownR 31 (g.2.2.2.2.2.1) (g.2.2.2.2.2.2) w64R (g.1).Hist.Neg.Counts,boxR b33 38 [Str ((g.1).Name),.slice (g.2.1) ((g.1).Attrs).length (g.2.2.1),iv (g.1).Kind,iv (g.1).Temp,.bool ((g.1).Mono),iv (g.1).Start,iv (g.1).Time,iv (g.1).Int_,u64v (g.1).Re,u64v (g.1).Im,iv (g.1).Hist.Scale,u64v (g.1).Hist.Zero,iv (g.1).Hist.Pos.Offset,.slice (g.2.2.2.1) ((g.1).Hist.Pos.Counts).length (g.2.2.2.2.1),iv (g.1).Hist.Neg.Offset,.slice (g.2.2.2.2.2.1) ((g.1).Hist.Neg.Counts).length (g.2.2.2.2.2.2),iv (g.1).Flags]]) (λj g=>j g.1) ?_ ?_
 ·rintro ⟨y36,A37,c37,A39,c39,A41,c41⟩ w43 D43 Y
  try dsimp only at Y
  refine gg 1 rfl ?_;have D46:=D43.freeze 9 rfl;have D48:=D46.freeze 10 rfl;have D50:=D48.freeze 11 rfl;have D59:=(D50.cutF [5,6,12] [7,8] [0,1,2,3,4,9,10,11] rfl (by decide) ⟨λ_ h=>h,λ_ h=>h,λ_ h=>h,λ_ h=>h,λ_ h=>h,λ_ h=>h,λ_ h=>h,λ_ h=>h,trivial⟩).nf ([_,_,_,_,_,_,_,_,_,_,_]++[_,_,_,_,_,_,_,_,_,_]) rfl;refine Rn.drawF rfl D59 ?_;intro w60 hmo60 D60;refine dq [0] ?_;refine RH.tk 1 rfl (λw' hDr=>V.ldB V3 rfl ((hmo60.awayK hDr).get 1 rfl) rfl) ?_;refine dq [2] ?_;refine RH.tk 3 rfl (λw' hDr=>V.ldB V3 rfl ((hmo60.awayK hDr).get 1 rfl) rfl) ?_;refine RH.tk 4 rfl (λw' hDr=>V.bldS (cs:=[_,_,_,_,_,_,_,_,_,_,_,_]) st70 rfl rfl) ?_;refine RH.tk 5 rfl (λw' hDr=>V.ldBA [_,_,_,_,_,_,_,_,_,_,_,_,_,_,_,_,_] V38 O38 rfl ((hmo60.awayK hDr).get 2 rfl) rfl rfl) ?_
  refine RH.sn 6 D60 0 O70 λw61 D62=>?_
  refine ⟨D62.fr,?_⟩;refine RH.stF 7 (by kernel_rfl) rfl rfl O38 rfl rfl rfl rfl (by first|exact ones rfl|(simp [Value.oneCell'];done)) (D62.get 1 rfl) rfl ?_;intro w63 m63 x63;have D64:=D62.sn 1 x63 m63;refine ⟨D64.fr,?_⟩;refine dq [8] ?_;refine RH.dn ?_;have D65:=hmo60.callAZ D64;have D66:=(D65.pk [0,1,2,11,12,13,14,15,16,17,18,19,20]).nq;have D67:=D66.addNil 31 w64R;have D70:=D67.freeze 13 rfl;have D71:=D70.addNil 31 w64R;have D74:=D71.freeze 14 rfl;refine Rn.retG3 func81 rfl (rvC rfl V70 O70 (D66.get 3 rfl) rfl) (rvC rfl V38 O38 (D66.get 4 rfl) rfl) (rvT rfl) ?_;obtain rfl:=someE Y;exact ⟨none,0,none,0,A37,c37,A39,c39,A41,c41,rfl,D74.pk [13,14,10,11,12]⟩
 intro j1 Y K1;refine gg 4 rfl (Rn.q rfl (V.ldB V4 rfl (D35.get 5 rfl) rfl) (Rn.q rfl (V.notB rfl) (gg 2 rfl ?_)));refine bS Y 2 3 (λh75 Y=>?_) (λh75 Y=>?_)
 ·refine Rn.sn D35 12 O3 λw76 D77=>?_
  refine gg 2 rfl ?_;exact K1 ((⟨p28.Name,p28.Attrs,p28.Kind,p28.Temp,p28.Mono,p28.Start,p28.Time,p28.Int_,p28.Re,p28.Im,p28.Hist,1⟩:T_api_Point),A28_0_0,c28_0_0,A28_0_1,c28_0_1,A28_0_2,c28_0_2) _ _ sA (D77.pk [0,1,2,3,4,5,6,7,8,9,10,11,12]) Y
 refine Rn.q rfl (V.ldB V3 rfl (D35.get 6 rfl) rfl) (gg 1 rfl (Rn.q rfl (V.ldB V3 rfl (D35.get 5 rfl) rfl) (gg 3 rfl ?_)));refine bD Y 2 3 (λh78 Y=>?_) (λh78 Y=>?_)
 ·refine Rn.q rfl (V.bldS (cs:=[_,_,_,_,_,_,_,_,_,_,_,_]) st70 rfl rfl) (Rn.q rfl (V.bldS (cs:=[_,_,_,_,_,_,_,_,_,_,_,_,_,_,_,_,_]) st38 rfl rfl) (Rn.sn D35 7 O70 λw79 D80=>?_));refine Rn.stF rfl rfl O38 rfl rfl rfl rfl (by first|exact ones rfl|(simp [Value.oneCell'];done)) (D80.get 8 rfl) rfl ?_;intro w81 m81 x81;have D82:=D80.sn 8 x81 m81;refine gg 2 rfl ?_;have D83:=D82.addNil 31 w64R;have D86:=D83.freeze 13 rfl;have D87:=D86.addNil 31 w64R;have D90:=D87.freeze 14 rfl;have D91:=D90.addNil 116 T_api_Pair.rep;have D94:=D91.freeze 15 rfl;have D95:=D94.addNil 31 w64R;have D98:=D95.freeze 16 rfl;have D99:=D98.addNil 31 w64R;have D102:=D99.freeze 17 rfl;refine Rn.retG3 func81 rfl (rvC rfl V70 O70 (D82.get 7 rfl) rfl) (rvC rfl V38 O38 (D82.get 8 rfl) rfl) (rvT rfl) ?_;obtain rfl:=someE Y;exact ⟨none,0,none,0,none,0,none,0,none,0,rfl,D102.pk [13,14,15,16,17]⟩
 refine Rn.q rfl (V.ldB V3 rfl (D35.get 6 rfl) rfl) (gg 2 rfl ?_);refine Rn.cutR [10] [(3,pt b16 0),(4,pt b19 0),(6,pt b22 0),(7,pt b25 0),(9,pt b33 0),(35,.bool (decide ((x1.Temp=2)∧(x1.Start<x0.Time))))] (λK103=>?_) ?_
 ·refine Rn.partD (t:=29) rfl (λh104=>?_) (λh104=>?_)
  ·refine gg 1 rfl (Rn.q rfl (V.ldB V3 rfl (D35.get 6 rfl) rfl) (gg 1 rfl (Rn.q rfl (V.ldB V3 rfl (D35.get 5 rfl) rfl) (gg 2 rfl ?_))));exact K103 _ sA
  refine gg 6 rfl ?_;exact K103 _ sA
 refine gg 2 rfl ?_;refine bD Y 2 3 (λh105 Y=>?_) (λh105 Y=>?_)
 ·refine Rn.q rfl (V.bldS (cs:=[_,_,_,_,_,_,_,_,_,_,_,_]) st70 rfl rfl) (Rn.q rfl (V.bldS (cs:=[_,_,_,_,_,_,_,_,_,_,_,_,_,_,_,_,_]) st38 rfl rfl) (Rn.sn D35 7 O70 λw106 D107=>?_));refine Rn.stF rfl rfl O38 rfl rfl rfl rfl (by first|exact ones rfl|(simp [Value.oneCell'];done)) (D107.get 8 rfl) rfl ?_;intro w108 m108 x108;have D109:=D107.sn 8 x108 m108;refine gg 2 rfl ?_;have D110:=D109.addNil 31 w64R;have D113:=D110.freeze 13 rfl;have D114:=D113.addNil 31 w64R;have D117:=D114.freeze 14 rfl;have D118:=D117.addNil 116 T_api_Pair.rep;have D121:=D118.freeze 15 rfl;have D122:=D121.addNil 31 w64R;have D125:=D122.freeze 16 rfl;have D126:=D125.addNil 31 w64R;have D129:=D126.freeze 17 rfl;refine Rn.retG3 func81 rfl (rvC rfl V70 O70 (D109.get 7 rfl) rfl) (rvC rfl V38 O38 (D109.get 8 rfl) rfl) (rvT rfl) ?_;obtain rfl:=someE Y;exact ⟨none,0,none,0,none,0,none,0,none,0,rfl,D129.pk [13,14,15,16,17]⟩
 refine Rn.q rfl (V.ldB V3 rfl (D35.get 6 rfl) rfl) (gg 2 rfl ?_);refine Rn.cutR [10] [(4,pt b19 0),(6,pt b22 0),(7,pt b25 0),(9,pt b33 0),(48,.bool (decide ((x1.Temp=2)∧(x1.Start>x0.Time))))] (λK130=>?_) ?_
 ·refine Rn.partD (t:=42) rfl (λh131=>?_) (λh131=>?_)
  ·refine gg 1 rfl (Rn.q rfl (V.ldB V3 rfl (D35.get 6 rfl) rfl) (gg 1 rfl (Rn.q rfl (V.ldB V3 rfl (D35.get 5 rfl) rfl) (gg 2 rfl ?_))));exact K130 _ sA
  refine gg 6 rfl ?_;exact K130 _ sA
 refine gg 2 rfl ?_;refine bD Y 2 2 (λh132 Y=>?_) (λh132 Y=>?_)
 ·refine Rn.sn D35 12 O3 λw133 D134=>?_
  refine gg 2 rfl ?_;exact K1 ((⟨p28.Name,p28.Attrs,p28.Kind,p28.Temp,p28.Mono,p28.Start,p28.Time,p28.Int_,p28.Re,p28.Im,p28.Hist,8⟩:T_api_Point),A28_0_0,c28_0_0,A28_0_1,c28_0_1,A28_0_2,c28_0_2) _ _ sA (D134.pk [0,1,2,3,4,5,6,7,8,9,10,11,12]) Y
 exact K1 (p28,A28_0_0,c28_0_0,A28_0_1,c28_0_1,A28_0_2,c28_0_2) _ _ sA (D35.pk [0,1,2,3,4,5,6,7,8,9,10,11,12]) Y
theorem m_fc_1_ok {fnum:Nat} {x0:T_api_State} {x1:T_api_Point} {x2:Int} {r:(T_api_State×T_api_Point×Int)} (Y:m_fc_1 fnum x0 x1 x2=some r):CallOk prog fnum:=by
 unfold m_fc_1 at Y
 split at Y
 ·rename_i hf;subst hf;exact (cK func79)
 ·skip
  split at Y
  ·rename_i hf;subst hf;exact (cK func80)
  ·skip
   split at Y
   ·rename_i hf;subst hf;exact (cK func81)
   ·skip
    cases Y
set_option maxRecDepth 20000 in
theorem m_fc_1_sim {fnum:Nat} {x0:T_api_State} {x1:T_api_Point} {x2:Int} {r:(T_api_State×T_api_Point×Int)} (Y:m_fc_1 fnum x0 x1 x2=some r) (h0:T_api_State.rep.rel Z0 w cs0 x0) (h1:T_api_Point.rep.rel Z0 w cs1 x1) :
 Calls prog fnum #[.agg cs0.toArray,.agg cs1.toArray,iv x2] w λx w'=>∃ A_0_0 c_0_0 A_0_1 c_0_1 A_1_0 c_1_0 A_1_1 c_1_1 A_1_2 c_1_2,x=.returned (.tuple #[.agg [.bool (r.1.Some),iv r.1.Start,iv r.1.Time,iv r.1.Int_,u64v r.1.Re,u64v r.1.Im,iv r.1.Hist.Scale,u64v r.1.Hist.Zero,iv r.1.Hist.Pos.Offset,.slice A_0_0 (r.1.Hist.Pos.Counts).length c_0_0,iv r.1.Hist.Neg.Offset,.slice A_0_1 (r.1.Hist.Neg.Counts).length c_0_1].toArray,.agg [Str (r.2.1.Name),.slice A_1_0 (r.2.1.Attrs).length c_1_0,iv r.2.1.Kind,iv r.2.1.Temp,.bool (r.2.1.Mono),iv r.2.1.Start,iv r.2.1.Time,iv r.2.1.Int_,u64v r.2.1.Re,u64v r.2.1.Im,iv r.2.1.Hist.Scale,u64v r.2.1.Hist.Zero,iv r.2.1.Hist.Pos.Offset,.slice A_1_1 (r.2.1.Hist.Pos.Counts).length c_1_1,iv r.2.1.Hist.Neg.Offset,.slice A_1_2 (r.2.1.Hist.Neg.Counts).length c_1_2,iv r.2.1.Flags].toArray,iv r.2.2])∧Hp Z0 No w w' [slR A_0_0 c_0_0 w64R r.1.Hist.Pos.Counts,slR A_0_1 c_0_1 w64R r.1.Hist.Neg.Counts,slR A_1_0 c_1_0 T_api_Pair.rep r.2.1.Attrs,slR A_1_1 c_1_1 w64R r.2.1.Hist.Pos.Counts,slR A_1_2 c_1_2 w64R r.2.1.Hist.Neg.Counts]:=by
 unfold m_fc_1 at Y
 split at Y
 ·rename_i hf;subst hf;exact m_todelta_Next_sim (Z0:=Z0) Y h0 h1
 skip
 split at Y
 ·rename_i hf;subst hf;exact m_tocum_Next_sim (Z0:=Z0) Y h0 h1
 skip
 split at Y
 ·rename_i hf;subst hf;exact m_convert_pass_sim (Z0:=Z0) Y h0 h1
 skip
 cases Y
theorem m_convert_Converter_Take_sim {x0:T_convert_Converter} {x1:T_api_Point} {r:(T_api_Point×Int×T_convert_Converter)} (Y:m_convert_Converter_Take x0 x1=some r) (hL:Lent Z0 w [T_convert_Converter.obj F0 b0 x0,relR T_api_Point.rep cs1 x1]) :
 Calls prog 12 #[pt b0 0,.agg cs1.toArray] w λx w'=>∃ A_0_0 c_0_0 A_0_1 c_0_1 A_0_2 c_0_2 F_p0,x=.returned (.tuple #[.agg [Str (r.1.Name),.slice A_0_0 (r.1.Attrs).length c_0_0,iv r.1.Kind,iv r.1.Temp,.bool (r.1.Mono),iv r.1.Start,iv r.1.Time,iv r.1.Int_,u64v r.1.Re,u64v r.1.Im,iv r.1.Hist.Scale,u64v r.1.Hist.Zero,iv r.1.Hist.Pos.Offset,.slice A_0_1 (r.1.Hist.Pos.Counts).length c_0_1,iv r.1.Hist.Neg.Offset,.slice A_0_2 (r.1.Hist.Neg.Counts).length c_0_2,iv r.1.Flags].toArray,iv r.2.1])∧Hp Z0 (LS [T_convert_Converter.obj F0 b0 x0,relR T_api_Point.rep cs1 x1]) w w' [slR A_0_0 c_0_0 T_api_Pair.rep r.1.Attrs,slR A_0_1 c_0_1 w64R r.1.Hist.Pos.Counts,slR A_0_2 c_0_2 w64R r.1.Hist.Neg.Counts,T_convert_Converter.obj F_p0 b0 r.2.2]:=by
 have D0:=hL.start;have h1:=D0.get 1 rfl;obtain ⟨Ar2,cr2,Ar4,cr4,Ar6,cr6,rfl,fs2,fs4,fs6⟩:=T_api_Point.relE h1;have D9:=Hp.knowL [slR Ar2 cr2 T_api_Pair.rep x1.Attrs,slR Ar4 cr4 w64R x1.Hist.Pos.Counts,slR Ar6 cr6 w64R x1.Hist.Neg.Counts] _ D0 (knC (λ_ h=>h) fs2 (knC (λ_ h=>h) fs4 (knC (λ_ h=>h) fs6 kn0)));refine eg func12 2 ?_
 refine Rn.bx D9 λb10 w10 D12=>?_
 replace D12:=D12.nb
 refine Rn.al D12 Tryz.zeroValue38 λb13 w13 D15=>?_
 replace D15:=D15.nb;refine gg 4 rfl (Rn.q rfl (V.ldBA [_,_,_,_,_,_,_,_,_,_,_,_,_,_,_,_,_] V38 O38 rfl (D15.get 5 rfl) rfl rfl) ?_);obtain ⟨p16,e16,Y⟩:=bindE Y
 refine Rn.c0 (cK func13) (m_point_Key_sim (Z0:=All) e16 (T_api_Point.relA (D15.get 2 rfl) (D15.get 3 rfl) (D15.get 4 rfl)) :) D15 λw16 _ D17=>?_
 refine gg 12 rfl ?_;refine Rn.cutR [] [(0,pt b0 0),(3,pt b10 0),(4,pt b13 0),(6,Str (p16.1)),(7,iv p16.2),(23,.bool (decide ((p16.2=0)∧(x1.Flags≠0))))] (λK18=>?_) ?_
 ·refine Rn.partD (t:=19) rfl (λh19=>?_) (λh19=>?_)
  ·refine gg 1 rfl (Rn.q rfl (V.ldB V3 rfl (D17.get 5 rfl) rfl) (gg 2 rfl ?_));exact K18 _ sA
  refine gg 4 rfl ?_;exact K18 _ sA
 refine gg 1 rfl ?_;refine Rn.jF D17 [99,2,3,4,5,6] Y (G:=Int×(Nat→Prop)) (λg=>[(0,pt b0 0),(3,pt b10 0),(4,pt b13 0),(6,Str (p16.1)),(7,iv (g.1))]) (λg=>[T_convert_Converter.obj (g.2) b0 x0,_,_,_,_,_]) (λj g=>j g.1) ?_ ?_
 ·rintro ⟨y21,F20⟩ w22 D22 Y
  try dsimp only at Y
  refine gg 6 rfl ?_;refine Rn.cutR [] [(0,pt b0 0),(3,pt b10 0),(4,pt b13 0),(6,Str (p16.1)),(7,iv y21),(30,.bool (decide ((y21=0)∧(x1.Kind=4))))] (λK23=>?_) ?_
  ·refine Rn.partD (t:=26) rfl (λh24=>?_) (λh24=>?_)
   ·refine gg 1 rfl (Rn.q rfl (V.ldB V3 rfl (D22.get 4 rfl) rfl) (gg 2 rfl ?_));exact K23 _ sA
   refine gg 4 rfl ?_;exact K23 _ sA
  refine gg 1 rfl ?_;refine Rn.jF D22 [99,1,2,3,5,99,99,99,99] Y (G:=Int×T_api_Point×(Nat→Prop)×Option Addr×Nat×Option Addr×Nat×Option Addr×Nat) (λg=>[(0,pt b0 0),(3,pt b10 0),(4,pt b13 0),(6,Str (p16.1)),(7,iv (g.1))]) (λg=>[T_convert_Converter.obj (g.2.2.1) b0 x0,_,_,_,_,slR (g.2.2.2.1) (g.2.2.2.2.1) T_api_Pair.rep (g.2.1).Attrs,slR (g.2.2.2.2.2.1) (g.2.2.2.2.2.2.1) w64R (g.2.1).Hist.Pos.Counts,slR (g.2.2.2.2.2.2.2.1) (g.2.2.2.2.2.2.2.2) w64R (g.2.1).Hist.Neg.Counts,boxR b10 38 [Str ((g.2.1).Name),.slice (g.2.2.2.1) ((g.2.1).Attrs).length (g.2.2.2.2.1),iv (g.2.1).Kind,iv (g.2.1).Temp,.bool ((g.2.1).Mono),iv (g.2.1).Start,iv (g.2.1).Time,iv (g.2.1).Int_,u64v (g.2.1).Re,u64v (g.2.1).Im,iv (g.2.1).Hist.Scale,u64v (g.2.1).Hist.Zero,iv (g.2.1).Hist.Pos.Offset,.slice (g.2.2.2.2.2.1) ((g.2.1).Hist.Pos.Counts).length (g.2.2.2.2.2.2.1),iv (g.2.1).Hist.Neg.Offset,.slice (g.2.2.2.2.2.2.2.1) ((g.2.1).Hist.Neg.Counts).length (g.2.2.2.2.2.2.2.2),iv (g.2.1).Flags]]) (λj g=>j g.1 g.2.1) ?_ ?_
  ·rintro ⟨y26,y27,F25,A28,c28,A30,c30,A32,c32⟩ w34 D34 Y
   try dsimp only at Y
   refine gg 6 rfl ?_;refine bD Y 2 6 (λh35 Y=>?_) (λh35 Y=>?_)
   ·refine Rn.q rfl (V.bldS (cs:=[_,_,_,_,_,_,_,_,_,_,_,_,_,_,_,_,_]) st38 rfl rfl) (gg 1 rfl (Rn.stF rfl rfl O38 rfl rfl rfl rfl (by first|exact ones rfl|(simp [Value.oneCell'];done)) (D34.get 4 rfl) rfl ?_));intro w36 m36 x36;have D37:=D34.sn 4 x36 m36;refine gg 2 rfl ?_;have D38:=D37.addNil 116 T_api_Pair.rep;have D41:=D38.freeze 9 rfl;have D42:=D41.addNil 31 w64R;have D45:=D42.freeze 10 rfl;have D46:=D45.addNil 31 w64R;have D49:=D46.freeze 11 rfl;refine Rn.retG2 func12 rfl (rvC rfl V38 O38 (D37.get 4 rfl) rfl) (rvT rfl) ?_;obtain rfl:=someE Y;exact ⟨none,0,none,0,none,0,F25,rfl,D49.pk [9,10,11,0]⟩
   obtain ⟨_,⟨F50_0,b50_0,rfl⟩,D50⟩:=D34.unf 0 rfl;replace D50:=D50.nq;refine Rn.q rfl (V.ldB V67 rfl (D50.get 8 rfl) rfl) (gg 1 rfl ?_);obtain ⟨p52,e52,Y⟩:=bindE Y;have D53:=D50.cu [0,1,2,3,4,5,6,7,8] [9];refine Rn.cq (cK func29) (m_table_Table_convert_kept_Get_sim e52 D53.lend :) ?_;rintro _ w52 ⟨A52_0_0,c52_0_0,A52_0_1,c52_0_1,A52_0_2,c52_0_2,A52_0_3,c52_0_3,A52_0_4,c52_0_4,F52_p0,rfl,Q52⟩;refine ⟨_,rfl,?_⟩;have D60:=D53.callAZ Q52;refine gg 3 rfl (Rn.als rfl rfl rfl Tryz.zeroValue72 rfl O72 rfl rfl rfl rfl (by first|exact ones rfl|(simp [Value.oneCell'];done)) ?_);intro b61 w61 hb61 m61 e61;have D63:=(D60.addBox hb61 e61 m61).nb;refine gg 6 rfl (Rn.q rfl (V.notB rfl) (gg 1 rfl ?_));have D65:=D63.cu [0,1,2,3,4,5,6,7,9,10,11,12,13,15] [8,14];obtain ⟨F64,D64⟩:=D65.fold (T_convert_Converter.sh b0 x0) ⟨F52_p0,b50_0,rfl⟩;refine Rn.jQ D64 [3,4,5,6,7,8,9,10,11,12,13,99] Y (G:=Bool×(Nat→Prop)) [] (λg=>[(0,pt b0 0),(3,pt b10 0),(4,pt b13 0),(6,Str (p16.1)),(8,pt b61 0),(65,.bool ((g.1)))]) (λg=>[_,_,_,_,_,_,_,_,_,_,_,T_convert_Converter.obj (g.2) b0 x0]) (λj g=>j g.1) ?_ ?_
   ·rintro ⟨y67,F66⟩ w68 D68 Y
    try dsimp only at Y
    refine gg 1 rfl ?_;refine bS Y 2 2 (λh69 Y=>?_) (λh69 Y=>?_)
    ·refine Rn.q rfl (V.bldS (cs:=[_,_,_,_,_,_,_,_,_,_,_,_,_,_,_,_,_]) st38 rfl rfl) (Rn.stF rfl rfl O38 rfl rfl rfl rfl (by first|exact ones rfl|(simp [Value.oneCell'];done)) (D68.get 0 rfl) rfl ?_);intro w70 m70 x70;have D71:=D68.sn 0 x70 m70;refine gg 2 rfl ?_;have D72:=D71.addNil 116 T_api_Pair.rep;have D75:=D72.freeze 12 rfl;have D76:=D75.addNil 31 w64R;have D79:=D76.freeze 13 rfl;have D80:=D79.addNil 31 w64R;have D83:=D80.freeze 14 rfl;refine Rn.retG2 func12 rfl (rvC rfl V38 O38 (D71.get 0 rfl) rfl) (rvT rfl) ?_;obtain rfl:=someE Y;exact ⟨none,0,none,0,none,0,F66,rfl,D83.pk [12,13,14,11]⟩
    refine Rn.jF D68 [0,1,2,3,4,5,6,7,8,9,10,99,99,99] Y (G:=Int×T_api_State×T_api_Point×(Nat→Prop)×(Nat→Prop)×Nat×(Nat→Prop)×Nat) (λg=>[(0,pt b0 0),(3,pt b10 0),(4,pt b13 0),(6,Str (p16.1)),(7,iv (g.1)),(10,pt (g.2.2.2.2.2.1) 0),(11,pt (g.2.2.2.2.2.2.2) 0)]) (λg=>[_,_,_,_,_,_,_,_,_,_,_,T_convert_Converter.obj (g.2.2.2.1) b0 x0,T_api_State.obj (g.2.2.2.2.1) (g.2.2.2.2.2.1) (g.2.1),T_api_Point.obj (g.2.2.2.2.2.2.1) (g.2.2.2.2.2.2.2) (g.2.2.1)]) (λj g=>j g.1 g.2.1 g.2.2.1) ?_ ?_
    ·rintro ⟨y85,y86,y88,F84,F86,b86,F88,b88⟩ w90 D90 Y
     try dsimp only at Y
     refine gg 6 rfl ?_;refine bD Y 2 2 (λh91 Y=>?_) (λh91 Y=>?_)
     ·refine Rn.q rfl (V.bldS (cs:=[_,_,_,_,_,_,_,_,_,_,_,_,_,_,_,_,_]) st38 rfl rfl) (gg 1 rfl (Rn.stF rfl rfl O38 rfl rfl rfl rfl (by first|exact ones rfl|(simp [Value.oneCell'];done)) (D90.get 0 rfl) rfl ?_));intro w92 m92 x92;have D93:=D90.sn 0 x92 m92;refine gg 2 rfl ?_;have D94:=D93.addNil 116 T_api_Pair.rep;have D97:=D94.freeze 14 rfl;have D98:=D97.addNil 31 w64R;have D101:=D98.freeze 15 rfl;have D102:=D101.addNil 31 w64R;have D105:=D102.freeze 16 rfl;refine Rn.retG2 func12 rfl (rvC rfl V38 O38 (D93.get 0 rfl) rfl) (rvT rfl) ?_;obtain rfl:=someE Y;exact ⟨none,0,none,0,none,0,F84,rfl,D105.pk [14,15,16,11]⟩
     obtain ⟨_,⟨F107_0,b107_0,rfl⟩,D107⟩:=D90.unf 11 rfl;replace D107:=D107.nq;obtain ⟨_,⟨A109_0,c109_0,A109_1,c109_1,rfl⟩,D109⟩:=D107.unf 11 rfl;replace D109:=D109.nq;have D122:=(D109.cutF [0,4,10,11,12,14] [13] [1,2,3,5,6,7,8,9,15,16] rfl (by decide) ⟨λ_ h=>h,λ_ h=>h,λ_ h=>h,λ_ h=>h,λ_ h=>h,λ_ h=>h,λ_ h=>h,λ_ h=>h,λ_ h=>h,λ_ h=>h,trivial⟩).nf ([_,_,_,_,_,_,_,_,_,_,_,_,_,_,_,_]++[_,_,_,_,_,_,_,_,_,_,_]) rfl;refine Rn.drawF rfl D122 ?_;intro w123 hmo123 D123;refine dq [0,1,2] ?_;refine RH.tk 3 rfl (λw' hDr=>V.ldB V67 rfl ((hmo123.awayK hDr).get 4 rfl) rfl) ?_;refine dq [4] ?_;refine RH.tk 5 rfl (λw' hDr=>V.ldBA [_,_,_,_,_,_,_,_,_,_,_,_] V70 O70 rfl ((hmo123.awayK hDr).get 5 rfl) rfl rfl) ?_;refine RH.ho 6 rfl (V.ldBA [_,_,_,_,_,_,_,_,_,_,_,_,_,_,_,_,_] V38 O38 rfl ((hmo123.awayK D123.fr).get 1 rfl) rfl rfl) ?_;obtain ⟨p124,e124,Y⟩:=bindE Y;refine RH.cq (cK func33) 7 (m_convert_bare_sim (Z0:=All) e124 (T_api_Point.relA (D123.get 1 rfl) (D123.get 2 rfl) (D123.get 3 rfl)) :) ?_;rintro _ w124 ⟨A124_0_0,c124_0_0,A124_0_1,c124_0_1,A124_0_2,c124_0_2,rfl,Q124⟩;have D128:=D123.callF (flC (ownR_flat T_api_Pair.flat _ _ _ _) (flC (ownR_flat w64_flat _ _ _ _) (flC (ownR_flat w64_flat _ _ _ _) fl0))) Q124;refine ⟨_,rfl,D128.fr,?_⟩;refine RH.ho 8 rfl (V.bldF (cs:=[_,_,_,_,_,_,_,_,_,_,_,_,_,_,_,_,_,_,_,_,_,_,_,_,_,_,_,_,_]) st72 rfl rfl rfl rfl rfl) ?_;have D131:=D128.freeze 11 rfl;have D133:=D131.freeze 12 rfl;have D135:=D133.freeze 13 rfl;obtain ⟨p129,e129,Y⟩:=bindE Y;have D136:=D135.know (relR T_convert_kept.rep [.bool (y86.Some),iv y86.Start,iv y86.Time,iv y86.Int_,u64v y86.Re,u64v y86.Im,iv y86.Hist.Scale,u64v y86.Hist.Zero,iv y86.Hist.Pos.Offset,.slice A109_0 (y86.Hist.Pos.Counts).length c109_0,iv y86.Hist.Neg.Offset,.slice A109_1 (y86.Hist.Neg.Counts).length c109_1,Str (p124.Name),.slice A124_0_0 (p124.Attrs).length c124_0_0,iv p124.Kind,iv p124.Temp,.bool (p124.Mono),iv p124.Start,iv p124.Time,iv p124.Int_,u64v p124.Re,u64v p124.Im,iv p124.Hist.Scale,u64v p124.Hist.Zero,iv p124.Hist.Pos.Offset,.slice A124_0_1 (p124.Hist.Pos.Counts).length c124_0_1,iv p124.Hist.Neg.Offset,.slice A124_0_2 (p124.Hist.Neg.Counts).length c124_0_2,iv p124.Flags] (⟨y86,p124⟩:T_convert_kept)) (λ_ h=>h) (show T_convert_kept.rep.rel _ _ _ _ from (T_convert_kept.relI (D135.get 9 rfl) (D135.get 10 rfl) (D135.get 11 rfl) (D135.get 12 rfl) (D135.get 13 rfl)));have D138:=D136.cu [1,2,3,4,5,6,7,8,9,10,11,12,13] [0,14];refine RH.cq (cK func32) 9 (m_table_Table_convert_kept_Put_sim e129 D138.lend :) ?_;rintro _ w129 ⟨F129_p0,rfl,Q129⟩;have D140:=D138.callAZ Q129;refine ⟨_,rfl,D140.fr,?_⟩;refine RH.dn ?_;have D141:=hmo123.callAZ D140;have D142:=(D141.pk [0,1,2,3,4,5,16,17,18,19,20,21,22,23,24,25,26,27,28,29]).nq;refine gg 2 rfl ?_;obtain ⟨_,⟨A143_0,c143_0,A143_1,c143_1,A143_2,c143_2,rfl⟩,D143⟩:=D142.unf 3 rfl;replace D143:=D143.nq;refine Rn.q rfl (V.ldBA [_,_,_,_,_,_,_,_,_,_,_,_,_,_,_,_,_] V38 O38 rfl (D143.get 19 rfl) rfl rfl) (Rn.stF rfl rfl O38 rfl rfl rfl rfl (by first|exact ones rfl|(simp [Value.oneCell'];done)) (D143.get 0 rfl) rfl ?_);intro w147 m147 x147;have D148:=D143.sn 0 x147 m147;refine gg 2 rfl ?_;have D150:=D148.cu [0,1,2,4,5,6,7,8,9,10,11,12,13,14,15,16,17,19,20,21,22] [3,18];obtain ⟨F149,D149⟩:=D150.fold (T_convert_Converter.sh b0 (⟨x0.cfg,p129.2⟩:T_convert_Converter)) ⟨F129_p0,b107_0,rfl⟩;refine Rn.retG2 func12 rfl (rvC rfl V38 O38 (D148.get 0 rfl) rfl) (rvT rfl) ?_;obtain rfl:=someE Y;exact ⟨A143_0,c143_0,A143_1,c143_1,A143_2,c143_2,F149,rfl,D149.pk [18,19,20,21]⟩
    intro j4 Y K4;refine Rn.drawX rfl D68 ?_;intro w151 D151;refine dq [0,3,6,7,8,9] ?_;obtain ⟨_,⟨F152_0,b152_0,rfl⟩,D152⟩:=D151.unf 11 rfl;replace D152:=D152.nq;refine RG.str (S1:=λw'=>Rd w' b10 0 [Str (y27.Name),.slice A28 (y27.Attrs).length c28,iv y27.Kind,iv y27.Temp,.bool (y27.Mono),iv y27.Start,iv y27.Time,iv y27.Int_,u64v y27.Re,u64v y27.Im,iv y27.Hist.Scale,u64v y27.Hist.Zero,iv y27.Hist.Pos.Offset,.slice A30 (y27.Hist.Pos.Counts).length c30,iv y27.Hist.Neg.Offset,.slice A32 (y27.Hist.Neg.Counts).length c32,iv y27.Flags]∧Rd w' b61 0 [.bool (p52.1.State.Some),iv p52.1.State.Start,iv p52.1.State.Time,iv p52.1.State.Int_,u64v p52.1.State.Re,u64v p52.1.State.Im,iv p52.1.State.Hist.Scale,u64v p52.1.State.Hist.Zero,iv p52.1.State.Hist.Pos.Offset,.slice A52_0_0 (p52.1.State.Hist.Pos.Counts).length c52_0_0,iv p52.1.State.Hist.Neg.Offset,.slice A52_0_1 (p52.1.State.Hist.Neg.Counts).length c52_0_1]∧Rd w' b0 2 [iv x0.cfg.Buckets]) (λ_ _=>trivial) ⟨blkRd (D152.get 4 rfl) 0 17,blkRd (D152.get 10 rfl) 0 12,blkRd (D152.get 11 rfl) 2 1⟩ ?_;refine RH.tk 1 rfl (λw' hDr=>V.ldA (vs:=[_,_,_,_,_,_,_,_,_,_,_,_,_,_,_,_,_]) V38 O38 rfl (Rd.pre hDr.1 17) rfl) ?_;refine RH.tk 4 rfl (λw' hDr=>V.ldA (vs:=[_,_,_,_,_,_,_,_,_,_,_,_]) V70 O70 rfl (Rd.pre hDr.2.1 12) rfl) ?_;refine RH.tk 5 rfl (λw' hDr=>V.ldA (vs:=[_,_,_,_,_,_,_,_,_,_,_,_,_,_,_,_,_]) V38 O38 rfl (Rd.pre hDr.1 17) rfl) ?_;refine RH.tk 10 rfl (λw' hDr=>V.ldR0 V3 rfl hDr.2.2 rfl) ?_;obtain ⟨p154,e154,Y⟩:=bindE Y;obtain ⟨p160,e160,Y⟩:=bindE Y;refine RH.tri 2 16 17 (by kernel_rfl) ?_ ?_ ?_
    ·have e177:=e154;have D178:=D152.know (relR T_api_Point.rep [Str (y27.Name),.slice A28 (y27.Attrs).length c28,iv y27.Kind,iv y27.Temp,.bool (y27.Mono),iv y27.Start,iv y27.Time,iv y27.Int_,u64v y27.Re,u64v y27.Im,iv y27.Hist.Scale,u64v y27.Hist.Zero,iv y27.Hist.Pos.Offset,.slice A30 (y27.Hist.Pos.Counts).length c30,iv y27.Hist.Neg.Offset,.slice A32 (y27.Hist.Neg.Counts).length c32,iv y27.Flags] y27) (λ_ h=>h) (show T_api_Point.rep.rel _ _ _ _ from (T_api_Point.relI (D152.get 1 rfl) (D152.get 2 rfl) (D152.get 3 rfl)));have D180:=D178.cu [0,1,2,3,4,5,6,7,8,9,10,12] [11,13];refine RB.cl (cK func31) 2 rfl rfl rfl rfl (m_convert_Converter_road_s2_sim e177 D180.lend :) ?_;rintro _ w177 ⟨rfl,Q177⟩;have D182:=D180.callAZ Q177;refine ⟨_,rfl,⟨blkRd (D182.get 4 rfl) 0 17,blkRd (D182.get 10 rfl) 0 12,blkRd (D182.get 12 rfl) 2 1⟩,?_⟩;refine RH.tri 11 16 17 (by kernel_rfl) ?_ ?_ ?_
     ·have e183:=e160;refine RB.clV (m_fc_1_ok e183) 11 rfl rfl rfl rfl rfl (m_fc_1_sim (Z0:=D182.Z) e183 (T_api_State.relI (D182.get 5 rfl) (D182.get 6 rfl)) (T_api_Point.relI (D182.get 1 rfl) (D182.get 2 rfl) (D182.get 3 rfl)) :) ?_;rintro _ w183 ⟨A183_0_0,c183_0_0,A183_0_1,c183_0_1,A183_1_0,c183_1_0,A183_1_1,c183_1_1,A183_1_2,c183_1_2,rfl,Q183⟩;have D189:=D182.callZ Q183;refine ⟨_,rfl,⟨blkRd (D189.get 4 rfl) 0 17,blkRd (D189.get 10 rfl) 0 12,blkRd (D189.get 12 rfl) 2 1⟩,?_⟩;refine dq [12,13,14,15] ?_;refine RH.both 16 17 (by kernel_rfl) ?_ ?_
      ·refine RB.alloc 16 rfl rfl rfl Tryz.zeroValue70 rfl ?_;intro b190 w190 hb190 m190 e190;have D192:=(D189.addBox hb190 e190 m190).nb;refine ⟨⟨blkRd (D192.get 4 rfl) 0 17,blkRd (D192.get 10 rfl) 0 12,blkRd (D192.get 12 rfl) 2 1⟩,?_⟩;refine RH.alloc 17 (by kernel_rfl) rfl rfl rfl Tryz.zeroValue38 rfl ?_;intro b193 w193 hb193 m193 e193;have D195:=(D192.addBox hb193 e193 m193).nb;refine ⟨⟨blkRd (D195.get 4 rfl) 0 17,blkRd (D195.get 10 rfl) 0 12,blkRd (D195.get 12 rfl) 2 1⟩,?_⟩
       refine RH.sn 18 D195 18 O70 λw196 D197=>?_
       refine ⟨⟨blkRd (D197.get 4 rfl) 0 17,blkRd (D197.get 10 rfl) 0 12,blkRd (D197.get 12 rfl) 2 1⟩,?_⟩;refine RH.stF 19 (by kernel_rfl) rfl rfl O38 rfl rfl rfl rfl (by first|exact ones rfl|(simp [Value.oneCell'];done)) (D197.get 19 rfl) rfl ?_;intro w198 m198 x198;have D199:=D197.sn 19 x198 m198;refine ⟨⟨blkRd (D199.get 4 rfl) 0 17,blkRd (D199.get 10 rfl) 0 12,blkRd (D199.get 12 rfl) 2 1⟩,?_⟩;refine dq [20] ?_;refine RH.dn ?_;have D201:=D199.cu [0,1,2,3,4,5,6,7,8,9,10,13,14,15,16,17,18,19] [12,11];obtain ⟨F200,D200⟩:=D201.fold (T_convert_Converter.sh b0 x0) ⟨F152_0,b152_0,rfl⟩;have D202:=D200.dup 11 rfl (λ_ h=>h);have D204:=D202.dup 12 rfl (λ_ h=>h);have D207:=D204.cu [0,1,2,3,4,5,6,7,8,9,10,11,12,13,14,15,17,18] [16,19,20];obtain ⟨F206,D206⟩:=D207.fold (T_api_State.sh b190 p160.1) ⟨A183_0_0,c183_0_0,A183_0_1,c183_0_1,rfl⟩;have D208:=D206.dup 13 rfl (λ_ h=>h);have D210:=D208.dup 14 rfl (λ_ h=>h);have D212:=D210.dup 15 rfl (λ_ h=>h);have D215:=D212.cu [0,1,2,3,4,5,6,7,8,9,10,11,12,13,14,15,17,18] [16,19,20,21];obtain ⟨F214,D214⟩:=D215.fold (T_api_Point.sh b193 p160.2.1) ⟨A183_1_0,c183_1_0,A183_1_1,c183_1_1,A183_1_2,c183_1_2,rfl⟩;exact K4 (p160.2.2,p160.1,p160.2.1,F200,F206,b190,F214,b193) _ _ sA (D214.pk [0,1,2,3,4,5,6,7,8,9,10,16,17,18]) Y
      refine RB.alloc 17 rfl rfl rfl Tryz.zeroValue38 rfl ?_;intro b216 w216 hb216 m216 e216;have D218:=(D189.addBox hb216 e216 m216).nb;refine ⟨⟨blkRd (D218.get 4 rfl) 0 17,blkRd (D218.get 10 rfl) 0 12,blkRd (D218.get 12 rfl) 2 1⟩,?_⟩;refine RH.alloc 16 (by kernel_rfl) rfl rfl rfl Tryz.zeroValue70 rfl ?_;intro b219 w219 hb219 m219 e219;have D221:=(D218.addBox hb219 e219 m219).nb;refine ⟨⟨blkRd (D221.get 4 rfl) 0 17,blkRd (D221.get 10 rfl) 0 12,blkRd (D221.get 12 rfl) 2 1⟩,?_⟩
      refine RH.sn 18 D221 19 O70 λw222 D223=>?_
      refine ⟨⟨blkRd (D223.get 4 rfl) 0 17,blkRd (D223.get 10 rfl) 0 12,blkRd (D223.get 12 rfl) 2 1⟩,?_⟩;refine RH.stF 19 (by kernel_rfl) rfl rfl O38 rfl rfl rfl rfl (by first|exact ones rfl|(simp [Value.oneCell'];done)) (D223.get 18 rfl) rfl ?_;intro w224 m224 x224;have D225:=D223.sn 18 x224 m224;refine ⟨⟨blkRd (D225.get 4 rfl) 0 17,blkRd (D225.get 10 rfl) 0 12,blkRd (D225.get 12 rfl) 2 1⟩,?_⟩;refine dq [20] ?_;refine RH.dn ?_;have D227:=D225.cu [0,1,2,3,4,5,6,7,8,9,10,13,14,15,16,17,18,19] [12,11];obtain ⟨F226,D226⟩:=D227.fold (T_convert_Converter.sh b0 x0) ⟨F152_0,b152_0,rfl⟩;have D228:=D226.dup 11 rfl (λ_ h=>h);have D230:=D228.dup 12 rfl (λ_ h=>h);have D233:=D230.cu [0,1,2,3,4,5,6,7,8,9,10,11,12,13,14,15,16,18] [17,19,20];obtain ⟨F232,D232⟩:=D233.fold (T_api_State.sh b219 p160.1) ⟨A183_0_0,c183_0_0,A183_0_1,c183_0_1,rfl⟩;have D234:=D232.dup 13 rfl (λ_ h=>h);have D236:=D234.dup 14 rfl (λ_ h=>h);have D238:=D236.dup 15 rfl (λ_ h=>h);have D241:=D238.cu [0,1,2,3,4,5,6,7,8,9,10,11,12,13,14,15,17,18] [16,19,20,21];obtain ⟨F240,D240⟩:=D241.fold (T_api_Point.sh b216 p160.2.1) ⟨A183_1_0,c183_1_0,A183_1_1,c183_1_1,A183_1_2,c183_1_2,rfl⟩;exact K4 (p160.2.2,p160.1,p160.2.1,F226,F232,b219,F240,b216) _ _ sA (D240.pk [0,1,2,3,4,5,6,7,8,9,10,16,17,18]) Y
     ·refine RB.alloc 16 rfl rfl rfl Tryz.zeroValue70 rfl ?_;intro b242 w242 hb242 m242 e242;have D244:=(D182.addBox hb242 e242 m242).nb;refine ⟨⟨blkRd (D244.get 4 rfl) 0 17,blkRd (D244.get 10 rfl) 0 12,blkRd (D244.get 12 rfl) 2 1⟩,?_⟩;refine RH.both 11 17 (by kernel_rfl) ?_ ?_
      ·have e245:=e160;refine RB.clV (m_fc_1_ok e245) 11 rfl rfl rfl rfl rfl (m_fc_1_sim (Z0:=D244.Z) e245 (T_api_State.relI (D244.get 5 rfl) (D244.get 6 rfl)) (T_api_Point.relI (D244.get 1 rfl) (D244.get 2 rfl) (D244.get 3 rfl)) :) ?_;rintro _ w245 ⟨A245_0_0,c245_0_0,A245_0_1,c245_0_1,A245_1_0,c245_1_0,A245_1_1,c245_1_1,A245_1_2,c245_1_2,rfl,Q245⟩;have D251:=D244.callZ Q245;refine ⟨_,rfl,⟨blkRd (D251.get 4 rfl) 0 17,blkRd (D251.get 10 rfl) 0 12,blkRd (D251.get 12 rfl) 2 1⟩,?_⟩;refine dq [12,13,14,15] ?_;refine RH.alloc 17 (by kernel_rfl) rfl rfl rfl Tryz.zeroValue38 rfl ?_;intro b252 w252 hb252 m252 e252;have D254:=(D251.addBox hb252 e252 m252).nb;refine ⟨⟨blkRd (D254.get 4 rfl) 0 17,blkRd (D254.get 10 rfl) 0 12,blkRd (D254.get 12 rfl) 2 1⟩,?_⟩
       refine RH.sn 18 D254 13 O70 λw255 D256=>?_
       refine ⟨⟨blkRd (D256.get 4 rfl) 0 17,blkRd (D256.get 10 rfl) 0 12,blkRd (D256.get 12 rfl) 2 1⟩,?_⟩;refine RH.stF 19 (by kernel_rfl) rfl rfl O38 rfl rfl rfl rfl (by first|exact ones rfl|(simp [Value.oneCell'];done)) (D256.get 19 rfl) rfl ?_;intro w257 m257 x257;have D258:=D256.sn 19 x257 m257;refine ⟨⟨blkRd (D258.get 4 rfl) 0 17,blkRd (D258.get 10 rfl) 0 12,blkRd (D258.get 12 rfl) 2 1⟩,?_⟩;refine dq [20] ?_;refine RH.dn ?_;have D260:=D258.cu [0,1,2,3,4,5,6,7,8,9,10,13,14,15,16,17,18,19] [12,11];obtain ⟨F259,D259⟩:=D260.fold (T_convert_Converter.sh b0 x0) ⟨F152_0,b152_0,rfl⟩;have D261:=D259.dup 12 rfl (λ_ h=>h);have D263:=D261.dup 13 rfl (λ_ h=>h);have D266:=D263.cu [0,1,2,3,4,5,6,7,8,9,10,12,13,14,15,16,17,18] [11,19,20];obtain ⟨F265,D265⟩:=D266.fold (T_api_State.sh b242 p160.1) ⟨A245_0_0,c245_0_0,A245_0_1,c245_0_1,rfl⟩;have D267:=D265.dup 13 rfl (λ_ h=>h);have D269:=D267.dup 14 rfl (λ_ h=>h);have D271:=D269.dup 15 rfl (λ_ h=>h);have D274:=D271.cu [0,1,2,3,4,5,6,7,8,9,10,11,12,13,14,15,17,18] [16,19,20,21];obtain ⟨F273,D273⟩:=D274.fold (T_api_Point.sh b252 p160.2.1) ⟨A245_1_0,c245_1_0,A245_1_1,c245_1_1,A245_1_2,c245_1_2,rfl⟩;exact K4 (p160.2.2,p160.1,p160.2.1,F259,F265,b242,F273,b252) _ _ sA (D273.pk [0,1,2,3,4,5,6,7,8,9,10,16,17,18]) Y
      refine RB.alloc 17 rfl rfl rfl Tryz.zeroValue38 rfl ?_;intro b275 w275 hb275 m275 e275;have D277:=(D244.addBox hb275 e275 m275).nb;refine ⟨⟨blkRd (D277.get 4 rfl) 0 17,blkRd (D277.get 10 rfl) 0 12,blkRd (D277.get 12 rfl) 2 1⟩,?_⟩;have e278:=e160;refine RH.clV (m_fc_1_ok e278) 11 (by kernel_rfl) rfl rfl rfl rfl rfl (m_fc_1_sim (Z0:=D277.Z) e278 (T_api_State.relI (D277.get 5 rfl) (D277.get 6 rfl)) (T_api_Point.relI (D277.get 1 rfl) (D277.get 2 rfl) (D277.get 3 rfl)) :) ?_;rintro _ w278 ⟨A278_0_0,c278_0_0,A278_0_1,c278_0_1,A278_1_0,c278_1_0,A278_1_1,c278_1_1,A278_1_2,c278_1_2,rfl,Q278⟩;have D284:=D277.callZ Q278;refine ⟨_,rfl,⟨blkRd (D284.get 4 rfl) 0 17,blkRd (D284.get 10 rfl) 0 12,blkRd (D284.get 12 rfl) 2 1⟩,?_⟩;refine dq [12,13,14,15] ?_
      refine RH.sn 18 D284 13 O70 λw285 D286=>?_
      refine ⟨⟨blkRd (D286.get 4 rfl) 0 17,blkRd (D286.get 10 rfl) 0 12,blkRd (D286.get 12 rfl) 2 1⟩,?_⟩;refine RH.stF 19 (by kernel_rfl) rfl rfl O38 rfl rfl rfl rfl (by first|exact ones rfl|(simp [Value.oneCell'];done)) (D286.get 14 rfl) rfl ?_;intro w287 m287 x287;have D288:=D286.sn 14 x287 m287;refine ⟨⟨blkRd (D288.get 4 rfl) 0 17,blkRd (D288.get 10 rfl) 0 12,blkRd (D288.get 12 rfl) 2 1⟩,?_⟩;refine dq [20] ?_;refine RH.dn ?_;have D290:=D288.cu [0,1,2,3,4,5,6,7,8,9,10,13,14,15,16,17,18,19] [12,11];obtain ⟨F289,D289⟩:=D290.fold (T_convert_Converter.sh b0 x0) ⟨F152_0,b152_0,rfl⟩;have D291:=D289.dup 13 rfl (λ_ h=>h);have D293:=D291.dup 14 rfl (λ_ h=>h);have D296:=D293.cu [0,1,2,3,4,5,6,7,8,9,10,12,13,14,15,16,17,18] [11,19,20];obtain ⟨F295,D295⟩:=D296.fold (T_api_State.sh b242 p160.1) ⟨A278_0_0,c278_0_0,A278_0_1,c278_0_1,rfl⟩;have D297:=D295.dup 14 rfl (λ_ h=>h);have D299:=D297.dup 15 rfl (λ_ h=>h);have D301:=D299.dup 16 rfl (λ_ h=>h);have D304:=D301.cu [0,1,2,3,4,5,6,7,8,9,10,12,13,14,15,16,17,18] [11,19,20,21];obtain ⟨F303,D303⟩:=D304.fold (T_api_Point.sh b275 p160.2.1) ⟨A278_1_0,c278_1_0,A278_1_1,c278_1_1,A278_1_2,c278_1_2,rfl⟩;exact K4 (p160.2.2,p160.1,p160.2.1,F289,F295,b242,F303,b275) _ _ sA (D303.pk [0,1,2,3,4,5,6,7,8,9,10,16,17,18]) Y
     refine RB.alloc 17 rfl rfl rfl Tryz.zeroValue38 rfl ?_;intro b305 w305 hb305 m305 e305;have D307:=(D182.addBox hb305 e305 m305).nb;refine ⟨⟨blkRd (D307.get 4 rfl) 0 17,blkRd (D307.get 10 rfl) 0 12,blkRd (D307.get 12 rfl) 2 1⟩,?_⟩;refine RH.both 11 16 (by kernel_rfl) ?_ ?_
     ·have e308:=e160;refine RB.clV (m_fc_1_ok e308) 11 rfl rfl rfl rfl rfl (m_fc_1_sim (Z0:=D307.Z) e308 (T_api_State.relI (D307.get 5 rfl) (D307.get 6 rfl)) (T_api_Point.relI (D307.get 1 rfl) (D307.get 2 rfl) (D307.get 3 rfl)) :) ?_;rintro _ w308 ⟨A308_0_0,c308_0_0,A308_0_1,c308_0_1,A308_1_0,c308_1_0,A308_1_1,c308_1_1,A308_1_2,c308_1_2,rfl,Q308⟩;have D314:=D307.callZ Q308;refine ⟨_,rfl,⟨blkRd (D314.get 4 rfl) 0 17,blkRd (D314.get 10 rfl) 0 12,blkRd (D314.get 12 rfl) 2 1⟩,?_⟩;refine dq [12,13,14,15] ?_;refine RH.alloc 16 (by kernel_rfl) rfl rfl rfl Tryz.zeroValue70 rfl ?_;intro b315 w315 hb315 m315 e315;have D317:=(D314.addBox hb315 e315 m315).nb;refine ⟨⟨blkRd (D317.get 4 rfl) 0 17,blkRd (D317.get 10 rfl) 0 12,blkRd (D317.get 12 rfl) 2 1⟩,?_⟩
      refine RH.sn 18 D317 19 O70 λw318 D319=>?_
      refine ⟨⟨blkRd (D319.get 4 rfl) 0 17,blkRd (D319.get 10 rfl) 0 12,blkRd (D319.get 12 rfl) 2 1⟩,?_⟩;refine RH.stF 19 (by kernel_rfl) rfl rfl O38 rfl rfl rfl rfl (by first|exact ones rfl|(simp [Value.oneCell'];done)) (D319.get 13 rfl) rfl ?_;intro w320 m320 x320;have D321:=D319.sn 13 x320 m320;refine ⟨⟨blkRd (D321.get 4 rfl) 0 17,blkRd (D321.get 10 rfl) 0 12,blkRd (D321.get 12 rfl) 2 1⟩,?_⟩;refine dq [20] ?_;refine RH.dn ?_;have D323:=D321.cu [0,1,2,3,4,5,6,7,8,9,10,13,14,15,16,17,18,19] [12,11];obtain ⟨F322,D322⟩:=D323.fold (T_convert_Converter.sh b0 x0) ⟨F152_0,b152_0,rfl⟩;have D324:=D322.dup 12 rfl (λ_ h=>h);have D326:=D324.dup 13 rfl (λ_ h=>h);have D329:=D326.cu [0,1,2,3,4,5,6,7,8,9,10,11,12,13,14,15,16,18] [17,19,20];obtain ⟨F328,D328⟩:=D329.fold (T_api_State.sh b315 p160.1) ⟨A308_0_0,c308_0_0,A308_0_1,c308_0_1,rfl⟩;have D330:=D328.dup 14 rfl (λ_ h=>h);have D332:=D330.dup 15 rfl (λ_ h=>h);have D334:=D332.dup 16 rfl (λ_ h=>h);have D337:=D334.cu [0,1,2,3,4,5,6,7,8,9,10,12,13,14,15,16,17,18] [11,19,20,21];obtain ⟨F336,D336⟩:=D337.fold (T_api_Point.sh b305 p160.2.1) ⟨A308_1_0,c308_1_0,A308_1_1,c308_1_1,A308_1_2,c308_1_2,rfl⟩;exact K4 (p160.2.2,p160.1,p160.2.1,F322,F328,b315,F336,b305) _ _ sA (D336.pk [0,1,2,3,4,5,6,7,8,9,10,16,17,18]) Y
     refine RB.alloc 16 rfl rfl rfl Tryz.zeroValue70 rfl ?_;intro b338 w338 hb338 m338 e338;have D340:=(D307.addBox hb338 e338 m338).nb;refine ⟨⟨blkRd (D340.get 4 rfl) 0 17,blkRd (D340.get 10 rfl) 0 12,blkRd (D340.get 12 rfl) 2 1⟩,?_⟩;have e341:=e160;refine RH.clV (m_fc_1_ok e341) 11 (by kernel_rfl) rfl rfl rfl rfl rfl (m_fc_1_sim (Z0:=D340.Z) e341 (T_api_State.relI (D340.get 5 rfl) (D340.get 6 rfl)) (T_api_Point.relI (D340.get 1 rfl) (D340.get 2 rfl) (D340.get 3 rfl)) :) ?_;rintro _ w341 ⟨A341_0_0,c341_0_0,A341_0_1,c341_0_1,A341_1_0,c341_1_0,A341_1_1,c341_1_1,A341_1_2,c341_1_2,rfl,Q341⟩;have D347:=D340.callZ Q341;refine ⟨_,rfl,⟨blkRd (D347.get 4 rfl) 0 17,blkRd (D347.get 10 rfl) 0 12,blkRd (D347.get 12 rfl) 2 1⟩,?_⟩;refine dq [12,13,14,15] ?_
     refine RH.sn 18 D347 14 O70 λw348 D349=>?_
     refine ⟨⟨blkRd (D349.get 4 rfl) 0 17,blkRd (D349.get 10 rfl) 0 12,blkRd (D349.get 12 rfl) 2 1⟩,?_⟩;refine RH.stF 19 (by kernel_rfl) rfl rfl O38 rfl rfl rfl rfl (by first|exact ones rfl|(simp [Value.oneCell'];done)) (D349.get 13 rfl) rfl ?_;intro w350 m350 x350;have D351:=D349.sn 13 x350 m350;refine ⟨⟨blkRd (D351.get 4 rfl) 0 17,blkRd (D351.get 10 rfl) 0 12,blkRd (D351.get 12 rfl) 2 1⟩,?_⟩;refine dq [20] ?_;refine RH.dn ?_;have D353:=D351.cu [0,1,2,3,4,5,6,7,8,9,10,13,14,15,16,17,18,19] [12,11];obtain ⟨F352,D352⟩:=D353.fold (T_convert_Converter.sh b0 x0) ⟨F152_0,b152_0,rfl⟩;have D354:=D352.dup 13 rfl (λ_ h=>h);have D356:=D354.dup 14 rfl (λ_ h=>h);have D359:=D356.cu [0,1,2,3,4,5,6,7,8,9,10,11,13,14,15,16,17,18] [12,19,20];obtain ⟨F358,D358⟩:=D359.fold (T_api_State.sh b338 p160.1) ⟨A341_0_0,c341_0_0,A341_0_1,c341_0_1,rfl⟩;have D360:=D358.dup 14 rfl (λ_ h=>h);have D362:=D360.dup 15 rfl (λ_ h=>h);have D364:=D362.dup 16 rfl (λ_ h=>h);have D367:=D364.cu [0,1,2,3,4,5,6,7,8,9,10,12,13,14,15,16,17,18] [11,19,20,21];obtain ⟨F366,D366⟩:=D367.fold (T_api_Point.sh b305 p160.2.1) ⟨A341_1_0,c341_1_0,A341_1_1,c341_1_1,A341_1_2,c341_1_2,rfl⟩;exact K4 (p160.2.2,p160.1,p160.2.1,F352,F358,b338,F366,b305) _ _ sA (D366.pk [0,1,2,3,4,5,6,7,8,9,10,16,17,18]) Y
    ·refine RB.alloc 16 rfl rfl rfl Tryz.zeroValue70 rfl ?_;intro b368 w368 hb368 m368 e368;have D370:=(D152.addBox hb368 e368 m368).nb;refine ⟨⟨blkRd (D370.get 4 rfl) 0 17,blkRd (D370.get 10 rfl) 0 12,blkRd (D370.get 11 rfl) 2 1⟩,?_⟩;refine RH.both 2 17 (by kernel_rfl) ?_ ?_
     ·have e371:=e154;have D372:=D370.know (relR T_api_Point.rep [Str (y27.Name),.slice A28 (y27.Attrs).length c28,iv y27.Kind,iv y27.Temp,.bool (y27.Mono),iv y27.Start,iv y27.Time,iv y27.Int_,u64v y27.Re,u64v y27.Im,iv y27.Hist.Scale,u64v y27.Hist.Zero,iv y27.Hist.Pos.Offset,.slice A30 (y27.Hist.Pos.Counts).length c30,iv y27.Hist.Neg.Offset,.slice A32 (y27.Hist.Neg.Counts).length c32,iv y27.Flags] y27) (λ_ h=>h) (show T_api_Point.rep.rel _ _ _ _ from (T_api_Point.relI (D370.get 1 rfl) (D370.get 2 rfl) (D370.get 3 rfl)));have D374:=D372.cu [0,1,2,3,4,5,6,7,8,9,10,12,13] [11,14];refine RB.cl (cK func31) 2 rfl rfl rfl rfl (m_convert_Converter_road_s2_sim e371 D374.lend :) ?_;rintro _ w371 ⟨rfl,Q371⟩;have D376:=D374.callAZ Q371;refine ⟨_,rfl,⟨blkRd (D376.get 4 rfl) 0 17,blkRd (D376.get 10 rfl) 0 12,blkRd (D376.get 13 rfl) 2 1⟩,?_⟩;refine RH.both 11 17 (by kernel_rfl) ?_ ?_
      ·have e377:=e160;refine RB.clV (m_fc_1_ok e377) 11 rfl rfl rfl rfl rfl (m_fc_1_sim (Z0:=D376.Z) e377 (T_api_State.relI (D376.get 5 rfl) (D376.get 6 rfl)) (T_api_Point.relI (D376.get 1 rfl) (D376.get 2 rfl) (D376.get 3 rfl)) :) ?_;rintro _ w377 ⟨A377_0_0,c377_0_0,A377_0_1,c377_0_1,A377_1_0,c377_1_0,A377_1_1,c377_1_1,A377_1_2,c377_1_2,rfl,Q377⟩;have D383:=D376.callZ Q377;refine ⟨_,rfl,⟨blkRd (D383.get 4 rfl) 0 17,blkRd (D383.get 10 rfl) 0 12,blkRd (D383.get 13 rfl) 2 1⟩,?_⟩;refine dq [12,13,14,15] ?_;refine RH.alloc 17 (by kernel_rfl) rfl rfl rfl Tryz.zeroValue38 rfl ?_;intro b384 w384 hb384 m384 e384;have D386:=(D383.addBox hb384 e384 m384).nb;refine ⟨⟨blkRd (D386.get 4 rfl) 0 17,blkRd (D386.get 10 rfl) 0 12,blkRd (D386.get 13 rfl) 2 1⟩,?_⟩
       refine RH.sn 18 D386 12 O70 λw387 D388=>?_
       refine ⟨⟨blkRd (D388.get 4 rfl) 0 17,blkRd (D388.get 10 rfl) 0 12,blkRd (D388.get 13 rfl) 2 1⟩,?_⟩;refine RH.stF 19 (by kernel_rfl) rfl rfl O38 rfl rfl rfl rfl (by first|exact ones rfl|(simp [Value.oneCell'];done)) (D388.get 19 rfl) rfl ?_;intro w389 m389 x389;have D390:=D388.sn 19 x389 m389;refine ⟨⟨blkRd (D390.get 4 rfl) 0 17,blkRd (D390.get 10 rfl) 0 12,blkRd (D390.get 13 rfl) 2 1⟩,?_⟩;refine dq [20] ?_;refine RH.dn ?_;have D392:=D390.cu [0,1,2,3,4,5,6,7,8,9,10,12,14,15,16,17,18,19] [13,11];obtain ⟨F391,D391⟩:=D392.fold (T_convert_Converter.sh b0 x0) ⟨F152_0,b152_0,rfl⟩;have D393:=D391.dup 12 rfl (λ_ h=>h);have D395:=D393.dup 13 rfl (λ_ h=>h);have D398:=D395.cu [0,1,2,3,4,5,6,7,8,9,10,12,13,14,15,16,17,18] [11,19,20];obtain ⟨F397,D397⟩:=D398.fold (T_api_State.sh b368 p160.1) ⟨A377_0_0,c377_0_0,A377_0_1,c377_0_1,rfl⟩;have D399:=D397.dup 13 rfl (λ_ h=>h);have D401:=D399.dup 14 rfl (λ_ h=>h);have D403:=D401.dup 15 rfl (λ_ h=>h);have D406:=D403.cu [0,1,2,3,4,5,6,7,8,9,10,11,12,13,14,15,17,18] [16,19,20,21];obtain ⟨F405,D405⟩:=D406.fold (T_api_Point.sh b384 p160.2.1) ⟨A377_1_0,c377_1_0,A377_1_1,c377_1_1,A377_1_2,c377_1_2,rfl⟩;exact K4 (p160.2.2,p160.1,p160.2.1,F391,F397,b368,F405,b384) _ _ sA (D405.pk [0,1,2,3,4,5,6,7,8,9,10,16,17,18]) Y
      refine RB.alloc 17 rfl rfl rfl Tryz.zeroValue38 rfl ?_;intro b407 w407 hb407 m407 e407;have D409:=(D376.addBox hb407 e407 m407).nb;refine ⟨⟨blkRd (D409.get 4 rfl) 0 17,blkRd (D409.get 10 rfl) 0 12,blkRd (D409.get 13 rfl) 2 1⟩,?_⟩;have e410:=e160;refine RH.clV (m_fc_1_ok e410) 11 (by kernel_rfl) rfl rfl rfl rfl rfl (m_fc_1_sim (Z0:=D409.Z) e410 (T_api_State.relI (D409.get 5 rfl) (D409.get 6 rfl)) (T_api_Point.relI (D409.get 1 rfl) (D409.get 2 rfl) (D409.get 3 rfl)) :) ?_;rintro _ w410 ⟨A410_0_0,c410_0_0,A410_0_1,c410_0_1,A410_1_0,c410_1_0,A410_1_1,c410_1_1,A410_1_2,c410_1_2,rfl,Q410⟩;have D416:=D409.callZ Q410;refine ⟨_,rfl,⟨blkRd (D416.get 4 rfl) 0 17,blkRd (D416.get 10 rfl) 0 12,blkRd (D416.get 13 rfl) 2 1⟩,?_⟩;refine dq [12,13,14,15] ?_
      refine RH.sn 18 D416 12 O70 λw417 D418=>?_
      refine ⟨⟨blkRd (D418.get 4 rfl) 0 17,blkRd (D418.get 10 rfl) 0 12,blkRd (D418.get 13 rfl) 2 1⟩,?_⟩;refine RH.stF 19 (by kernel_rfl) rfl rfl O38 rfl rfl rfl rfl (by first|exact ones rfl|(simp [Value.oneCell'];done)) (D418.get 14 rfl) rfl ?_;intro w419 m419 x419;have D420:=D418.sn 14 x419 m419;refine ⟨⟨blkRd (D420.get 4 rfl) 0 17,blkRd (D420.get 10 rfl) 0 12,blkRd (D420.get 13 rfl) 2 1⟩,?_⟩;refine dq [20] ?_;refine RH.dn ?_;have D422:=D420.cu [0,1,2,3,4,5,6,7,8,9,10,12,14,15,16,17,18,19] [13,11];obtain ⟨F421,D421⟩:=D422.fold (T_convert_Converter.sh b0 x0) ⟨F152_0,b152_0,rfl⟩;have D423:=D421.dup 13 rfl (λ_ h=>h);have D425:=D423.dup 14 rfl (λ_ h=>h);have D428:=D425.cu [0,1,2,3,4,5,6,7,8,9,10,12,13,14,15,16,17,18] [11,19,20];obtain ⟨F427,D427⟩:=D428.fold (T_api_State.sh b368 p160.1) ⟨A410_0_0,c410_0_0,A410_0_1,c410_0_1,rfl⟩;have D429:=D427.dup 14 rfl (λ_ h=>h);have D431:=D429.dup 15 rfl (λ_ h=>h);have D433:=D431.dup 16 rfl (λ_ h=>h);have D436:=D433.cu [0,1,2,3,4,5,6,7,8,9,10,12,13,14,15,16,17,18] [11,19,20,21];obtain ⟨F435,D435⟩:=D436.fold (T_api_Point.sh b407 p160.2.1) ⟨A410_1_0,c410_1_0,A410_1_1,c410_1_1,A410_1_2,c410_1_2,rfl⟩;exact K4 (p160.2.2,p160.1,p160.2.1,F421,F427,b368,F435,b407) _ _ sA (D435.pk [0,1,2,3,4,5,6,7,8,9,10,16,17,18]) Y
     refine RB.alloc 17 rfl rfl rfl Tryz.zeroValue38 rfl ?_;intro b437 w437 hb437 m437 e437;have D439:=(D370.addBox hb437 e437 m437).nb;refine ⟨⟨blkRd (D439.get 4 rfl) 0 17,blkRd (D439.get 10 rfl) 0 12,blkRd (D439.get 11 rfl) 2 1⟩,?_⟩;have e440:=e154;have D441:=D439.know (relR T_api_Point.rep [Str (y27.Name),.slice A28 (y27.Attrs).length c28,iv y27.Kind,iv y27.Temp,.bool (y27.Mono),iv y27.Start,iv y27.Time,iv y27.Int_,u64v y27.Re,u64v y27.Im,iv y27.Hist.Scale,u64v y27.Hist.Zero,iv y27.Hist.Pos.Offset,.slice A30 (y27.Hist.Pos.Counts).length c30,iv y27.Hist.Neg.Offset,.slice A32 (y27.Hist.Neg.Counts).length c32,iv y27.Flags] y27) (λ_ h=>h) (show T_api_Point.rep.rel _ _ _ _ from (T_api_Point.relI (D439.get 1 rfl) (D439.get 2 rfl) (D439.get 3 rfl)));have D443:=D441.cu [0,1,2,3,4,5,6,7,8,9,10,12,13,14] [11,15];refine RH.cq (cK func31) 2 (m_convert_Converter_road_s2_sim e440 D443.lend :) ?_;rintro _ w440 ⟨rfl,Q440⟩;have D445:=D443.callAZ Q440;refine ⟨_,rfl,⟨blkRd (D445.get 4 rfl) 0 17,blkRd (D445.get 10 rfl) 0 12,blkRd (D445.get 14 rfl) 2 1⟩,?_⟩;have e446:=e160;refine RH.clV (m_fc_1_ok e446) 11 (by kernel_rfl) rfl rfl rfl rfl rfl (m_fc_1_sim (Z0:=D445.Z) e446 (T_api_State.relI (D445.get 5 rfl) (D445.get 6 rfl)) (T_api_Point.relI (D445.get 1 rfl) (D445.get 2 rfl) (D445.get 3 rfl)) :) ?_;rintro _ w446 ⟨A446_0_0,c446_0_0,A446_0_1,c446_0_1,A446_1_0,c446_1_0,A446_1_1,c446_1_1,A446_1_2,c446_1_2,rfl,Q446⟩;have D452:=D445.callZ Q446;refine ⟨_,rfl,⟨blkRd (D452.get 4 rfl) 0 17,blkRd (D452.get 10 rfl) 0 12,blkRd (D452.get 14 rfl) 2 1⟩,?_⟩;refine dq [12,13,14,15] ?_
     refine RH.sn 18 D452 12 O70 λw453 D454=>?_
     refine ⟨⟨blkRd (D454.get 4 rfl) 0 17,blkRd (D454.get 10 rfl) 0 12,blkRd (D454.get 14 rfl) 2 1⟩,?_⟩;refine RH.stF 19 (by kernel_rfl) rfl rfl O38 rfl rfl rfl rfl (by first|exact ones rfl|(simp [Value.oneCell'];done)) (D454.get 13 rfl) rfl ?_;intro w455 m455 x455;have D456:=D454.sn 13 x455 m455;refine ⟨⟨blkRd (D456.get 4 rfl) 0 17,blkRd (D456.get 10 rfl) 0 12,blkRd (D456.get 14 rfl) 2 1⟩,?_⟩;refine dq [20] ?_;refine RH.dn ?_;have D458:=D456.cu [0,1,2,3,4,5,6,7,8,9,10,12,13,15,16,17,18,19] [14,11];obtain ⟨F457,D457⟩:=D458.fold (T_convert_Converter.sh b0 x0) ⟨F152_0,b152_0,rfl⟩;have D459:=D457.dup 13 rfl (λ_ h=>h);have D461:=D459.dup 14 rfl (λ_ h=>h);have D464:=D461.cu [0,1,2,3,4,5,6,7,8,9,10,12,13,14,15,16,17,18] [11,19,20];obtain ⟨F463,D463⟩:=D464.fold (T_api_State.sh b368 p160.1) ⟨A446_0_0,c446_0_0,A446_0_1,c446_0_1,rfl⟩;have D465:=D463.dup 14 rfl (λ_ h=>h);have D467:=D465.dup 15 rfl (λ_ h=>h);have D469:=D467.dup 16 rfl (λ_ h=>h);have D472:=D469.cu [0,1,2,3,4,5,6,7,8,9,10,12,13,14,15,16,17,18] [11,19,20,21];obtain ⟨F471,D471⟩:=D472.fold (T_api_Point.sh b437 p160.2.1) ⟨A446_1_0,c446_1_0,A446_1_1,c446_1_1,A446_1_2,c446_1_2,rfl⟩;exact K4 (p160.2.2,p160.1,p160.2.1,F457,F463,b368,F471,b437) _ _ sA (D471.pk [0,1,2,3,4,5,6,7,8,9,10,16,17,18]) Y
    refine RB.alloc 17 rfl rfl rfl Tryz.zeroValue38 rfl ?_;intro b473 w473 hb473 m473 e473;have D475:=(D152.addBox hb473 e473 m473).nb;refine ⟨⟨blkRd (D475.get 4 rfl) 0 17,blkRd (D475.get 10 rfl) 0 12,blkRd (D475.get 11 rfl) 2 1⟩,?_⟩;refine RH.both 2 16 (by kernel_rfl) ?_ ?_
    ·have e476:=e154;have D477:=D475.know (relR T_api_Point.rep [Str (y27.Name),.slice A28 (y27.Attrs).length c28,iv y27.Kind,iv y27.Temp,.bool (y27.Mono),iv y27.Start,iv y27.Time,iv y27.Int_,u64v y27.Re,u64v y27.Im,iv y27.Hist.Scale,u64v y27.Hist.Zero,iv y27.Hist.Pos.Offset,.slice A30 (y27.Hist.Pos.Counts).length c30,iv y27.Hist.Neg.Offset,.slice A32 (y27.Hist.Neg.Counts).length c32,iv y27.Flags] y27) (λ_ h=>h) (show T_api_Point.rep.rel _ _ _ _ from (T_api_Point.relI (D475.get 1 rfl) (D475.get 2 rfl) (D475.get 3 rfl)));have D479:=D477.cu [0,1,2,3,4,5,6,7,8,9,10,12,13] [11,14];refine RB.cl (cK func31) 2 rfl rfl rfl rfl (m_convert_Converter_road_s2_sim e476 D479.lend :) ?_;rintro _ w476 ⟨rfl,Q476⟩;have D481:=D479.callAZ Q476;refine ⟨_,rfl,⟨blkRd (D481.get 4 rfl) 0 17,blkRd (D481.get 10 rfl) 0 12,blkRd (D481.get 13 rfl) 2 1⟩,?_⟩;refine RH.both 11 16 (by kernel_rfl) ?_ ?_
     ·have e482:=e160;refine RB.clV (m_fc_1_ok e482) 11 rfl rfl rfl rfl rfl (m_fc_1_sim (Z0:=D481.Z) e482 (T_api_State.relI (D481.get 5 rfl) (D481.get 6 rfl)) (T_api_Point.relI (D481.get 1 rfl) (D481.get 2 rfl) (D481.get 3 rfl)) :) ?_;rintro _ w482 ⟨A482_0_0,c482_0_0,A482_0_1,c482_0_1,A482_1_0,c482_1_0,A482_1_1,c482_1_1,A482_1_2,c482_1_2,rfl,Q482⟩;have D488:=D481.callZ Q482;refine ⟨_,rfl,⟨blkRd (D488.get 4 rfl) 0 17,blkRd (D488.get 10 rfl) 0 12,blkRd (D488.get 13 rfl) 2 1⟩,?_⟩;refine dq [12,13,14,15] ?_;refine RH.alloc 16 (by kernel_rfl) rfl rfl rfl Tryz.zeroValue70 rfl ?_;intro b489 w489 hb489 m489 e489;have D491:=(D488.addBox hb489 e489 m489).nb;refine ⟨⟨blkRd (D491.get 4 rfl) 0 17,blkRd (D491.get 10 rfl) 0 12,blkRd (D491.get 13 rfl) 2 1⟩,?_⟩
      refine RH.sn 18 D491 19 O70 λw492 D493=>?_
      refine ⟨⟨blkRd (D493.get 4 rfl) 0 17,blkRd (D493.get 10 rfl) 0 12,blkRd (D493.get 13 rfl) 2 1⟩,?_⟩;refine RH.stF 19 (by kernel_rfl) rfl rfl O38 rfl rfl rfl rfl (by first|exact ones rfl|(simp [Value.oneCell'];done)) (D493.get 12 rfl) rfl ?_;intro w494 m494 x494;have D495:=D493.sn 12 x494 m494;refine ⟨⟨blkRd (D495.get 4 rfl) 0 17,blkRd (D495.get 10 rfl) 0 12,blkRd (D495.get 13 rfl) 2 1⟩,?_⟩;refine dq [20] ?_;refine RH.dn ?_;have D497:=D495.cu [0,1,2,3,4,5,6,7,8,9,10,12,14,15,16,17,18,19] [13,11];obtain ⟨F496,D496⟩:=D497.fold (T_convert_Converter.sh b0 x0) ⟨F152_0,b152_0,rfl⟩;have D498:=D496.dup 12 rfl (λ_ h=>h);have D500:=D498.dup 13 rfl (λ_ h=>h);have D503:=D500.cu [0,1,2,3,4,5,6,7,8,9,10,11,12,13,14,15,16,18] [17,19,20];obtain ⟨F502,D502⟩:=D503.fold (T_api_State.sh b489 p160.1) ⟨A482_0_0,c482_0_0,A482_0_1,c482_0_1,rfl⟩;have D504:=D502.dup 14 rfl (λ_ h=>h);have D506:=D504.dup 15 rfl (λ_ h=>h);have D508:=D506.dup 16 rfl (λ_ h=>h);have D511:=D508.cu [0,1,2,3,4,5,6,7,8,9,10,12,13,14,15,16,17,18] [11,19,20,21];obtain ⟨F510,D510⟩:=D511.fold (T_api_Point.sh b473 p160.2.1) ⟨A482_1_0,c482_1_0,A482_1_1,c482_1_1,A482_1_2,c482_1_2,rfl⟩;exact K4 (p160.2.2,p160.1,p160.2.1,F496,F502,b489,F510,b473) _ _ sA (D510.pk [0,1,2,3,4,5,6,7,8,9,10,16,17,18]) Y
     refine RB.alloc 16 rfl rfl rfl Tryz.zeroValue70 rfl ?_;intro b512 w512 hb512 m512 e512;have D514:=(D481.addBox hb512 e512 m512).nb;refine ⟨⟨blkRd (D514.get 4 rfl) 0 17,blkRd (D514.get 10 rfl) 0 12,blkRd (D514.get 13 rfl) 2 1⟩,?_⟩;have e515:=e160;refine RH.clV (m_fc_1_ok e515) 11 (by kernel_rfl) rfl rfl rfl rfl rfl (m_fc_1_sim (Z0:=D514.Z) e515 (T_api_State.relI (D514.get 5 rfl) (D514.get 6 rfl)) (T_api_Point.relI (D514.get 1 rfl) (D514.get 2 rfl) (D514.get 3 rfl)) :) ?_;rintro _ w515 ⟨A515_0_0,c515_0_0,A515_0_1,c515_0_1,A515_1_0,c515_1_0,A515_1_1,c515_1_1,A515_1_2,c515_1_2,rfl,Q515⟩;have D521:=D514.callZ Q515;refine ⟨_,rfl,⟨blkRd (D521.get 4 rfl) 0 17,blkRd (D521.get 10 rfl) 0 12,blkRd (D521.get 13 rfl) 2 1⟩,?_⟩;refine dq [12,13,14,15] ?_
     refine RH.sn 18 D521 14 O70 λw522 D523=>?_
     refine ⟨⟨blkRd (D523.get 4 rfl) 0 17,blkRd (D523.get 10 rfl) 0 12,blkRd (D523.get 13 rfl) 2 1⟩,?_⟩;refine RH.stF 19 (by kernel_rfl) rfl rfl O38 rfl rfl rfl rfl (by first|exact ones rfl|(simp [Value.oneCell'];done)) (D523.get 12 rfl) rfl ?_;intro w524 m524 x524;have D525:=D523.sn 12 x524 m524;refine ⟨⟨blkRd (D525.get 4 rfl) 0 17,blkRd (D525.get 10 rfl) 0 12,blkRd (D525.get 13 rfl) 2 1⟩,?_⟩;refine dq [20] ?_;refine RH.dn ?_;have D527:=D525.cu [0,1,2,3,4,5,6,7,8,9,10,12,14,15,16,17,18,19] [13,11];obtain ⟨F526,D526⟩:=D527.fold (T_convert_Converter.sh b0 x0) ⟨F152_0,b152_0,rfl⟩;have D528:=D526.dup 13 rfl (λ_ h=>h);have D530:=D528.dup 14 rfl (λ_ h=>h);have D533:=D530.cu [0,1,2,3,4,5,6,7,8,9,10,11,13,14,15,16,17,18] [12,19,20];obtain ⟨F532,D532⟩:=D533.fold (T_api_State.sh b512 p160.1) ⟨A515_0_0,c515_0_0,A515_0_1,c515_0_1,rfl⟩;have D534:=D532.dup 14 rfl (λ_ h=>h);have D536:=D534.dup 15 rfl (λ_ h=>h);have D538:=D536.dup 16 rfl (λ_ h=>h);have D541:=D538.cu [0,1,2,3,4,5,6,7,8,9,10,12,13,14,15,16,17,18] [11,19,20,21];obtain ⟨F540,D540⟩:=D541.fold (T_api_Point.sh b473 p160.2.1) ⟨A515_1_0,c515_1_0,A515_1_1,c515_1_1,A515_1_2,c515_1_2,rfl⟩;exact K4 (p160.2.2,p160.1,p160.2.1,F526,F532,b512,F540,b473) _ _ sA (D540.pk [0,1,2,3,4,5,6,7,8,9,10,16,17,18]) Y
    refine RB.alloc 16 rfl rfl rfl Tryz.zeroValue70 rfl ?_;intro b542 w542 hb542 m542 e542;have D544:=(D475.addBox hb542 e542 m542).nb;refine ⟨⟨blkRd (D544.get 4 rfl) 0 17,blkRd (D544.get 10 rfl) 0 12,blkRd (D544.get 11 rfl) 2 1⟩,?_⟩;have e545:=e154;have D546:=D544.know (relR T_api_Point.rep [Str (y27.Name),.slice A28 (y27.Attrs).length c28,iv y27.Kind,iv y27.Temp,.bool (y27.Mono),iv y27.Start,iv y27.Time,iv y27.Int_,u64v y27.Re,u64v y27.Im,iv y27.Hist.Scale,u64v y27.Hist.Zero,iv y27.Hist.Pos.Offset,.slice A30 (y27.Hist.Pos.Counts).length c30,iv y27.Hist.Neg.Offset,.slice A32 (y27.Hist.Neg.Counts).length c32,iv y27.Flags] y27) (λ_ h=>h) (show T_api_Point.rep.rel _ _ _ _ from (T_api_Point.relI (D544.get 1 rfl) (D544.get 2 rfl) (D544.get 3 rfl)));have D548:=D546.cu [0,1,2,3,4,5,6,7,8,9,10,12,13,14] [11,15];refine RH.cq (cK func31) 2 (m_convert_Converter_road_s2_sim e545 D548.lend :) ?_;rintro _ w545 ⟨rfl,Q545⟩;have D550:=D548.callAZ Q545;refine ⟨_,rfl,⟨blkRd (D550.get 4 rfl) 0 17,blkRd (D550.get 10 rfl) 0 12,blkRd (D550.get 14 rfl) 2 1⟩,?_⟩;have e551:=e160;refine RH.clV (m_fc_1_ok e551) 11 (by kernel_rfl) rfl rfl rfl rfl rfl (m_fc_1_sim (Z0:=D550.Z) e551 (T_api_State.relI (D550.get 5 rfl) (D550.get 6 rfl)) (T_api_Point.relI (D550.get 1 rfl) (D550.get 2 rfl) (D550.get 3 rfl)) :) ?_;rintro _ w551 ⟨A551_0_0,c551_0_0,A551_0_1,c551_0_1,A551_1_0,c551_1_0,A551_1_1,c551_1_1,A551_1_2,c551_1_2,rfl,Q551⟩;have D557:=D550.callZ Q551;refine ⟨_,rfl,⟨blkRd (D557.get 4 rfl) 0 17,blkRd (D557.get 10 rfl) 0 12,blkRd (D557.get 14 rfl) 2 1⟩,?_⟩;refine dq [12,13,14,15] ?_
    refine RH.sn 18 D557 13 O70 λw558 D559=>?_
    refine ⟨⟨blkRd (D559.get 4 rfl) 0 17,blkRd (D559.get 10 rfl) 0 12,blkRd (D559.get 14 rfl) 2 1⟩,?_⟩;refine RH.stF 19 (by kernel_rfl) rfl rfl O38 rfl rfl rfl rfl (by first|exact ones rfl|(simp [Value.oneCell'];done)) (D559.get 12 rfl) rfl ?_;intro w560 m560 x560;have D561:=D559.sn 12 x560 m560;refine ⟨⟨blkRd (D561.get 4 rfl) 0 17,blkRd (D561.get 10 rfl) 0 12,blkRd (D561.get 14 rfl) 2 1⟩,?_⟩;refine dq [20] ?_;refine RH.dn ?_;have D563:=D561.cu [0,1,2,3,4,5,6,7,8,9,10,12,13,15,16,17,18,19] [14,11];obtain ⟨F562,D562⟩:=D563.fold (T_convert_Converter.sh b0 x0) ⟨F152_0,b152_0,rfl⟩;have D564:=D562.dup 13 rfl (λ_ h=>h);have D566:=D564.dup 14 rfl (λ_ h=>h);have D569:=D566.cu [0,1,2,3,4,5,6,7,8,9,10,11,13,14,15,16,17,18] [12,19,20];obtain ⟨F568,D568⟩:=D569.fold (T_api_State.sh b542 p160.1) ⟨A551_0_0,c551_0_0,A551_0_1,c551_0_1,rfl⟩;have D570:=D568.dup 14 rfl (λ_ h=>h);have D572:=D570.dup 15 rfl (λ_ h=>h);have D574:=D572.dup 16 rfl (λ_ h=>h);have D577:=D574.cu [0,1,2,3,4,5,6,7,8,9,10,12,13,14,15,16,17,18] [11,19,20,21];obtain ⟨F576,D576⟩:=D577.fold (T_api_Point.sh b473 p160.2.1) ⟨A551_1_0,c551_1_0,A551_1_1,c551_1_1,A551_1_2,c551_1_2,rfl⟩;exact K4 (p160.2.2,p160.1,p160.2.1,F562,F568,b542,F576,b473) _ _ sA (D576.pk [0,1,2,3,4,5,6,7,8,9,10,16,17,18]) Y
   intro j3 Y K3;refine askS Y (Rn.part (t:=58) rfl) (λh578 Y=>?_) (λh578 Y=>?_)
   ·refine gg 3 rfl ?_;obtain ⟨_,⟨F579_0,b579_0,rfl⟩,D579⟩:=D64.unf 14 rfl;replace D579:=D579.nq;refine Rn.q rfl (V.ldB V67 rfl (D579.get 14 rfl) rfl) ?_;obtain ⟨p581,e581,Y⟩:=bindE Y
    refine Rn.c0 (cK func30) (m_table_Table_convert_kept_Room_sim (Z0:=All) e581 (fz_all (D579.get 15 rfl)) :) D579 λw581 _ D582=>?_
    replace D582:=D582.nq;refine gg 2 rfl ?_;have D584:=D582.cu [0,1,2,3,4,5,6,7,8,9,10,11,12,13] [14,15];obtain ⟨F583,D583⟩:=D584.fold (T_convert_Converter.sh b0 x0) ⟨F579_0,b579_0,rfl⟩;exact K3 ((decide (p581=0)),F583) _ _ sA (D583.pk [3,4,5,6,7,8,9,10,11,12,13,14]) Y
   refine gg 7 rfl ?_;exact K3 (false,F64) _ _ sA (D64.pk [3,4,5,6,7,8,9,10,11,12,13,14]) Y
  intro j2 Y K2;refine aD Y (λh585 Y=>?_) (λh585 Y=>?_)
  ·refine Rn.drawX rfl D22 ?_;intro w586 D586;refine dq [0,2,3,4,5] ?_;obtain ⟨_,⟨F587_0,b587_0,rfl⟩,D587⟩:=D586.unf 0 rfl;replace D587:=D587.nq;refine RH.two 1 6 (by kernel_rfl) rfl rfl rfl rfl (V.ldBA [_,_,_,_,_,_] V36 O36 rfl (D587.get 3 rfl) rfl rfl) rfl rfl rfl rfl (V.ldB V3 rfl (D587.get 5 rfl) rfl) ?_ ?_
   ·refine RH.ho 6 rfl (V.ldB V3 rfl (D587.get 5 rfl) rfl) ?_;obtain ⟨p590,e590,Y⟩:=bindE Y;refine RH.cq (cK func28) 7 (m_hist_Fit_sim (Z0:=All) e590 (T_api_Hist.relA (D587.get 1 rfl) (D587.get 2 rfl)) :) ?_;rintro _ w590 ⟨A590_0_0,c590_0_0,A590_0_1,c590_0_1,rfl,Q590⟩;refine ⟨_,rfl,trivial,?_⟩;have D593:=D587.callF (flC (ownR_flat w64_flat _ _ _ _) (flC (ownR_flat w64_flat _ _ _ _) fl0)) Q590;refine dq [8,9,10,11] ?_
    refine RH.sn 12 D593 3 O36 λw594 D595=>?_
    refine ⟨trivial,?_⟩;refine dq [13] ?_;refine RH.dn ?_;have D597:=D595.cu [0,1,2,3,4,7,8] [5,6];obtain ⟨F596,D596⟩:=D597.fold (T_convert_Converter.sh b0 x0) ⟨F587_0,b587_0,rfl⟩;have D599:=D596.freeze 5 rfl;have D601:=D599.freeze 6 rfl;have D602:=D601.dup 0 rfl (λ_ h=>h);exact K2 (p590.2,(⟨x1.Name,x1.Attrs,x1.Kind,x1.Temp,x1.Mono,x1.Start,x1.Time,x1.Int_,x1.Re,x1.Im,p590.1,x1.Flags⟩:T_api_Point),F596,Ar2,cr2,A590_0_0,c590_0_0,A590_0_1,c590_0_1) _ _ sA (D602.pk [7,0,1,2,4,8,5,6,3]) Y
   refine RH.ho 1 rfl (V.ldBA [_,_,_,_,_,_] V36 O36 rfl (D587.get 3 rfl) rfl rfl) ?_;obtain ⟨p604,e604,Y⟩:=bindE Y;refine RH.cq (cK func28) 7 (m_hist_Fit_sim (Z0:=All) e604 (T_api_Hist.relA (D587.get 1 rfl) (D587.get 2 rfl)) :) ?_;rintro _ w604 ⟨A604_0_0,c604_0_0,A604_0_1,c604_0_1,rfl,Q604⟩;refine ⟨_,rfl,trivial,?_⟩;have D607:=D587.callF (flC (ownR_flat w64_flat _ _ _ _) (flC (ownR_flat w64_flat _ _ _ _) fl0)) Q604;refine dq [8,9,10,11] ?_
   refine RH.sn 12 D607 3 O36 λw608 D609=>?_
   refine ⟨trivial,?_⟩;refine dq [13] ?_;refine RH.dn ?_;have D611:=D609.cu [0,1,2,3,4,7,8] [5,6];obtain ⟨F610,D610⟩:=D611.fold (T_convert_Converter.sh b0 x0) ⟨F587_0,b587_0,rfl⟩;have D613:=D610.freeze 5 rfl;have D615:=D613.freeze 6 rfl;have D616:=D615.dup 0 rfl (λ_ h=>h);exact K2 (p604.2,(⟨x1.Name,x1.Attrs,x1.Kind,x1.Temp,x1.Mono,x1.Start,x1.Time,x1.Int_,x1.Re,x1.Im,p604.1,x1.Flags⟩:T_api_Point),F610,Ar2,cr2,A604_0_0,c604_0_0,A604_0_1,c604_0_1) _ _ sA (D616.pk [7,0,1,2,4,8,5,6,3]) Y
  refine gg 1 rfl ?_;have D618:=D22.dup 1 rfl (λ_ h=>h);have D620:=D618.dup 2 rfl (λ_ h=>h);have D622:=D620.dup 3 rfl (λ_ h=>h);exact K2 (y21,x1,F20,Ar2,cr2,Ar4,cr4,Ar6,cr6) _ _ sA (D622.pk [0,1,2,3,5,6,7,8,4]) Y
 intro j1 Y K1;refine bD Y 3 1 (λh624 Y=>?_) (λh624 Y=>?_)
 ·exact K1 (3,F0) _ _ sA (D17.pk [0,2,3,4,5,6]) Y
 exact K1 (p16.2,F0) _ _ sA (D17.pk [0,2,3,4,5,6]) Y
theorem m_table_Table_convert_kept_Len_sim {x0:T_table_Table_convert_kept_} {r:Int} (Y:m_table_Table_convert_kept_Len x0=some r) (f0:(fzR (T_table_Table_convert_kept_.obj F0 b0 x0)).H Z0 w) :
 Calls prog 45 #[pt b0 0] w λx w'=>x=.returned (iv r)∧Hp Z0 No w w' []:=by
 obtain ⟨D0,D2,hc0⟩:=knA f0;refine eg func45 9 ?_;obtain ⟨_,⟨m3_0,rfl⟩,D3⟩:=D2.unfz 0 rfl;replace D3:=D3.nq;refine Rn.q rfl (V.ldB V130 rfl (D3.getz 1 rfl) rfl) (Rn.q rfl (V.lenMH U130 rfl (D3.getz 2 rfl)) (gg 2 rfl ?_))
 cases Y
 exact Rn.R1 func45 ⟨rfl,D3.pk []⟩
theorem m_convert_Converter_Len_sim {x0:T_convert_Converter} {r:Int} (Y:m_convert_Converter_Len x0=some r) (f0:(fzR (T_convert_Converter.obj F0 b0 x0)).H Z0 w) :
 Calls prog 17 #[pt b0 0] w λx w'=>x=.returned (iv r)∧Hp Z0 No w w' []:=by
 obtain ⟨D0,D2,hc0⟩:=knA f0;refine eg func17 9 ?_;obtain ⟨_,⟨F3_0,b3_0,rfl⟩,D3⟩:=D2.unfz 0 rfl;replace D3:=D3.nq;refine Rn.q rfl (V.ldB V67 rfl (D3.getz 1 rfl) rfl) ?_;obtain ⟨p6,e6,Y⟩:=bindE Y
 refine Rn.c0 (cK func45) (m_table_Table_convert_kept_Len_sim (Z0:=All) e6 (fz_fz (D3.get 2 rfl)) :) D3 λw6 _ D7=>?_
 refine gg 2 rfl ?_
 cases Y
 exact Rn.R1 func17 ⟨rfl,D7.pk []⟩
theorem m_limnographlaw17_awake_sim  {r:Bool} (Y:m_limnographlaw17_awake  = some r)  :
 Calls prog 8 #[] w λx w'=>x=.returned (.bool (r))∧Hp Z0 No w w' []:=by
 have D0:=Hp.nil Z0 No w;have hc0:=Calm.nil;refine eg func8 6 ?_;refine Rn.q rfl (V.bldS (cs:=[_,_,_,_,_,_,_]) st23 rfl rfl) ?_;obtain ⟨p1,e1,Y⟩:=bindE Y
 refine Rn.c2 (cK func10) (m_convert_New_sim (Z0:=D0.Z) e1  :) λF1_0 b1_0 w1 Q1=>?_
 have D3:=D0.callZ Q1;refine gg 6 rfl (Rn.q rfl (V.eqlO U27 rfl rfl) (gg 1 rfl ?_));refine Rn.jR D0 Y (G:=Bool×(Nat→Prop)) [] (λg=>[(1,.pointer (optP b1_0 p1)),(17,.bool ((g.1)))]) (λg=>[optR p1 (λz=>T_convert_Converter.obj (g.2) b1_0 z)]) (λj g=>j g.1) ?_ ?_
 ·rintro ⟨y5,F4⟩ w6 D6 Y
  try dsimp only at Y
  refine gg 1 rfl ?_;refine bS Y 4 3 (λh7 Y=>?_) (λh7 Y=>?_)
  ·cases Y
   exact Rn.R1 func8 ⟨rfl,D6.pk []⟩
  refine Rn.q rfl (V.bldS (cs:=[_,_,_,_,_,_,_,_,_,_,_,_,_,_,_,_,_]) st38 rfl rfl) (Rn.als rfl rfl rfl Tryz.zeroValue38 rfl O38 rfl rfl rfl rfl (by first|exact ones rfl|(simp [Value.oneCell'];done)) ?_);intro b8 w8 hb8 m8 e8;have D10:=(D6.addBox hb8 e8 m8).nb;refine gg 4 rfl (Rn.q rfl (V.ldBA [_,_,_,_,_,_,_,_,_,_,_,_,_,_,_,_,_] V38 O38 rfl (D10.get 1 rfl) rfl rfl) ?_);obtain ⟨z12,e12,Y⟩:=bindE Y;have D13:=D10.optSome 0 rfl e12;refine Rn.say (t:=20) (pt b1_0 0) rfl (by rw [e12];rfl) ?_;obtain ⟨p11,e11,Y⟩:=bindE Y;have D14:=D13.know (relR T_api_Point.rep [Str (([120]:List UInt8)),.slice none 0 0,iv 3,iv 0,.bool false,iv 10,iv 10,iv 0,u64v (0:UInt64),u64v (0:UInt64),iv 0,u64v (0:UInt64),iv 0,.slice none 0 0,iv 0,.slice none 0 0,iv 0] (⟨([120]:List UInt8),[],3,0,false,10,10,0,(0:UInt64),(0:UInt64),(⟨0,(0:UInt64),(⟨0,[]⟩:T_api_Side),(⟨0,[]⟩:T_api_Side)⟩:T_api_Hist),0⟩:T_api_Point)) (λ_ h=>h) (show T_api_Point.rep.rel _ _ _ _ from (T_api_Point.relI (slR_nil _ _) (slR_nil _ _) (slR_nil _ _)));have D16:=D14.cu [1] [0,2];refine Rn.cq (cK func12) (m_convert_Converter_Take_sim e11 D16.lend :) ?_;rintro _ w11 ⟨A11_0_0,c11_0_0,A11_0_1,c11_0_1,A11_0_2,c11_0_2,F11_p0,rfl,Q11⟩;refine ⟨_,rfl,?_⟩;have D21:=D16.callAZ Q11;refine gg 3 rfl (Rn.als rfl rfl rfl Tryz.zeroValue38 rfl O38 rfl rfl rfl rfl (by first|exact ones rfl|(simp [Value.oneCell'];done)) ?_);intro b22 w22 hb22 m22 e22;have D24:=(D21.addBox hb22 e22 m22).nb;refine gg 5 rfl (Rn.q rfl (V.ldBA [_,_,_,_,_,_,_,_,_,_,_,_,_,_,_,_,_] V38 O38 rfl (D24.get 0 rfl) rfl rfl) ?_);refine Rn.say (t:=26) (pt b1_0 0) rfl (by rw [e12];rfl) ?_;obtain ⟨p25,e25,Y⟩:=bindE Y;have D26:=D24.know (relR T_api_Point.rep [Str (([120]:List UInt8)),.slice none 0 0,iv 3,iv 0,.bool false,iv 10,iv 10,iv 0,u64v (0:UInt64),u64v (0:UInt64),iv 0,u64v (0:UInt64),iv 0,.slice none 0 0,iv 0,.slice none 0 0,iv 0] (⟨([120]:List UInt8),[],3,0,false,10,10,0,(0:UInt64),(0:UInt64),(⟨0,(0:UInt64),(⟨0,[]⟩:T_api_Side),(⟨0,[]⟩:T_api_Side)⟩:T_api_Hist),0⟩:T_api_Point)) (λ_ h=>h) (show T_api_Point.rep.rel _ _ _ _ from (T_api_Point.relI (slR_nil _ _) (slR_nil _ _) (slR_nil _ _)));have D28:=D26.cu [0,1,2,3,5] [4,6];refine Rn.cq (cK func12) (m_convert_Converter_Take_sim e25 D28.lend :) ?_;rintro _ w25 ⟨A25_0_0,c25_0_0,A25_0_1,c25_0_1,A25_0_2,c25_0_2,F25_p0,rfl,Q25⟩;refine ⟨_,rfl,?_⟩;have D33:=D28.callAZ Q25;refine gg 3 rfl (Rn.als rfl rfl rfl Tryz.zeroValue38 rfl O38 rfl rfl rfl rfl (by first|exact ones rfl|(simp [Value.oneCell'];done)) ?_);intro b34 w34 hb34 m34 e34;have D36:=(D33.addBox hb34 e34 m34).nb;refine gg 5 rfl (Rn.sn D36 0 O9 λw37 D38=>?_);refine gg 4 rfl (Rn.q rfl (V.ldBA [_,_,_,_,_,_,_,_,_,_,_,_,_,_,_,_,_] V38 O38 rfl (D38.get 0 rfl) rfl rfl) ?_);refine Rn.say (t:=33) (pt b1_0 0) rfl (by rw [e12];rfl) ?_;obtain ⟨p39,e39,Y⟩:=bindE Y;have D40:=D38.know (relR T_api_Point.rep [Str (([121]:List UInt8)),.slice none 0 0,iv 3,iv 0,.bool false,iv 10,iv 10,iv 0,u64v (0:UInt64),u64v (0:UInt64),iv 0,u64v (0:UInt64),iv 0,.slice none 0 0,iv 0,.slice none 0 0,iv 0] (⟨([121]:List UInt8),[],3,0,false,10,10,0,(0:UInt64),(0:UInt64),(⟨0,(0:UInt64),(⟨0,[]⟩:T_api_Side),(⟨0,[]⟩:T_api_Side)⟩:T_api_Hist),0⟩:T_api_Point)) (λ_ h=>h) (show T_api_Point.rep.rel _ _ _ _ from (T_api_Point.relI (slR_nil _ _) (slR_nil _ _) (slR_nil _ _)));have D42:=D40.cu [0,1,2,3,4,5,6,7,9] [8,10];refine Rn.cq (cK func12) (m_convert_Converter_Take_sim e39 D42.lend :) ?_;rintro _ w39 ⟨A39_0_0,c39_0_0,A39_0_1,c39_0_1,A39_0_2,c39_0_2,F39_p0,rfl,Q39⟩;refine ⟨_,rfl,?_⟩;have D47:=D42.callAZ Q39;refine gg 3 rfl (Rn.als rfl rfl rfl Tryz.zeroValue38 rfl O38 rfl rfl rfl rfl (by first|exact ones rfl|(simp [Value.oneCell'];done)) ?_);intro b48 w48 hb48 m48 e48;have D50:=(D47.addBox hb48 e48 m48).nb;refine gg 7 rfl ?_;refine Rn.cutR [7,8,9,10,11,12,13,14,15,16,17,18,19,20] [(1,.pointer (optP b1_0 p1)),(6,iv p25.2.1),(8,iv p39.2.1),(44,.bool (decide ((p11.2.1=0)∧(p11.1.Flags=1))))] (λK51=>?_) ?_
  ·refine Rn.partD (t:=40) rfl (λh52=>?_) (λh52=>?_)
   ·refine gg 1 rfl (Rn.q rfl (V.ldB V3 rfl (D50.get 4 rfl) rfl) (gg 2 rfl ?_));exact K51 _ sA
   refine gg 4 rfl ?_;exact K51 _ sA
  refine gg 1 rfl ?_;refine Rn.cutR [11,12,13,14,15,16,17,18,19,20] [(1,.pointer (optP b1_0 p1)),(8,iv p39.2.1),(48,.bool (decide (((p11.2.1=0)∧(p11.1.Flags=1))∧(p25.2.1=9))))] (λK53=>?_) ?_
  ·refine Rn.partD (t:=45) rfl (λh54=>?_) (λh54=>?_)
   ·refine gg 3 rfl ?_;exact K53 _ sA
   refine gg 3 rfl ?_;exact K53 _ sA
  refine gg 1 rfl ?_;refine Rn.cutR [15,16,17,18,19,20] [(1,.pointer (optP b1_0 p1)),(52,.bool (decide ((((p11.2.1=0)∧(p11.1.Flags=1))∧(p25.2.1=9))∧(p39.2.1=6))))] (λK55=>?_) ?_
  ·refine Rn.partD (t:=49) rfl (λh56=>?_) (λh56=>?_)
   ·refine gg 3 rfl ?_;exact K55 _ sA
   refine gg 3 rfl ?_;exact K55 _ sA
  refine gg 1 rfl ?_;refine Rn.jQ D50 [0,1,2,3,4,5,6,7,8,9,10,11,99,13] Y (G:=Bool×(Nat→Prop)) [20] (λg=>[(57,.bool ((g.1)))]) (λg=>[_,_,_,_,_,_,_,_,_,_,_,_,T_convert_Converter.obj (g.2) b1_0 p39.2.2,_]) (λj g=>j g.1) ?_ ?_
  ·rintro ⟨y58,F57⟩ w59 D59 Y
   try dsimp only at Y
   refine gg 2 rfl ?_
   cases Y
   exact Rn.R1 func8 ⟨rfl,D59.pk []⟩
  intro j2 Y K2;refine askD Y (Rn.partD (t:=53) rfl) (λh60 Y=>?_) (λh60 Y=>?_)
  ·refine gg 1 rfl ?_;refine Rn.say (t:=54) (pt b1_0 0) rfl (by rw [e12];rfl) ?_;obtain ⟨p61,e61,Y⟩:=bindE Y
   refine Rn.c0 (cK func17) (m_convert_Converter_Len_sim (Z0:=All) e61 (fz_all (D50.get 12 rfl)) :) D50 λw61 _ D62=>?_
   replace D62:=D62.nq;refine gg 2 rfl ?_;exact K2 ((decide (p61=1)),F39_p0) _ _ sA (D62.pk [0,1,2,3,4,5,6,7,8,9,10,11,12,13]) Y
  refine gg 4 rfl ?_;exact K2 (false,F39_p0) _ _ sA (D50.pk [0,1,2,3,4,5,6,7,8,9,10,11,12,13]) Y
 intro j1 Y K1;refine askS Y (Rn.part (t:=13) rfl) (λh63 Y=>?_) (λh63 Y=>?_)
 ·refine gg 4 rfl ?_;exact K1 (true,F1_0) _ _ sA (D3.pk [0]) Y
 refine Rn.q rfl (V.bldS (cs:=[_,_,_,_,_,_,_]) st23 rfl rfl) ?_;obtain ⟨p64,e64,Y⟩:=bindE Y
 refine Rn.c2 (cK func10) (m_convert_New_sim (Z0:=D3.Z) e64  :) λF64_0 b64_0 w64 Q64=>?_
 have D66:=D3.callZ Q64;refine Rn.q rfl (V.neqO U27 rfl rfl) (gg 1 rfl ?_);exact K1 ((!((p64).isNone)),F1_0) _ _ sA (D66.pk [0]) Y
theorem m_limnographref11_Light_sim {x0:(List T_api_Pair)} {r:Bool} (Y:m_limnographref11_Light x0=some r) (f0:(slR A0 c0 T_api_Pair.rep x0).H Z0 w) :
 Calls prog 75 #[.slice A0 (x0).length c0] w λx w'=>x=.returned (.bool (r))∧Hp Z0 No w w' []:=by
 obtain ⟨D0,D2,hc0⟩:=knA f0;refine eg func75 8 ?_;refine Rn.q rfl (V.lenV U30 rfl) (gg 2 rfl ?_);refine bD Y 4 6 (λh3 Y=>?_) (λh3 Y=>?_)
 ·cases Y
  exact Rn.R1 func75 ⟨rfl,D2.pk []⟩
 refine Rn.jG D0 Y (G:=Unit) (λg=>[]) (λg=>[]) (λj g=>j ()) ?_ ?_
 ·rintro _ w4 D4 Y
  try dsimp only at Y
  refine gg 4 rfl ?_
  cases Y
  exact Rn.R1 func75 ⟨rfl,D4.pk []⟩
 intro j1 Y K1;refine gg 1 rfl ?_;refine Rn.lF D2 [0] (G:=Int) (λg=>[(0,.slice A0 (x0).length c0),(3,iv g)]) (λg=>[_]) (λn g=>m_limnographref11_Light_L1 x0 j1 n g) fuel 0 sA (D2.pk [0]) Y ?_;clear Y;rintro m6 y5 w6 D6 Y N6;replace Y:m_limnographref11_Light_L1 x0 j1 (m6+1) y5=some r:=Y;rw [m_limnographref11_Light_L1] at Y;refine gg 5 rfl (Rn.q rfl (V.lenV U30 rfl) (gg 2 rfl ?_));refine bD Y 7 1 (λh7 Y=>?_) (λh7 Y=>?_)
 ·obtain ⟨z8,e8,Y⟩:=bindE Y;refine Rn.ixH D6 0 rfl e8 rfl rfl rfl U30 O116 rfl rfl rfl rfl ?_;rintro b8 o8 vs8 hr8 D8;obtain rfl:=T_api_Pair.relE hr8;refine gg 1 rfl (Rn.q rfl (V.ldR0 V9 rfl (D8.get 1 rfl).2 rfl) (Rn.q rfl (V.lenS U9 rfl) (gg 2 rfl ?_)));refine Rn.jQ D8 [0] Y (G:=Bool) [] (λg=>[(0,.slice A0 (x0).length c0),(3,iv y5),(28,.bool (g))]) (λg=>[_]) (λj g=>j g) ?_ ?_
  ·rintro y10 w11 D11 Y
   try dsimp only at Y
   refine gg 1 rfl ?_;refine bS Y 4 7 (λh12 Y=>?_) (λh12 Y=>?_)
   ·cases Y
    exact Rn.R1 func75 ⟨rfl,D11.pk []⟩
   exact N6 (W64 (y5+1)) _ _ sA (D11.pk [0]) Y
  intro j2 Y K2;refine askD Y (Rn.partD (t:=20) rfl) (λh13 Y=>?_) (λh13 Y=>?_)
  ·refine gg 8 rfl ?_;exact K2 true _ _ sA (D8.pk [0]) Y
  refine gg 2 rfl ?_;obtain ⟨z14,e14,Y⟩:=bindE Y;refine Rn.ixH D8 0 rfl e14 rfl rfl rfl U30 O116 rfl rfl rfl rfl ?_;rintro b14 o14 vs14 hr14 D14;obtain rfl:=T_api_Pair.relE hr14;refine gg 1 rfl (Rn.q rfl (V.ldR V9 rfl (D14.get 2 rfl).2 rfl) (Rn.q rfl (V.lenS U9 rfl) (gg 2 rfl ?_)));exact K2 (decide ((z14.Val.length:Int)>100)) _ _ sA (D14.pk [0]) Y
 exact K1 () _ _ (sb trivial) (D6.pk []) Y
theorem m_limnographref08_Light_sim {x0:T_api_Hist} {r:Bool} (Y:m_limnographref08_Light x0=some r) (h0:T_api_Hist.rep.rel Z0 w cs0 x0) :
 Calls prog 76 #[.agg cs0.toArray] w λx w'=>x=.returned (.bool (r))∧Hp Z0 No w w' []:=by
 have D0:=Hp.nil Z0 No w;have hc0:=Calm.nil;obtain ⟨Ar1,cr1,Ar3,cr3,rfl,fs1,fs3⟩:=T_api_Hist.relE h0;obtain ⟨D5,hc0⟩:=D0.kn hc0 fs1;obtain ⟨D6,hc0⟩:=D5.kn hc0 fs3;refine eg func76 2 ?_
 refine Rn.bx D6 λb7 w7 D9=>?_
 replace D9:=D9.nb;refine gg 6 rfl (Rn.q rfl (V.ldB V32 rfl (D9.get 2 rfl) rfl) (Rn.q rfl (V.lenV U32 rfl) (gg 2 rfl ?_)));refine Rn.cutR [12] [(14,.bool (decide (((x0.Pos.Counts.length:Int)≤300)∧((x0.Neg.Counts.length:Int)≤300))))] (λK10=>?_) ?_
 ·refine Rn.partD (t:=8) rfl (λh11=>?_) (λh11=>?_)
  ·refine gg 2 rfl (Rn.q rfl (V.ldB V32 rfl (D9.get 2 rfl) rfl) (Rn.q rfl (V.lenV U32 rfl) (gg 2 rfl ?_)));exact K10 _ sA
  refine gg 6 rfl ?_;exact K10 _ sA
 refine gg 2 rfl ?_
 cases Y
 exact Rn.R1 func76 ⟨rfl,D9.pk []⟩
theorem m_limnographref12_Light_sim {x0:T_api_Point} {r:Bool} (Y:m_limnographref12_Light x0=some r) (h0:T_api_Point.rep.rel Z0 w cs0 x0) :
 Calls prog 26 #[.agg cs0.toArray] w λx w'=>x=.returned (.bool (r))∧Hp Z0 No w w' []:=by
 have D0:=Hp.nil Z0 No w;have hc0:=Calm.nil;obtain ⟨Ar1,cr1,Ar3,cr3,Ar5,cr5,rfl,fs1,fs3,fs5⟩:=T_api_Point.relE h0;obtain ⟨D7,hc0⟩:=D0.kn hc0 fs1;obtain ⟨D8,hc0⟩:=D7.kn hc0 fs3;obtain ⟨D9,hc0⟩:=D8.kn hc0 fs5;refine eg func26 2 ?_
 refine Rn.bx D9 λb10 w10 D12=>?_
 replace D12:=D12.nb;refine gg 5 rfl (Rn.q rfl (V.ldB V9 rfl (D12.get 3 rfl) rfl) (Rn.q rfl (V.lenS U9 rfl) (gg 2 rfl ?_)));refine Rn.jQ D12 [0,1,2,3] Y (G:=Bool) [9,10,11,12,13,14] (λg=>[(1,pt b10 0),(11,.bool (g))]) (λg=>[_,_,_,_]) (λj g=>j g) ?_ ?_
 ·rintro y13 w14 D14 Y
  try dsimp only at Y
  refine gg 1 rfl ?_;refine Rn.jQ D14 [0,1,2,3] Y (G:=Bool) [14] (λg=>[(16,.bool (g))]) (λg=>[_,_,_,_]) (λj g=>j g) ?_ ?_
  ·rintro y15 w16 D16 Y
   try dsimp only at Y
   refine gg 2 rfl ?_
   cases Y
   exact Rn.R1 func26 ⟨rfl,D16.pk []⟩
  intro j2 Y K2;refine askS Y (Rn.part (t:=12) rfl) (λh17 Y=>?_) (λh17 Y=>?_)
  ·refine gg 1 rfl (Rn.q rfl (V.ldBA [_,_,_,_,_,_] V36 O36 rfl (D14.get 3 rfl) rfl rfl) ?_);obtain ⟨p18,e18,Y⟩:=bindE Y
   refine Rn.c0 (cK func76) (m_limnographref08_Light_sim (Z0:=All) e18 (T_api_Hist.relA (D14.get 1 rfl) (D14.get 2 rfl)) :) D14 λw18 _ D19=>?_
   refine gg 1 rfl ?_;exact K2 p18 _ _ sA (D19.pk [0,1,2,3]) Y
  refine gg 4 rfl ?_;exact K2 false _ _ sA (D14.pk [0,1,2,3]) Y
 intro j1 Y K1;refine askD Y (Rn.partD (t:=7) rfl) (λh20 Y=>?_) (λh20 Y=>?_)
 ·refine gg 1 rfl (Rn.q rfl (V.ldB V30 rfl (D12.get 3 rfl) rfl) ?_);obtain ⟨p21,e21,Y⟩:=bindE Y
  refine Rn.c0 (cK func75) (m_limnographref11_Light_sim (Z0:=All) e21 (slR_all (D12.get 0 rfl)) :) D12 λw21 _ D22=>?_
  refine gg 1 rfl ?_;exact K1 p21 _ _ sA (D22.pk [0,1,2,3]) Y
 refine gg 4 rfl ?_;exact K1 false _ _ sA (D12.pk [0,1,2,3]) Y
theorem m_limnographref12_Some_sim {x0:(List T_api_Point)} {x1:Int} {r:Bool} (Y:m_limnographref12_Some x0 x1=some r) (f0:(slR A0 c0 T_api_Point.rep x0).H Z0 w) :
 Calls prog 9 #[.slice A0 (x0).length c0,iv x1] w λx w'=>x=.returned (.bool (r))∧Hp Z0 No w w' []:=by
 obtain ⟨D0,D2,hc0⟩:=knA f0;refine eg func9 8 ?_;refine Rn.q rfl (V.lenV U24 rfl) (gg 3 rfl ?_);refine bD Y 4 6 (λh3 Y=>?_) (λh3 Y=>?_)
 ·cases Y
  exact Rn.R1 func9 ⟨rfl,D2.pk []⟩
 refine Rn.jG D0 Y (G:=Unit) (λg=>[]) (λg=>[]) (λj g=>j ()) ?_ ?_
 ·rintro _ w4 D4 Y
  try dsimp only at Y
  refine gg 4 rfl ?_
  cases Y
  exact Rn.R1 func9 ⟨rfl,D4.pk []⟩
 intro j1 Y K1;refine gg 1 rfl ?_;refine Rn.lF D2 [0] (G:=Int) (λg=>[(0,.slice A0 (x0).length c0),(5,iv g)]) (λg=>[_]) (λn g=>m_limnographref12_Some_L1 x0 j1 n g) fuel 0 sA (D2.pk [0]) Y ?_;clear Y;rintro m6 y5 w6 D6 Y N6;replace Y:m_limnographref12_Some_L1 x0 j1 (m6+1) y5=some r:=Y;rw [m_limnographref12_Some_L1] at Y;refine gg 5 rfl (Rn.q rfl (V.lenV U24 rfl) (gg 2 rfl ?_));refine bD Y 7 1 (λh7 Y=>?_) (λh7 Y=>?_)
 ·obtain ⟨z8,e8,Y⟩:=bindE Y;refine Rn.ixH D6 0 rfl e8 rfl rfl rfl U24 O38 rfl rfl rfl rfl ?_;rintro b8 o8 vs8 hr8 D8;obtain ⟨Ar9,cr9,Ar11,cr11,Ar13,cr13,rfl,fs9,fs11,fs13⟩:=T_api_Point.relE hr8;have D16:=Hp.know1 (M:=[slR Ar9 cr9 T_api_Pair.rep z8.Attrs,slR Ar11 cr11 w64R z8.Hist.Pos.Counts,slR Ar13 cr13 w64R z8.Hist.Neg.Counts]) D8 (λ_ h=>h) (knC (λ_ h=>h) fs9 (knC (λ_ h=>h) fs11 (knC (λ_ h=>h) fs13 kn0)));refine Rn.q rfl (V.ldA (vs:=[_,_,_,_,_,_,_,_,_,_,_,_,_,_,_,_,_]) V38 O38 rfl (Rd.pre (D16.get 1 rfl).2 17) rfl) ?_;obtain ⟨p17,e17,Y⟩:=bindE Y
  refine Rn.c0 (cK func26) (m_limnographref12_Light_sim (Z0:=All) e17 (T_api_Point.relA (D16.get 2 rfl) (D16.get 3 rfl) (D16.get 4 rfl)) :) D16 λw17 _ D18=>?_
  refine Rn.q rfl (V.notB rfl) (gg 1 rfl ?_);refine bS Y 4 7 (λh19 Y=>?_) (λh19 Y=>?_)
  ·cases Y
   exact Rn.R1 func9 ⟨rfl,D18.pk []⟩
  exact N6 (W64 (y5+1)) _ _ sA (D18.pk [0]) Y
 exact K1 () _ _ (sb trivial) (D6.pk []) Y
theorem m_limnographref17_Good_sim {x0:T_api_Config} {r:Bool} (Y:m_limnographref17_Good x0=some r)  :
 Calls prog 11 #[.agg [iv x0.Out,iv x0.Series,iv x0.Buckets,iv x0.Points,iv x0.Bytes,iv x0.Disk,iv x0.Window].toArray] w λx w'=>x=.returned (.bool (r))∧Hp Z0 No w w' []:=by
 have D0:=Hp.nil Z0 No w;have hc0:=Calm.nil;refine eg func11 2 ?_
 refine Rn.bx D0 λb1 w1 D3=>?_
 replace D3:=D3.nb;refine gg 5 rfl (Rn.q rfl (V.ldB V3 rfl (D3.get 0 rfl) rfl) (gg 2 rfl ?_));refine Rn.cutR [8,9,10,11,12,13,14,15,16,17,18,19,20,21,22,23,24,25,26,27,28] [(1,pt b1 0),(10,.bool (decide ((x0.Out≥0)∧(x0.Out≤2))))] (λK4=>?_) ?_
 ·refine Rn.partD (t:=6) rfl (λh5=>?_) (λh5=>?_)
  ·refine gg 1 rfl (Rn.q rfl (V.ldB V3 rfl (D3.get 0 rfl) rfl) (gg 2 rfl ?_));exact K4 _ sA
  refine gg 4 rfl ?_;exact K4 _ sA
 refine gg 1 rfl ?_;refine Rn.cutR [13,14,15,16,17,18,19,20,21,22,23,24,25,26,27,28] [(1,pt b1 0),(15,.bool (decide (((x0.Out≥0)∧(x0.Out≤2))∧(x0.Series≥1))))] (λK6=>?_) ?_
 ·refine Rn.partD (t:=11) rfl (λh7=>?_) (λh7=>?_)
  ·refine gg 1 rfl (Rn.q rfl (V.ldB V3 rfl (D3.get 0 rfl) rfl) (gg 2 rfl ?_));exact K6 _ sA
  refine gg 4 rfl ?_;exact K6 _ sA
 refine gg 1 rfl ?_;refine Rn.cutR [18,19,20,21,22,23,24,25,26,27,28] [(1,pt b1 0),(20,.bool (decide ((((x0.Out≥0)∧(x0.Out≤2))∧(x0.Series≥1))∧(x0.Series≤16))))] (λK8=>?_) ?_
 ·refine Rn.partD (t:=16) rfl (λh9=>?_) (λh9=>?_)
  ·refine gg 1 rfl (Rn.q rfl (V.ldB V3 rfl (D3.get 0 rfl) rfl) (gg 2 rfl ?_));exact K8 _ sA
  refine gg 4 rfl ?_;exact K8 _ sA
 refine gg 1 rfl ?_;refine Rn.cutR [23,24,25,26,27,28] [(1,pt b1 0),(25,.bool (decide (((((x0.Out≥0)∧(x0.Out≤2))∧(x0.Series≥1))∧(x0.Series≤16))∧(x0.Buckets≥1))))] (λK10=>?_) ?_
 ·refine Rn.partD (t:=21) rfl (λh11=>?_) (λh11=>?_)
  ·refine gg 1 rfl (Rn.q rfl (V.ldB V3 rfl (D3.get 0 rfl) rfl) (gg 2 rfl ?_));exact K10 _ sA
  refine gg 4 rfl ?_;exact K10 _ sA
 refine gg 1 rfl ?_;refine Rn.cutR [28] [(30,.bool (decide ((((((x0.Out≥0)∧(x0.Out≤2))∧(x0.Series≥1))∧(x0.Series≤16))∧(x0.Buckets≥1))∧(x0.Buckets≤160))))] (λK12=>?_) ?_
 ·refine Rn.partD (t:=26) rfl (λh13=>?_) (λh13=>?_)
  ·refine gg 1 rfl (Rn.q rfl (V.ldB V3 rfl (D3.get 0 rfl) rfl) (gg 2 rfl ?_));exact K12 _ sA
  refine gg 4 rfl ?_;exact K12 _ sA
 refine gg 2 rfl ?_
 cases Y
 exact Rn.R1 func11 ⟨rfl,D3.pk []⟩
theorem m_pack_NewWriter_sim  {r:T_pack_Writer} (Y:m_pack_NewWriter  = some r)  :
 Calls prog 46 #[] w λx w'=>∃ F_0 b_0,x=.returned (pt b_0 0)∧Hp Z0 No w w' [T_pack_Writer.obj F_0 b_0 r]:=by
 have D0:=Hp.nil Z0 No w;have hc0:=Calm.nil;refine eg func46 6 ?_;refine Rn.q rfl (V.bldS (cs:=[_]) st157 rfl rfl) (Rn.bx D0 λb1 w1 D3=>?_);replace D3:=D3.nb;refine gg 2 rfl ?_;have D4:=D3.addNil 5 byteR;have D7:=D4.cu [] [0,1];obtain ⟨F6,D6⟩:=D7.fold (T_pack_Writer.sh b1 (⟨([]:List UInt8)⟩:T_pack_Writer)) ⟨none,0,rfl⟩
 cases Y
 exact Rn.R1 func46 ⟨F6,b1,rfl,D6.pk [0]⟩
theorem m_math_bits_Len64_sim {x0:UInt64} {r:Int} (Y:m_math_bits_Len64 x0=some r)  :
 Calls prog 160 #[u64v x0] w λx w'=>x=.returned (iv r)∧Hp Z0 No w w' []:=by
 have D0:=Hp.nil Z0 No w;have hc0:=Calm.nil;refine eg func160 8 ?_;refine Rn.q rfl (V.geq rfl rfl) (gg 1 rfl ?_);refine Rn.jG D0 Y (G:=UInt64×Int) (λg=>[(0,u64v (g.1)),(2,iv (g.2))]) (λg=>[]) (λj g=>j g.1 g.2) ?_ ?_
 ·rintro ⟨y1,y2⟩ w3 D3 Y
  try dsimp only at Y
  refine gg 4 rfl (Rn.q rfl (V.geq rfl rfl) (gg 1 rfl ?_));refine Rn.jG D0 Y (G:=UInt64×Int) (λg=>[(0,u64v (g.1)),(2,iv (g.2))]) (λg=>[]) (λj g=>j g.1 g.2) ?_ ?_
  ·rintro ⟨y4,y5⟩ w6 D6 Y
   try dsimp only at Y
   refine gg 4 rfl (Rn.q rfl (V.geq rfl rfl) (gg 1 rfl ?_));refine Rn.jG D0 Y (G:=UInt64×Int) (λg=>[(0,u64v (g.1)),(2,iv (g.2))]) (λg=>[]) (λj g=>j g.1 g.2) ?_ ?_
   ·rintro ⟨y7,y8⟩ w9 D9 Y
    try dsimp only at Y
    refine gg 4 rfl (Rn.q rfl (V.cv8 U31 U5 rfl) ?_);obtain ⟨z10,e10,Y⟩:=bindE Y;refine Rn.q rfl (V.idxSZ U9 rfl rfl e10) (Rn.q rfl (V.cv8i (a:=z10) U5 U3 rfl) (gg 3 rfl ?_))
    cases Y
    exact Rn.R1 func160 ⟨rfl,D9.pk []⟩
   intro j3 Y K3;refine bD Y 3 1 (λh11 Y=>?_) (λh11 Y=>?_)
   ·refine Rn.q rfl (V.sh64 rfl rfl _ 8 rfl rfl (b64_shr _ _ _ 8 (by decide))) (gg 7 rfl ?_);exact K3 ((y4>>>UInt64.ofNat 8),(W64 (y5+8))) _ _ sA (D6.pk []) Y
   exact K3 (y4,y5) _ _ sA (D6.pk []) Y
  intro j2 Y K2;refine bD Y 3 1 (λh12 Y=>?_) (λh12 Y=>?_)
  ·refine Rn.q rfl (V.sh64 rfl rfl _ 16 rfl rfl (b64_shr _ _ _ 16 (by decide))) (gg 7 rfl ?_);exact K2 ((y1>>>UInt64.ofNat 16),(W64 (y2+16))) _ _ sA (D3.pk []) Y
  exact K2 (y1,y2) _ _ sA (D3.pk []) Y
 intro j1 Y K1;refine bD Y 3 1 (λh13 Y=>?_) (λh13 Y=>?_)
 ·refine Rn.q rfl (V.sh64 rfl rfl _ 32 rfl rfl (b64_shr _ _ _ 32 (by decide))) (gg 5 rfl ?_);exact K1 ((x0>>>UInt64.ofNat 32),32) _ _ sA (D0.pk []) Y
 exact K1 (x0,0) _ _ sA (D0.pk []) Y
theorem m_pack_others_sim {x0:UInt64} {r:Int} (Y:m_pack_others x0=some r)  :
 Calls prog 101 #[u64v x0] w λx w'=>x=.returned (iv r)∧Hp Z0 No w w' []:=by
 have D0:=Hp.nil Z0 No w;have hc0:=Calm.nil;refine eg func101 7 ?_;obtain ⟨p1,e1,Y⟩:=bindE Y
 refine Rn.c0 (cK func160) (m_math_bits_Len64_sim (Z0:=All) e1  :) D0 λw1 _ D2=>?_
 refine gg 8 rfl ?_;refine bD Y 4 5 (λh3 Y=>?_) (λh3 Y=>?_)
 ·cases Y
  exact Rn.R1 func101 ⟨rfl,D2.pk []⟩
 refine Rn.q rfl (V.maxi rfl rfl) ?_;obtain ⟨z4,e4,Y⟩:=bindE Y;refine Rn.q rfl (V.quoZ rfl rfl e4) (gg 2 rfl ?_)
 cases Y
 exact Rn.R1 func101 ⟨rfl,D2.pk []⟩
theorem m_pack_Writer_Num_sim {x0:T_pack_Writer} {x1:UInt64} {r:T_pack_Writer} (Y:m_pack_Writer_Num x0 x1=some r) (hL:Lent Z0 w [T_pack_Writer.obj F0 b0 x0]) :
 Calls prog 47 #[pt b0 0,u64v x1] w λx w'=>∃ F_p0,x=.returned (.tuple #[])∧Hp Z0 (LS [T_pack_Writer.obj F0 b0 x0]) w w' [T_pack_Writer.obj F_p0 b0 r]:=by
 have D0:=hL.start;refine eg func47 3 ?_;obtain ⟨p2,e2,Y⟩:=bindE Y
 refine Rn.c0 (cK func101) (m_pack_others_sim (Z0:=All) e2  :) D0 λw2 _ D3=>?_
 refine gg 6 rfl (Rn.q rfl (V.cv64 U3 U134 rfl) (Rn.q rfl (V.shl8 (a:=(255:UInt8)) (m:=(toU64 (W64 (8-p2))).toNat) rfl rfl) (gg 8 rfl ?_)));refine Rn.jG D0 Y (G:=UInt8×(Nat→Prop)) (λg=>[(0,pt b0 0),(1,u64v x1),(4,iv p2),(5,u8v (g.1))]) (λg=>[T_pack_Writer.obj (g.2) b0 x0]) (λj g=>j g.1) ?_ ?_
 ·rintro ⟨y5,F4⟩ w6 D6 Y
  try dsimp only at Y
  refine gg 6 rfl ?_;obtain ⟨_,⟨A7_0,c7_0,rfl⟩,D7⟩:=D6.unf 0 rfl;replace D7:=D7.nq;refine Rn.q rfl (V.ldB V51 rfl (D7.get 0 rfl) rfl) (gg 1 rfl ?_);obtain ⟨z9,e9,Y⟩:=bindE Y;refine Rn.pushH (z:=y5) (vs:=[u8v y5]) D7 1 rfl e9 rfl rfl rfl rfl U51 el5 rfl rfl rfl rfl (λ_=>rfl) (⟨rfl,trivial⟩) ?_;intro A9 c9 w9 u9 D9;refine gg 2 rfl (Rn.sn D9 0 O51 λw11 D12=>?_);refine gg 1 rfl ?_;have D14:=D12.cu [] [0,1];obtain ⟨F13,D13⟩:=D14.fold (T_pack_Writer.sh b0 (⟨z9⟩:T_pack_Writer)) ⟨A9,c9,rfl⟩;refine Rn.jG D0 Y (G:=T_pack_Writer×(Nat→Prop)) (λg=>[]) (λg=>[T_pack_Writer.obj (g.2) b0 (g.1)]) (λj g=>j g.1) ?_ ?_
  ·rintro ⟨y15,F15⟩ w16 D16 Y
   try dsimp only at Y
   refine Rn.end0 func47 rfl ?_;obtain rfl:=someE Y;exact ⟨F15,rfl,D16.pk [0]⟩
  intro j2 Y K2;refine gg 1 rfl ?_;refine Rn.loopF (G:=Int×T_pack_Writer×(Nat→Prop)) (λg=>[(0,pt b0 0),(1,u64v x1),(4,iv (g.1))]) (λg w'=>Hp Z0 (LS [T_pack_Writer.obj F0 b0 x0]) w w' [T_pack_Writer.obj (g.2.2) b0 (g.2.1)]) (λn g=>m_pack_Writer_Num_L1 x1 j2 n g.1 g.2.1) fuel (p2,(⟨z9⟩:T_pack_Writer),F13) sA (D13.pk [0]) Y (λ_=>rfl) ?_;clear Y;rintro m19 ⟨y17,y18,F18⟩ w19 D19 Y N19;replace Y:m_pack_Writer_Num_L1 x1 j2 (m19+1) y17 y18=some r:=Y;rw [m_pack_Writer_Num_L1] at Y;refine gg 6 rfl ?_;refine bD Y 8 1 (λh20 Y=>?_) (λh20 Y=>?_)
  ·obtain ⟨_,⟨A21_0,c21_0,rfl⟩,D21⟩:=D19.unf 0 rfl;replace D21:=D21.nq;refine Rn.q rfl (V.ldB V51 rfl (D21.get 0 rfl) rfl) (gg 4 rfl (Rn.q rfl (V.cv64 U3 U134 rfl) (Rn.q rfl (V.shr64 (a:=x1) (m:=(toU64 (W64 ((W64 (8*y17))-8))).toNat) rfl rfl) (Rn.q rfl (V.cv8 U31 U5 rfl) ?_))));obtain ⟨z23,e23,Y⟩:=bindE Y;refine Rn.pushH (z:=toU8 ((shr64 x1 ((toU64 (W64 ((W64 (8*y17))-8))).toNat)).toNat:Int)) (vs:=[u8v (toU8 ((shr64 x1 ((toU64 (W64 ((W64 (8*y17))-8))).toNat)).toNat:Int))]) D21 1 rfl e23 rfl rfl rfl rfl U51 el5 rfl rfl rfl rfl (λ_=>rfl) (⟨rfl,trivial⟩) ?_;intro A23 c23 w23 u23 D23;refine gg 2 rfl (Rn.sn D23 0 O51 λw25 D26=>?_);refine gg 7 rfl ?_;have D28:=D26.cu [] [0,1];obtain ⟨F27,D27⟩:=D28.fold (T_pack_Writer.sh b0 (⟨z23⟩:T_pack_Writer)) ⟨A23,c23,rfl⟩;exact N19 ((W64 (y17-1)),(⟨z23⟩:T_pack_Writer),F27) _ _ sA (D27.pk [0]) Y
  exact K2 (y18,F18) _ _ (sb trivial) (D19.pk [0]) Y
 intro j1 Y K1;refine bD Y 5 1 (λh29 Y=>?_) (λh29 Y=>?_)
 ·refine Rn.q rfl (V.cv64 U3 U134 rfl) (Rn.q rfl (V.shr64 (a:=x1) (m:=(toU64 (W64 (8*p2))).toNat) rfl rfl) (Rn.q rfl (V.cv8 U31 U5 rfl) (Rn.q rfl (V.or8 (a:=shl8 (255:UInt8) ((toU64 (W64 (8-p2))).toNat)) (b:=toU8 ((shr64 x1 ((toU64 (W64 (8*p2))).toNat)).toNat:Int)) rfl rfl) (gg 2 rfl ?_))));exact K1 (((shl8 (255:UInt8) ((toU64 (W64 (8-p2))).toNat))|||(toU8 ((shr64 x1 ((toU64 (W64 (8*p2))).toNat)).toNat:Int))),F0) _ _ sA (D3.pk [0]) Y
 exact K1 ((shl8 (255:UInt8) ((toU64 (W64 (8-p2))).toNat)),F0) _ _ sA (D3.pk [0]) Y
theorem m_table_Table_convert_kept_Keys_sim {x0:T_table_Table_convert_kept_} {r:(List (List UInt8))} (Y:m_table_Table_convert_kept_Keys x0=some r) (f0:(fzR (T_table_Table_convert_kept_.obj F0 b0 x0)).H Z0 w) :
 Calls prog 48 #[pt b0 0] w λx w'=>∃ A_0_0 c_0_0,x=.returned (.slice A_0_0 (r).length c_0_0)∧Hp Z0 No w w' [ownR 9 A_0_0 c_0_0 textR r]:=by
 obtain ⟨D0,D2,hc0⟩:=knA f0;refine eg func48 9 ?_;obtain ⟨_,⟨m3_0,rfl⟩,D3⟩:=D2.unfz 0 rfl;replace D3:=D3.nq;refine Rn.q rfl (V.ldB V130 rfl (D3.getz 1 rfl) rfl) ?_;have hkm6:=(D3.getz 2 rfl);refine Rn.cq (cK func103) (callsIn_wide.1 (Tryz.maps_Keys_103 (some m3_0) _)) ?_;rintro _ w6 ⟨rfl,K6⟩;refine ⟨_,rfl,?_⟩;have D7:=D3.ext (show Ext w w6 from K6▸Ext.alloc _ _);obtain ⟨z8,e8,Y⟩:=bindE Y
 refine Rn.c2 (cK func102) (sorted_keys U9 (λb nn D0 R w=>Tryz.slices_Sorted_keys_102_103 b nn D0 R w) K6 hkm6 e8) λA8 c8 w8 Q8=>?_
 have D10:=D7.callF (flC (ownR_flat text_flat _ _ _ _) fl0) Q8;refine gg 2 rfl ?_
 cases Y
 exact Rn.R1 func48 ⟨A8,c8,rfl,D10.pk [3]⟩
theorem m_convert_kept_asPoint_sim {x0:T_convert_kept} {r:T_api_Point} (Y:m_convert_kept_asPoint x0=some r) (h0:T_convert_kept.rep.rel Z0 w cs0 x0) :
 Calls prog 50 #[.agg cs0.toArray] w λx w'=>∃ A_0_0 c_0_0 A_0_1 c_0_1 A_0_2 c_0_2,x=.returned (.agg [Str (r.Name),.slice A_0_0 (r.Attrs).length c_0_0,iv r.Kind,iv r.Temp,.bool (r.Mono),iv r.Start,iv r.Time,iv r.Int_,u64v r.Re,u64v r.Im,iv r.Hist.Scale,u64v r.Hist.Zero,iv r.Hist.Pos.Offset,.slice A_0_1 (r.Hist.Pos.Counts).length c_0_1,iv r.Hist.Neg.Offset,.slice A_0_2 (r.Hist.Neg.Counts).length c_0_2,iv r.Flags].toArray)∧Hp Z0 No w w' [slR A_0_0 c_0_0 T_api_Pair.rep r.Attrs,slR A_0_1 c_0_1 w64R r.Hist.Pos.Counts,slR A_0_2 c_0_2 w64R r.Hist.Neg.Counts]:=by
 have D0:=Hp.nil Z0 No w;have hc0:=Calm.nil;obtain ⟨Ar1,cr1,Ar3,cr3,Ar5,cr5,Ar7,cr7,Ar9,cr9,rfl,fs1,fs3,fs5,fs7,fs9⟩:=T_convert_kept.relE h0;obtain ⟨D11,hc0⟩:=D0.kn hc0 fs1;obtain ⟨D12,hc0⟩:=D11.kn hc0 fs3;obtain ⟨D13,hc0⟩:=D12.kn hc0 fs5;obtain ⟨D14,hc0⟩:=D13.kn hc0 fs7;obtain ⟨D15,hc0⟩:=D14.kn hc0 fs9;refine eg func50 2 ?_
 refine Rn.bx D15 λb16 w16 D18=>?_
 replace D18:=D18.nb
 refine Rn.al D18 Tryz.zeroValue38 λb19 w19 D21=>?_
 replace D21:=D21.nb;refine gg 4 rfl (Rn.q rfl (V.ldBA [_,_,_,_,_,_,_,_,_,_,_,_,_,_,_,_,_] V38 O38 rfl (D21.get 5 rfl) rfl rfl) (Rn.als rfl rfl rfl Tryz.zeroValue38 rfl O38 rfl rfl rfl rfl (by first|exact ones rfl|(simp [Value.oneCell'];done)) ?_));intro b22 w22 hb22 m22 e22;have D24:=(D21.addBox hb22 e22 m22).nb;refine gg 2 rfl ?_;have D31:=(D24.cutF [5,6] [7] [0,1,2,3,4] rfl (by decide) ⟨λ_ h=>h,λ_ h=>h,λ_ h=>h,λ_ h=>h,λ_ h=>h,trivial⟩).nf ([_,_,_,_,_,_,_]++[_,_,_,_,_,_]) rfl;refine Rn.drawF rfl D31 ?_;intro w32 hmo32 D32;refine dq [0,1] ?_;refine RH.tk 2 rfl (λw' hDr=>V.ldB V3 rfl ((hmo32.awayK hDr).get 0 rfl) rfl) ?_;refine dq [3,4] ?_;refine RH.tk 5 rfl (λw' hDr=>V.ldB V3 rfl ((hmo32.awayK hDr).get 0 rfl) rfl) ?_;refine dq [6] ?_
 refine RH.sn 7 D32 0 O3 λw33 D34=>?_
 refine ⟨D34.fr,?_⟩;refine dq [8] ?_
 refine RH.sn 9 D34 0 O3 λw35 D36=>?_
 refine ⟨D36.fr,?_⟩;refine RH.dn ?_;have D37:=hmo32.callAZ D36;have D38:=(D37.pk [0,1,7,8,9,10,11,12]).nq;refine gg 1 rfl ?_;have D45:=(D38.cutF [0,1] [2] [3,4,5,6,7] rfl (by decide) ⟨λ_ h=>h,λ_ h=>h,λ_ h=>h,λ_ h=>h,λ_ h=>h,trivial⟩).nf ([_,_,_,_,_,_,_]++[_,_,_,_,_,_]) rfl;refine Rn.drawF rfl D45 ?_;intro w46 hmo46 D46;refine dq [0,1] ?_;refine RH.tk 2 rfl (λw' hDr=>V.ldB V3 rfl ((hmo46.awayK hDr).get 0 rfl) rfl) ?_;refine dq [3,4] ?_;refine RH.tk 5 rfl (λw' hDr=>V.ldB V31 rfl ((hmo46.awayK hDr).get 0 rfl) rfl) ?_;refine dq [6,7] ?_;refine RH.tk 8 rfl (λw' hDr=>V.ldB V31 rfl ((hmo46.awayK hDr).get 0 rfl) rfl) ?_;refine dq [9,10] ?_;refine RH.tk 11 rfl (λw' hDr=>V.ldBA [_,_,_,_,_,_] V36 O36 rfl ((hmo46.awayK hDr).get 0 rfl) rfl rfl) ?_;refine dq [12] ?_
 refine RH.sn 13 D46 0 O3 λw47 D48=>?_
 refine ⟨D48.fr,?_⟩;refine dq [14] ?_
 refine RH.sn 15 D48 0 O31 λw49 D50=>?_
 refine ⟨D50.fr,?_⟩;refine dq [16] ?_
 refine RH.sn 17 D50 0 O31 λw51 D52=>?_
 refine ⟨D52.fr,?_⟩;refine dq [18] ?_
 refine RH.sn 19 D52 0 O36 λw53 D54=>?_
 refine ⟨D54.fr,?_⟩;refine RH.dn ?_;have D55:=hmo46.callAZ D54;have D56:=(D55.pk [0,1,7,8,9,10,11,12]).nq;refine gg 2 rfl (Rn.q rfl (V.ldBA [_,_,_,_,_,_,_,_,_,_,_,_,_,_,_,_,_] V38 O38 rfl (D56.get 2 rfl) rfl rfl) (Rn.stF rfl rfl O38 rfl rfl rfl rfl (by first|exact ones rfl|(simp [Value.oneCell'];done)) (D56.get 1 rfl) rfl ?_));intro w57 m57 x57;have D58:=D56.sn 1 x57 m57;refine gg 1 rfl ?_;refine Rn.retG1 func50 rfl (rvC rfl V38 O38 (D58.get 1 rfl) rfl) ?_;obtain rfl:=someE Y;exact ⟨Ar5,cr5,Ar1,cr1,Ar3,cr3,rfl,D58.pk [5,3,4]⟩
theorem m_pack_Writer_Text_sim {x0:T_pack_Writer} {x1:(List UInt8)} {r:T_pack_Writer} (Y:m_pack_Writer_Text x0 x1=some r) (hL:Lent Z0 w [T_pack_Writer.obj F0 b0 x0]) :
 Calls prog 51 #[pt b0 0,Str (x1)] w λx w'=>∃ F_p0,x=.returned (.tuple #[])∧Hp Z0 (LS [T_pack_Writer.obj F0 b0 x0]) w w' [T_pack_Writer.obj F_p0 b0 r]:=by
 have D0:=hL.start;refine eg func51 4 ?_;refine Rn.q rfl (V.lenS U9 rfl) (Rn.q rfl (V.cv64 U3 U31 rfl) ?_);obtain ⟨p2,e2,Y⟩:=bindE Y;have D3:=D0.cu [] [0]
 refine Rn.a1 (cK func47) (m_pack_Writer_Num_sim e2 D3.lend :) D3 λF2_p0 w2 D5=>?_
 refine gg 6 rfl ?_;obtain ⟨_,⟨A6_0,c6_0,rfl⟩,D6⟩:=D5.unf 0 rfl;replace D6:=D6.nq;refine Rn.q rfl (V.ldB V51 rfl (D6.get 0 rfl) rfl) (gg 1 rfl ?_);obtain ⟨z8,e8,Y⟩:=bindE Y;refine Rn.appSH D6 1 rfl e8 rfl rfl rfl U51 U9 el5 rfl rfl rfl ?_;intro A8 c8 w8 D8;refine gg 2 rfl (Rn.sn D8 0 O51 λw10 D11=>?_);refine gg 1 rfl ?_;have D13:=D11.cu [] [0,1];obtain ⟨F12,D12⟩:=D13.fold (T_pack_Writer.sh b0 (⟨z8⟩:T_pack_Writer)) ⟨A8,c8,rfl⟩;refine Rn.end0 func51 rfl ?_;obtain rfl:=someE Y;exact ⟨F12,rfl,D12.pk [0]⟩
theorem m_pack_Zig_sim {x0:Int} {r:UInt64} (Y:m_pack_Zig x0=some r)  :
 Calls prog 164 #[iv x0] w λx w'=>x=.returned (u64v r)∧Hp Z0 No w w' []:=by
 have D0:=Hp.nil Z0 No w;have hc0:=Calm.nil;refine eg func164 7 ?_;refine Rn.q rfl (V.cv64 U3 U31 rfl) (Rn.q rfl (V.sh64 rfl rfl _ 1 rfl rfl (b64_shl _ _ _ 1 (by decide))) (gg 1 rfl (Rn.q rfl (V.shrZ (m:=63) rfl rfl) (Rn.q rfl (V.cv64 U3 U31 rfl) (Rn.q rfl (V.o64 rfl rfl ((toU64 x0)<<<UInt64.ofNat 1) (toU64 (shrZ x0 63)) rfl rfl (b64_xor _ _ _)) (gg 2 rfl ?_))))))
 cases Y
 exact Rn.R1 func164 ⟨rfl,D0.pk []⟩
theorem m_pack_Writer_Int_sim {x0:T_pack_Writer} {x1:Int} {r:T_pack_Writer} (Y:m_pack_Writer_Int x0 x1=some r) (hL:Lent Z0 w [T_pack_Writer.obj F0 b0 x0]) :
 Calls prog 104 #[pt b0 0,iv x1] w λx w'=>∃ F_p0,x=.returned (.tuple #[])∧Hp Z0 (LS [T_pack_Writer.obj F0 b0 x0]) w w' [T_pack_Writer.obj F_p0 b0 r]:=by
 have D0:=hL.start;refine eg func104 3 ?_;obtain ⟨p2,e2,Y⟩:=bindE Y
 refine Rn.c0 (cK func164) (m_pack_Zig_sim (Z0:=All) e2  :) D0 λw2 _ D3=>?_
 obtain ⟨p4,e4,Y⟩:=bindE Y;have D5:=D3.cu [] [0]
 refine Rn.a1 (cK func47) (m_pack_Writer_Num_sim e4 D5.lend :) D5 λF4_p0 w4 D7=>?_
 refine gg 1 rfl ?_;refine Rn.end0 func104 rfl ?_;obtain rfl:=someE Y;exact ⟨F4_p0,rfl,D7.pk [0]⟩
theorem m_pack_Writer_Fix_sim {x0:T_pack_Writer} {x1:UInt64} {r:T_pack_Writer} (Y:m_pack_Writer_Fix x0 x1=some r) (hL:Lent Z0 w [T_pack_Writer.obj F0 b0 x0]) :
 Calls prog 105 #[pt b0 0,u64v x1] w λx w'=>∃ F_p0,x=.returned (.tuple #[])∧Hp Z0 (LS [T_pack_Writer.obj F0 b0 x0]) w w' [T_pack_Writer.obj F_p0 b0 r]:=by
 have D0:=hL.start;refine eg func105 4 ?_;refine Rn.jG D0 Y (G:=T_pack_Writer×(Nat→Prop)) (λg=>[]) (λg=>[T_pack_Writer.obj (g.2) b0 (g.1)]) (λj g=>j g.1) ?_ ?_
 ·rintro ⟨y2,F2⟩ w3 D3 Y
  try dsimp only at Y
  refine Rn.end0 func105 rfl ?_;obtain rfl:=someE Y;exact ⟨F2,rfl,D3.pk [0]⟩
 intro j1 Y K1;refine gg 1 rfl ?_;refine Rn.loopF (G:=Int×T_pack_Writer×(Nat→Prop)) (λg=>[(0,pt b0 0),(1,u64v x1),(5,iv (g.1))]) (λg w'=>Hp Z0 (LS [T_pack_Writer.obj F0 b0 x0]) w w' [T_pack_Writer.obj (g.2.2) b0 (g.2.1)]) (λn g=>m_pack_Writer_Fix_L1 x1 j1 n g.1 g.2.1) fuel (0,x0,F0) sA (D0.pk [0]) Y (λ_=>rfl) ?_;clear Y;rintro m6 ⟨y4,y5,F5⟩ w6 D6 Y N6;replace Y:m_pack_Writer_Fix_L1 x1 j1 (m6+1) y4 y5=some r:=Y;rw [m_pack_Writer_Fix_L1] at Y;refine gg 5 rfl ?_;refine bD Y 13 1 (λh7 Y=>?_) (λh7 Y=>?_)
 ·obtain ⟨_,⟨A8_0,c8_0,rfl⟩,D8⟩:=D6.unf 0 rfl;replace D8:=D8.nq;refine Rn.q rfl (V.ldB V51 rfl (D8.get 0 rfl) rfl) (gg 3 rfl (Rn.q rfl (V.cv64 U3 U134 rfl) (Rn.q rfl (V.shr64 (a:=x1) (m:=(toU64 (W64 (8*y4))).toNat) rfl rfl) (Rn.q rfl (V.cv8 U31 U5 rfl) ?_))));obtain ⟨z10,e10,Y⟩:=bindE Y;refine Rn.pushH (z:=toU8 ((shr64 x1 ((toU64 (W64 (8*y4))).toNat)).toNat:Int)) (vs:=[u8v (toU8 ((shr64 x1 ((toU64 (W64 (8*y4))).toNat)).toNat:Int))]) D8 1 rfl e10 rfl rfl rfl rfl U51 el5 rfl rfl rfl rfl (λ_=>rfl) (⟨rfl,trivial⟩) ?_;intro A10 c10 w10 u10 D10;refine gg 2 rfl (Rn.sn D10 0 O51 λw12 D13=>?_);refine gg 6 rfl ?_;have D15:=D13.cu [] [0,1];obtain ⟨F14,D14⟩:=D15.fold (T_pack_Writer.sh b0 (⟨z10⟩:T_pack_Writer)) ⟨A10,c10,rfl⟩;exact N6 ((W64 (y4+1)),(⟨z10⟩:T_pack_Writer),F14) _ _ sA (D14.pk [0]) Y
 exact K1 (y5,F5) _ _ (sb trivial) (D6.pk [0]) Y
theorem m_point_side_sim {x0:T_pack_Writer} {x1:T_api_Side} {r:T_pack_Writer} (Y:m_point_side x0 x1=some r) (hL:Lent Z0 w [T_pack_Writer.obj F0 b0 x0,relR T_api_Side.rep cs1 x1]) :
 Calls prog 106 #[pt b0 0,.agg cs1.toArray] w λx w'=>∃ F_p0,x=.returned (.tuple #[])∧Hp Z0 (LS [T_pack_Writer.obj F0 b0 x0,relR T_api_Side.rep cs1 x1]) w w' [T_pack_Writer.obj F_p0 b0 r]:=by
 have D0:=hL.start;have h1:=D0.get 1 rfl;obtain ⟨Ar2,cr2,rfl,fs2⟩:=T_api_Side.relE h1;have D5:=Hp.knowL [slR Ar2 cr2 w64R x1.Counts] _ D0 (knC (λ_ h=>h) fs2 kn0);refine eg func106 2 ?_
 refine Rn.bx D5 λb6 w6 D8=>?_
 replace D8:=D8.nb;refine gg 5 rfl (Rn.q rfl (V.ldB V32 rfl (D8.get 3 rfl) rfl) (Rn.q rfl (V.lenV U32 rfl) (Rn.q rfl (V.cv64 U3 U31 rfl) ?_)));obtain ⟨p9,e9,Y⟩:=bindE Y;have D10:=D8.cu [1,2,3] [0]
 refine Rn.a1 (cK func47) (m_pack_Writer_Num_sim e9 D10.lend :) D10 λF9_p0 w9 D12=>?_
 refine gg 5 rfl (Rn.q rfl (V.ldB V32 rfl (D12.get 2 rfl) rfl) (Rn.q rfl (V.lenV U32 rfl) (gg 2 rfl ?_)));refine Rn.jF D12 [1,2,99] Y (G:=T_pack_Writer×(Nat→Prop)) (λg=>[(0,pt b0 0),(3,pt b6 0)]) (λg=>[_,_,T_pack_Writer.obj (g.2) b0 (g.1)]) (λj g=>j g.1) ?_ ?_
 ·rintro ⟨y13,F13⟩ w14 D14 Y
  try dsimp only at Y
  refine gg 3 rfl (Rn.q rfl (V.ldB V32 rfl (D14.get 1 rfl) rfl) (Rn.q rfl (V.lenV U32 rfl) (gg 2 rfl ?_)));refine Rn.jF D14 [0,1,99] Y (G:=T_pack_Writer×(Nat→Prop)) (λg=>[]) (λg=>[_,_,T_pack_Writer.obj (g.2) b0 (g.1)]) (λj g=>j g.1) ?_ ?_
  ·rintro ⟨y15,F15⟩ w16 D16 Y
   try dsimp only at Y
   refine Rn.end0 func106 rfl ?_;obtain rfl:=someE Y;exact ⟨F15,rfl,D16.pk [2]⟩
  intro j2 Y K2;refine gg 1 rfl ?_;refine Rn.lF D14 [0,1,99] (G:=Int×T_pack_Writer×(Nat→Prop)) (λg=>[(0,pt b0 0),(21,.slice Ar2 (x1.Counts).length cr2),(22,iv (x1.Counts.length:Int)),(23,iv (g.1))]) (λg=>[_,_,T_pack_Writer.obj (g.2.2) b0 (g.2.1)]) (λn g=>m_point_side_L1 x1 j2 n g.1 g.2.1) fuel (0,y13,F13) sA (D14.pk [0,1,2]) Y ?_;clear Y;rintro m19 ⟨y17,y18,F18⟩ w19 D19 Y N19;replace Y:m_point_side_L1 x1 j2 (m19+1) y17 y18=some r:=Y;rw [m_point_side_L1] at Y;refine gg 5 rfl ?_;refine bD Y 5 1 (λh20 Y=>?_) (λh20 Y=>?_)
  ·obtain ⟨z21,e21,Y⟩:=bindE Y;refine Rn.ixH D19 0 rfl e21 rfl rfl rfl U32 O31 rfl rfl rfl rfl ?_;rintro b21 o21 vs21 ⟨rfl,_⟩ D21;refine Rn.q rfl (V.ldR0 V31 rfl (D21.get 3 rfl).2 rfl) (gg 5 rfl ?_);obtain ⟨p23,e23,Y⟩:=bindE Y;have D24:=D21.cu [0,1,3] [2]
   refine Rn.a1 (cK func47) (m_pack_Writer_Num_sim e23 D24.lend :) D24 λF23_p0 w23 D26=>?_
   refine gg 6 rfl ?_;exact N19 ((W64 (y17+1)),p23,F23_p0) _ _ sA (D26.pk [0,1,3]) Y
  exact K2 (y18,F18) _ _ (sb trivial) (D19.pk [0,1,2]) Y
 intro j1 Y K1;refine bD Y 3 1 (λh27 Y=>?_) (λh27 Y=>?_)
 ·refine Rn.q rfl (V.ldB V3 rfl (D12.get 2 rfl) rfl) ?_;obtain ⟨p28,e28,Y⟩:=bindE Y;have D29:=D12.cu [0,1,2] [3]
  refine Rn.a1 (cK func104) (m_pack_Writer_Int_sim e28 D29.lend :) D29 λF28_p0 w28 D31=>?_
  refine gg 1 rfl ?_;exact K1 (p28,F28_p0) _ _ sA (D31.pk [1,2,3]) Y
 exact K1 (p9,F9_p0) _ _ sA (D12.pk [1,2,3]) Y
theorem m_bytes_Clone_sim {x0:(List UInt8)} {r:(List UInt8)} (Y:m_bytes_Clone x0=some r) (f0:(slR A0 c0 byteR x0).H Z0 w) :
 Calls prog 107 #[.slice A0 (x0).length c0] w λx w'=>∃ A_0_0 c_0_0,x=.returned (.slice A_0_0 (r).length c_0_0)∧Hp Z0 No w w' [ownR 5 A_0_0 c_0_0 byteR r]:=by
 exact clone_107 w A0 c0 x0 f0 Y
theorem m_pack_Writer_Bytes_sim {x0:T_pack_Writer} {r:(List UInt8)} (Y:m_pack_Writer_Bytes x0=some r) (f0:(fzR (T_pack_Writer.obj F0 b0 x0)).H Z0 w) :
 Calls prog 52 #[pt b0 0] w λx w'=>∃ A_0_0 c_0_0,x=.returned (.slice A_0_0 (r).length c_0_0)∧Hp Z0 No w w' [ownR 5 A_0_0 c_0_0 byteR r]:=by
 obtain ⟨D0,D2,hc0⟩:=knA f0;refine eg func52 9 ?_;obtain ⟨_,⟨A3_0,c3_0,rfl⟩,D3⟩:=D2.unfz 0 rfl;replace D3:=D3.nq;have D7:=D3.fzSl 2 rfl;refine Rn.q rfl (V.ldB V51 rfl (D7.getz 1 rfl) rfl) ?_;obtain ⟨p8,e8,Y⟩:=bindE Y
 refine Rn.c2 (cK func107) (m_bytes_Clone_sim (Z0:=All) e8 (slR_all (D7.get 3 rfl)) :) λA8_0_0 c8_0_0 w8 Q8=>?_
 have D10:=D7.callF (flC (ownR_flat byte_flat _ _ _ _) fl0) Q8;refine gg 2 rfl ?_
 cases Y
 exact Rn.R1 func52 ⟨A8_0_0,c8_0_0,rfl,D10.pk [4]⟩
theorem m_point_Bytes_sim {x0:T_api_Point} {r:((List UInt8)×Int)} (Y:m_point_Bytes x0=some r) (h0:T_api_Point.rep.rel Z0 w cs0 x0) :
 Calls prog 49 #[.agg cs0.toArray] w λx w'=>∃ A_0_0 c_0_0,x=.returned (.tuple #[.slice A_0_0 (r.1).length c_0_0,iv r.2])∧Hp Z0 No w w' [ownR 5 A_0_0 c_0_0 byteR r.1]:=by
 have D0:=Hp.nil Z0 No w;have hc0:=Calm.nil;obtain ⟨Ar1,cr1,Ar3,cr3,Ar5,cr5,rfl,fs1,fs3,fs5⟩:=T_api_Point.relE h0;obtain ⟨D7,hc0⟩:=D0.kn hc0 fs1;obtain ⟨D8,hc0⟩:=D7.kn hc0 fs3;obtain ⟨D9,hc0⟩:=D8.kn hc0 fs5;refine eg func49 2 ?_
 refine Rn.bx D9 λb10 w10 D12=>?_
 replace D12:=D12.nb;refine gg 6 rfl (Rn.q rfl (V.ldBA [_,_,_,_,_,_,_,_,_,_,_,_,_,_,_,_,_] V38 O38 rfl (D12.get 3 rfl) rfl rfl) ?_);obtain ⟨p13,e13,Y⟩:=bindE Y
 refine Rn.c0 (cK func20) (m_point_Check_sim (Z0:=All) e13 (T_api_Point.relA (D12.get 0 rfl) (D12.get 1 rfl) (D12.get 2 rfl)) :) D12 λw13 _ D14=>?_
 refine gg 7 rfl ?_;refine bD Y 6 3 (λh15 Y=>?_) (λh15 Y=>?_)
 ·have D16:=D14.addNil 5 byteR
  cases Y
  exact Rn.R2 func49 ⟨none,0,rfl,D16.pk [4]⟩
 obtain ⟨p18,e18,Y⟩:=bindE Y
 refine Rn.c2 (cK func46) (m_pack_NewWriter_sim (Z0:=All) e18  :) λF18_0 b18_0 w18 Q18=>?_
 have D20:=D14.callF (flC ((T_pack_Writer.oflat _ _ _)) fl0) Q18;refine gg 5 rfl (Rn.q rfl (V.ldB V9 rfl (D20.get 3 rfl) rfl) (gg 1 rfl (Rn.q rfl (V.ldB V30 rfl (D20.get 3 rfl) rfl) ?_)));obtain ⟨p21,e21,Y⟩:=bindE Y
 refine Rn.c0 (cK func34) (m_label_Text_sim (Z0:=All) e21 (slR_all (D20.get 0 rfl)) :) D20 λw21 _ D22=>?_
 refine gg 10 rfl ?_;obtain ⟨p23,e23,Y⟩:=bindE Y;have D24:=D22.cu [0,1,2,3] [4]
 refine Rn.a1 (cK func51) (m_pack_Writer_Text_sim e23 D24.lend :) D24 λF23_p0 w23 D26=>?_
 refine gg 3 rfl ?_;refine Rn.drawH rfl D26 ?_;intro w27 D27;refine dq [0] ?_;refine RH.tk 1 rfl (λw' hDr=>V.ldB V3 rfl ((D27.ext hDr).get 3 rfl) rfl) ?_;refine dq [2] ?_;refine RH.tk 3 rfl (λw' hDr=>V.ldB V3 rfl ((D27.ext hDr).get 3 rfl) rfl) ?_;refine dq [4] ?_;refine RH.tk 5 rfl (λw' hDr=>V.ldB V4 rfl ((D27.ext hDr).get 3 rfl) rfl) ?_;refine dq [7] ?_;refine RH.tk 8 rfl (λw' hDr=>V.ldB V3 rfl ((D27.ext hDr).get 3 rfl) rfl) ?_;refine dq [9] ?_;refine RH.tk 10 rfl (λw' hDr=>V.ldB V3 rfl ((D27.ext hDr).get 3 rfl) rfl) ?_;refine dq [11] ?_;refine RH.tk 12 rfl (λw' hDr=>V.ldB V3 rfl ((D27.ext hDr).get 3 rfl) rfl) ?_;refine dq [13] ?_;refine RH.tk 14 rfl (λw' hDr=>V.ldB V3 rfl ((D27.ext hDr).get 3 rfl) rfl) ?_;refine dq [15,18] ?_;obtain ⟨p28,e28,Y⟩:=bindE Y;refine RH.cq (cK func35) 6 (m_point_bit_sim (Z0:=All) e28  :) ?_;rintro _ w28 ⟨rfl,Q28⟩;refine ⟨_,rfl,((Ext.refl _).trans Q28.fr),?_⟩;have D29:=D27.call0 Q28;refine RH.bslS 16 (by kernel_rfl) rfl rfl rfl U163 el3 rfl rfl rfl rfl (by first|exact szs rfl|(simp [Value.cells];done)) (by decide) ?_;intro b30 w30 hb30 m30 e30;have D31:=D29.addLit (rep:=(intR .i64)) (xs:=([x0.Kind,x0.Temp,p28,x0.Flags,x0.Start,W64 (x0.Time-x0.Start)]:List Int)) (vss:=[[iv x0.Kind],[iv x0.Temp],[iv p28],[iv x0.Flags],[iv x0.Start],[iv (W64 (x0.Time-x0.Start))]]) hb30 e30 m30 rfl rfl rfl ((rels_cons (λ_ _=>⟨rfl,trivial⟩) (rels_cons (λ_ _=>⟨rfl,trivial⟩) (rels_cons (λ_ _=>⟨rfl,trivial⟩) (rels_cons (λ_ _=>⟨rfl,trivial⟩) (rels_cons (λ_ _=>⟨rfl,trivial⟩) (rels_cons (λ_ _=>⟨rfl,trivial⟩) rels0)))))));refine ⟨(((Ext.refl _).trans Q28.fr).trans e30),?_⟩;refine RH.ho 17 rfl (V.lenV U163 rfl) ?_;refine RH.dn ?_;refine Rn.jF D31 [0,1,2,3,5,99] Y (G:=T_pack_Writer×(Nat→Prop)) (λg=>[(1,pt b10 0),(5,pt b18_0 0)]) (λg=>[_,_,_,_,_,T_pack_Writer.obj (g.2) b18_0 (g.1)]) (λj g=>j g.1) ?_ ?_
 ·rintro ⟨y33,F33⟩ w34 D34 Y
  try dsimp only at Y
  refine gg 4 rfl (Rn.q rfl (V.ldB V3 rfl (D34.get 3 rfl) rfl) (gg 1 rfl ?_));refine Rn.jF D34 [0,1,2,3,4,99] Y (G:=T_pack_Writer×(Nat→Prop)) (λg=>[(5,pt b18_0 0)]) (λg=>[_,_,_,_,_,T_pack_Writer.obj (g.2) b18_0 (g.1)]) (λj g=>j g.1) ?_ ?_
  ·rintro ⟨y35,F35⟩ w36 D36 Y
   try dsimp only at Y
   refine gg 3 rfl ?_;obtain ⟨p37,e37,Y⟩:=bindE Y
   refine Rn.c2 (cK func52) (m_pack_Writer_Bytes_sim (Z0:=All) e37 (fz_all (D36.get 5 rfl)) :) λA37_0_0 c37_0_0 w37 Q37=>?_
   have D39:=D36.callF (flC (ownR_flat byte_flat _ _ _ _) fl0) Q37;refine gg 3 rfl ?_
   cases Y
   exact Rn.R2 func49 ⟨A37_0_0,c37_0_0,rfl,D39.pk [6]⟩
  intro j2 Y K2;refine gg 6 rfl ?_;refine bD Y 3 5 (λh40 Y=>?_) (λh40 Y=>?_)
  ·refine Rn.q rfl (V.ldB V3 rfl (D34.get 3 rfl) rfl) ?_;obtain ⟨p41,e41,Y⟩:=bindE Y;have D42:=D34.cu [0,1,2,3,4] [5]
   refine Rn.a1 (cK func104) (m_pack_Writer_Int_sim e41 D42.lend :) D42 λF41_p0 w41 D44=>?_
   refine gg 2 rfl ?_;exact K2 (p41,F41_p0) _ _ sA (D44.pk [0,1,2,3,4,5]) Y
  refine bD Y 4 5 (λh45 Y=>?_) (λh45 Y=>?_)
  ·refine Rn.q rfl (V.ldB V31 rfl (D34.get 3 rfl) rfl) ?_;obtain ⟨p46,e46,Y⟩:=bindE Y;have D47:=D34.cu [0,1,2,3,4] [5]
   refine Rn.a1 (cK func105) (m_pack_Writer_Fix_sim e46 D47.lend :) D47 λF46_p0 w46 D49=>?_
   refine gg 4 rfl (Rn.q rfl (V.ldB V31 rfl (D49.get 3 rfl) rfl) ?_);obtain ⟨p50,e50,Y⟩:=bindE Y;have D51:=D49.cu [0,1,2,3,4] [5]
   refine Rn.a1 (cK func105) (m_pack_Writer_Fix_sim e50 D51.lend :) D51 λF50_p0 w50 D53=>?_
   refine gg 2 rfl ?_;exact K2 (p50,F50_p0) _ _ sA (D53.pk [0,1,2,3,4,5]) Y
  refine bD Y 5 3 (λh54 Y=>?_) (λh54 Y=>?_)
  ·refine Rn.q rfl (V.ldB V3 rfl (D34.get 3 rfl) rfl) ?_;obtain ⟨p55,e55,Y⟩:=bindE Y;have D56:=D34.cu [0,1,2,3,4] [5]
   refine Rn.a1 (cK func104) (m_pack_Writer_Int_sim e55 D56.lend :) D56 λF55_p0 w55 D58=>?_
   refine gg 6 rfl (Rn.q rfl (V.ldB V31 rfl (D58.get 3 rfl) rfl) ?_);obtain ⟨p59,e59,Y⟩:=bindE Y;have D60:=D58.cu [0,1,2,3,4] [5]
   refine Rn.a1 (cK func47) (m_pack_Writer_Num_sim e59 D60.lend :) D60 λF59_p0 w59 D62=>?_
   refine gg 6 rfl (Rn.q rfl (V.ldBA [_,_] V34 O34 rfl (D62.get 3 rfl) rfl rfl) ?_);obtain ⟨p63,e63,Y⟩:=bindE Y;have D64:=D62.know (relR T_api_Side.rep [iv x0.Hist.Pos.Offset,.slice Ar3 (x0.Hist.Pos.Counts).length cr3] x0.Hist.Pos) (λ_ h=>h) (show T_api_Side.rep.rel _ _ _ _ from (T_api_Side.relI (D62.get 1 rfl)));have D66:=D64.cu [0,1,2,3,4] [5,6]
   refine Rn.a1 (cK func106) (m_point_side_sim e63 D66.lend :) D66 λF63_p0 w63 D68=>?_
   refine gg 5 rfl (Rn.q rfl (V.ldBA [_,_] V34 O34 rfl (D68.get 3 rfl) rfl rfl) ?_);obtain ⟨p69,e69,Y⟩:=bindE Y;have D70:=D68.know (relR T_api_Side.rep [iv x0.Hist.Neg.Offset,.slice Ar5 (x0.Hist.Neg.Counts).length cr5] x0.Hist.Neg) (λ_ h=>h) (show T_api_Side.rep.rel _ _ _ _ from (T_api_Side.relI (D68.get 2 rfl)));have D72:=D70.cu [0,1,2,3,4] [5,6]
   refine Rn.a1 (cK func106) (m_point_side_sim e69 D72.lend :) D72 λF69_p0 w69 D74=>?_
   refine gg 2 rfl ?_;exact K2 (p69,F69_p0) _ _ sA (D74.pk [0,1,2,3,4,5]) Y
  refine Rn.q rfl (V.ldB V31 rfl (D34.get 3 rfl) rfl) ?_;obtain ⟨p75,e75,Y⟩:=bindE Y;have D76:=D34.cu [0,1,2,3,4] [5]
  refine Rn.a1 (cK func105) (m_pack_Writer_Fix_sim e75 D76.lend :) D76 λF75_p0 w75 D78=>?_
  refine gg 2 rfl ?_;exact K2 (p75,F75_p0) _ _ sA (D78.pk [0,1,2,3,4,5]) Y
 intro j1 Y K1;refine gg 1 rfl ?_;refine Rn.lF D31 [0,1,2,3,5,99] (G:=Int×T_pack_Writer×(Nat→Prop)) (λg=>[(1,pt b10 0),(5,pt b18_0 0),(43,.slice (some ⟨b30,0,none⟩) (([x0.Kind,x0.Temp,p28,x0.Flags,x0.Start,W64 (x0.Time-x0.Start)]:List Int)).length 6),(44,iv (([x0.Kind,x0.Temp,p28,x0.Flags,x0.Start,W64 (x0.Time-x0.Start)]:List Int).length:Int)),(45,iv (g.1))]) (λg=>[_,_,_,_,_,T_pack_Writer.obj (g.2.2) b18_0 (g.2.1)]) (λn g=>m_point_Bytes_L1 x0 p28 j1 n g.1 g.2.1) fuel (0,p23,F23_p0) sA (D31.pk [0,1,2,3,5,4]) Y ?_;clear Y;rintro m81 ⟨y79,y80,F80⟩ w81 D81 Y N81;replace Y:m_point_Bytes_L1 x0 p28 j1 (m81+1) y79 y80=some r:=Y;rw [m_point_Bytes_L1] at Y;refine gg 5 rfl ?_;refine bD Y 5 1 (λh82 Y=>?_) (λh82 Y=>?_)
 ·obtain ⟨z83,e83,Y⟩:=bindE Y;obtain ⟨kk83,ke83,kz83,kl83⟩:=idxE e83;obtain ⟨vs83,hR83,hrel83⟩:=D81.ownAtL 4 rfl kz83;obtain ⟨rfl,_⟩:=hrel83;refine Rn.q rfl (V.ixE kk83 U163 O3 rfl rfl ke83 kl83) (Rn.q rfl (V.ldR0 V3 rfl hR83 rfl) (gg 5 rfl (Rn.q rfl (V.cv64 U3 U31 rfl) ?_)));obtain ⟨p84,e84,Y⟩:=bindE Y;have D85:=D81.cu [0,1,2,3,4] [5]
  refine Rn.a1 (cK func47) (m_pack_Writer_Num_sim e84 D85.lend :) D85 λF84_p0 w84 D87=>?_
  refine gg 6 rfl ?_;exact N81 ((W64 (y79+1)),p84,F84_p0) _ _ sA (D87.pk [0,1,2,3,4,5]) Y
 exact K1 (y80,F80) _ _ sA (D81.pk [0,1,2,3,4,5]) Y
theorem m_convert_Converter_Save_sim {x0:T_convert_Converter} {r:(List UInt8)} (Y:m_convert_Converter_Save x0=some r) (hL:Lent Z0 w [T_convert_Converter.obj F0 b0 x0]) :
 Calls prog 18 #[pt b0 0] w λx w'=>∃ A_0_0 c_0_0 F_p0,x=.returned (.slice A_0_0 (r).length c_0_0)∧Hp Z0 (LS [T_convert_Converter.obj F0 b0 x0]) w w' [ownR 5 A_0_0 c_0_0 byteR r,T_convert_Converter.obj F_p0 b0 x0]:=by
 have D0:=hL.start;refine eg func18 6 ?_;obtain ⟨p2,e2,Y⟩:=bindE Y
 refine Rn.c2 (cK func46) (m_pack_NewWriter_sim (Z0:=All) e2  :) λF2_0 b2_0 w2 Q2=>?_
 have D4:=D0.callF (flC ((T_pack_Writer.oflat _ _ _)) fl0) Q2;refine gg 8 rfl ?_;obtain ⟨_,⟨F5_0,b5_0,rfl⟩,D5⟩:=D4.unf 0 rfl;replace D5:=D5.nq;refine Rn.q rfl (V.ldB V67 rfl (D5.get 1 rfl) rfl) ?_;obtain ⟨p7,e7,Y⟩:=bindE Y
 refine Rn.c0 (cK func45) (m_table_Table_convert_kept_Len_sim (Z0:=All) e7 (fz_all (D5.get 2 rfl)) :) D5 λw7 _ D8=>?_
 refine Rn.q rfl (V.cv64 U3 U31 rfl) ?_;obtain ⟨p9,e9,Y⟩:=bindE Y;have D10:=D8.cu [1,2] [0]
 refine Rn.a1 (cK func47) (m_pack_Writer_Num_sim e9 D10.lend :) D10 λF9_p0 w9 D12=>?_
 refine gg 7 rfl (Rn.q rfl (V.ldB V67 rfl (D12.get 0 rfl) rfl) ?_);obtain ⟨p13,e13,Y⟩:=bindE Y
 refine Rn.c2 (cK func48) (m_table_Table_convert_kept_Keys_sim (Z0:=All) e13 (fz_all (D12.get 1 rfl)) :) λA13_0_0 c13_0_0 w13 Q13=>?_
 have D15:=D12.callF (flC (ownR_flat text_flat _ _ _ _) fl0) Q13;refine Rn.q rfl (V.lenV U102 rfl) (gg 2 rfl ?_);have D17:=D15.cu [2,3] [0,1];obtain ⟨F16,D16⟩:=D17.fold (T_convert_Converter.sh b0 x0) ⟨F5_0,b5_0,rfl⟩;refine Rn.jF D16 [1,99,99] Y (G:=T_pack_Writer×(Nat→Prop)×(Nat→Prop)) (λg=>[(3,pt b2_0 0)]) (λg=>[_,T_convert_Converter.obj (g.2.1) b0 x0,T_pack_Writer.obj (g.2.2) b2_0 (g.1)]) (λj g=>j g.1) ?_ ?_
 ·rintro ⟨y19,F18,F19⟩ w20 D20 Y
  try dsimp only at Y
  refine gg 3 rfl ?_;obtain ⟨p21,e21,Y⟩:=bindE Y
  refine Rn.c2 (cK func52) (m_pack_Writer_Bytes_sim (Z0:=All) e21 (fz_all (D20.get 2 rfl)) :) λA21_0_0 c21_0_0 w21 Q21=>?_
  have D23:=D20.callF (flC (ownR_flat byte_flat _ _ _ _) fl0) Q21;refine gg 2 rfl ?_
  cases Y
  exact Rn.R1 func18 ⟨A21_0_0,c21_0_0,F18,rfl,D23.pk [3,1]⟩
 intro j1 Y K1;refine gg 1 rfl ?_;refine Rn.lF D16 [1,99,99] (G:=Int×T_pack_Writer×(Nat→Prop)×(Nat→Prop)) (λg=>[(0,pt b0 0),(3,pt b2_0 0),(23,.slice A13_0_0 (p13).length c13_0_0),(24,iv (p13.length:Int)),(25,iv (g.1))]) (λg=>[_,T_convert_Converter.obj (g.2.2.1) b0 x0,T_pack_Writer.obj (g.2.2.2) b2_0 (g.2.1)]) (λn g=>m_convert_Converter_Save_L1 x0 p13 j1 n g.1 g.2.1) fuel (0,p9,F16,F9_p0) sA (D16.pk [1,2,0]) Y ?_;clear Y;rintro m27 ⟨y25,y26,F24,F26⟩ w27 D27 Y N27;replace Y:m_convert_Converter_Save_L1 x0 p13 j1 (m27+1) y25 y26=some r:=Y;rw [m_convert_Converter_Save_L1] at Y;refine gg 5 rfl ?_;refine bD Y 5 1 (λh28 Y=>?_) (λh28 Y=>?_)
 ·obtain ⟨z29,e29,Y⟩:=bindE Y;obtain ⟨kk29,ke29,kz29,kl29⟩:=idxE e29;obtain ⟨g29,vs29,hA29,hR29,hrel29⟩:=D27.ownAt 0 rfl kz29;subst hA29;obtain ⟨rfl,_⟩:=hrel29;refine Rn.q rfl (V.ixE kk29 U102 O9 rfl rfl ke29 kl29) (Rn.q rfl (V.ldR0 V9 rfl hR29 rfl) (gg 7 rfl ?_));obtain ⟨_,⟨F30_0,b30_0,rfl⟩,D30⟩:=D27.unf 1 rfl;replace D30:=D30.nq;refine Rn.q rfl (V.ldB V67 rfl (D30.get 2 rfl) rfl) (gg 1 rfl ?_);obtain ⟨p32,e32,Y⟩:=bindE Y;have D33:=D30.cu [0,1,2] [3];refine Rn.cq (cK func29) (m_table_Table_convert_kept_Get_sim e32 D33.lend :) ?_;rintro _ w32 ⟨A32_0_0,c32_0_0,A32_0_1,c32_0_1,A32_0_2,c32_0_2,A32_0_3,c32_0_3,A32_0_4,c32_0_4,F32_p0,rfl,Q32⟩;refine ⟨_,rfl,?_⟩;have D40:=D33.callAZ Q32;refine gg 3 rfl (Rn.als rfl rfl rfl Tryz.zeroValue72 rfl O72 rfl rfl rfl rfl (by first|exact ones rfl|(simp [Value.oneCell'];done)) ?_);intro b41 w41 hb41 m41 e41;have D43:=(D40.addBox hb41 e41 m41).nb;refine gg 4 rfl (Rn.q rfl (V.ldBA [_,_,_,_,_,_,_,_,_,_,_,_,_,_,_,_,_,_,_,_,_,_,_,_,_,_,_,_,_] V72 O72 rfl (D43.get 9 rfl) rfl rfl) ?_);obtain ⟨p44,e44,Y⟩:=bindE Y;refine Rn.cq (cK func50) (m_convert_kept_asPoint_sim (Z0:=D43.Z) e44 (T_convert_kept.relI (D43.get 3 rfl) (D43.get 4 rfl) (D43.get 5 rfl) (D43.get 6 rfl) (D43.get 7 rfl)) :) ?_;rintro _ w44 ⟨A44_0_0,c44_0_0,A44_0_1,c44_0_1,A44_0_2,c44_0_2,rfl,Q44⟩;refine ⟨_,rfl,?_⟩;have D48:=D43.callZ Q44;replace D48:=D48.nq;obtain ⟨p49,e49,Y⟩:=bindE Y
  refine Rn.c2 (cK func49) (m_point_Bytes_sim (Z0:=All) e49 (T_api_Point.relA (D48.get 10 rfl) (D48.get 11 rfl) (D48.get 12 rfl)) :) λA49_0_0 c49_0_0 w49 Q49=>?_
  have D51:=D48.callF (flC (ownR_flat byte_flat _ _ _ _) fl0) Q49;replace D51:=D51.nq;refine gg 9 rfl (Rn.q rfl (V.b2s U51 U9 U5 rfl rfl (Own.sl (D51.get 13 rfl))) ?_);obtain ⟨p52,e52,Y⟩:=bindE Y;have D53:=D51.cu [0,2,3,4,5,6,7,8,9,10,11,12,13] [1]
  refine Rn.a1 (cK func51) (m_pack_Writer_Text_sim e52 D53.lend :) D53 λF52_p0 w52 D55=>?_
  refine gg 6 rfl ?_;have D57:=D55.cu [0,2,3,4,5,6,8,9,10,11,12,13] [1,7];obtain ⟨F56,D56⟩:=D57.fold (T_convert_Converter.sh b0 x0) ⟨F32_p0,b30_0,rfl⟩;exact N27 ((W64 (y25+1)),p52,F56,F52_p0) _ _ sA (D56.pk [0,12,11]) Y
 exact K1 (y26,F24,F26) _ _ sA (D27.pk [0,1,2]) Y
theorem m_pack_NewReader_sim {x0:(List UInt8)} {r:T_pack_Reader} (Y:m_pack_NewReader x0=some r) (f0:(slR A0 c0 byteR x0).H Z0 w) :
 Calls prog 65 #[.slice A0 (x0).length c0] w λx w'=>∃ F_0 b_0,x=.returned (pt b_0 0)∧Hp Z0 No w w' [T_pack_Reader.obj F_0 b_0 r]:=by
 obtain ⟨D0,D2,hc0⟩:=knA f0;refine eg func65 7 ?_;obtain ⟨p3,e3,Y⟩:=bindE Y
 refine Rn.c2 (cK func107) (m_bytes_Clone_sim (Z0:=All) e3 (slR_all (D2.get 0 rfl)) :) λA3_0_0 c3_0_0 w3 Q3=>?_
 have D5:=D2.callF (flC (ownR_flat byte_flat _ _ _ _) fl0) Q3;refine Rn.q rfl (V.bldS (cs:=[_,_,_]) st181 rfl rfl) (Rn.bx D5 λb6 w6 D8=>?_);replace D8:=D8.nb;refine gg 2 rfl ?_;have D10:=D8.freeze 1 rfl;have D11:=D10.dup 1 rfl (λ_ h=>h);have D14:=D11.cu [0,1] [2,3];obtain ⟨F13,D13⟩:=D14.fold (T_pack_Reader.sh b6 (⟨p3,0,0⟩:T_pack_Reader)) ⟨A3_0_0,c3_0_0,rfl⟩
 cases Y
 exact Rn.R1 func65 ⟨F13,b6,rfl,D13.pk [2]⟩
theorem m_pack_Reader_Left_sim {x0:T_pack_Reader} {r:Int} (Y:m_pack_Reader_Left x0=some r) (f0:(fzR (T_pack_Reader.obj F0 b0 x0)).H Z0 w) :
 Calls prog 131 #[pt b0 0] w λx w'=>x=.returned (iv r)∧Hp Z0 No w w' []:=by
 obtain ⟨D0,D2,hc0⟩:=knA f0;refine eg func131 5 ?_;obtain ⟨_,⟨A4_0,c4_0,rfl⟩,D4⟩:=D2.unfz 0 rfl;replace D4:=D4.nq;have D8:=D4.fzS 2 rfl;refine Rn.drawP rfl D8 ?_;intro w3 D3;refine dq [0,1,2] ?_;refine RH.tp 3 rfl (V.ldB V51 rfl (D3.getz 1 rfl) rfl) ?_;refine RH.tp 4 rfl (V.lenV U51 rfl) ?_;refine dq [5,6,7] ?_;refine RH.tp 8 rfl (V.ldB V3 rfl (D3.getz 1 rfl) rfl) ?_;refine dq [9,10] ?_;refine RH.dn ?_
 cases Y
 exact Rn.R1 func131 ⟨rfl,D3.pk []⟩
theorem m_math_bits_Len8_sim {x0:UInt8} {r:Int} (Y:m_math_bits_Len8 x0=some r)  :
 Calls prog 209 #[u8v x0] w λx w'=>x=.returned (iv r)∧Hp Z0 No w w' []:=by
 have D0:=Hp.nil Z0 No w;have hc0:=Calm.nil;refine eg func209 7 ?_;obtain ⟨z1,e1,Y⟩:=bindE Y;refine Rn.q rfl (V.idxSZ U9 rfl rfl e1) (Rn.q rfl (V.cv8i (a:=z1) U5 U3 rfl) (gg 2 rfl ?_))
 cases Y
 exact Rn.R1 func209 ⟨rfl,D0.pk []⟩
theorem m_math_bits_LeadingZeros8_sim {x0:UInt8} {r:Int} (Y:m_math_bits_LeadingZeros8 x0=some r)  :
 Calls prog 171 #[u8v x0] w λx w'=>x=.returned (iv r)∧Hp Z0 No w w' []:=by
 have D0:=Hp.nil Z0 No w;have hc0:=Calm.nil;refine eg func171 7 ?_;obtain ⟨p1,e1,Y⟩:=bindE Y
 refine Rn.c0 (cK func209) (m_math_bits_Len8_sim (Z0:=All) e1  :) D0 λw1 _ D2=>?_
 refine gg 3 rfl ?_
 cases Y
 exact Rn.R1 func171 ⟨rfl,D2.pk []⟩
theorem m_pack_Reader_fail_sim {x0:T_pack_Reader} {x1:Int} {r:T_pack_Reader} (Y:m_pack_Reader_fail x0 x1=some r) (hL:Lent Z0 w [T_pack_Reader.obj F0 b0 x0]) :
 Calls prog 124 #[pt b0 0,iv x1] w λx w'=>∃ F_p0,x=.returned (.tuple #[])∧Hp Z0 (LS [T_pack_Reader.obj F0 b0 x0]) w w' [T_pack_Reader.obj F_p0 b0 r]:=by
 have D0:=hL.start;refine eg func124 5 ?_;obtain ⟨_,⟨A2_0,c2_0,rfl⟩,D2⟩:=D0.unf 0 rfl;replace D2:=D2.nq;refine Rn.q rfl (V.ldB V39 rfl (D2.get 0 rfl) rfl) (gg 2 rfl ?_);refine bD Y 5 1 (λh4 Y=>?_) (λh4 Y=>?_)
 ·refine Rn.sn D2 0 O39 λw5 D6=>?_
  refine gg 1 rfl ?_;have D7:=D6.dup 1 rfl (λ_ h=>h);have D10:=D7.cu [1] [0,2];obtain ⟨F9,D9⟩:=D10.fold (T_pack_Reader.sh b0 (⟨x0.b,x0.at_,x1⟩:T_pack_Reader)) ⟨A2_0,c2_0,rfl⟩;refine Rn.end0 func124 rfl ?_;obtain rfl:=someE Y;exact ⟨F9,rfl,D9.pk [1]⟩
 have D11:=D2.dup 1 rfl (λ_ h=>h);have D14:=D11.cu [1] [0,2];obtain ⟨F13,D13⟩:=D14.fold (T_pack_Reader.sh b0 x0) ⟨A2_0,c2_0,rfl⟩;refine Rn.end0 func124 rfl ?_;obtain rfl:=someE Y;exact ⟨F13,rfl,D13.pk [1]⟩
theorem m_pack_Reader_Num_sim {x0:T_pack_Reader} {r:(UInt64×T_pack_Reader)} (Y:m_pack_Reader_Num x0=some r) (hL:Lent Z0 w [T_pack_Reader.obj F0 b0 x0]) :
 Calls prog 123 #[pt b0 0] w λx w'=>∃ F_p0,x=.returned (u64v r.1)∧Hp Z0 (LS [T_pack_Reader.obj F0 b0 x0]) w w' [T_pack_Reader.obj F_p0 b0 r.2]:=by
 have D0:=hL.start;refine eg func123 5 ?_;obtain ⟨j1,hj1,Y⟩:=jnE Y;refine Rn.joinL (r:=r) (G:=(Nat→Prop)) 0 rfl (λg=>[(0,pt b0 0)]) (λg w'=>Hp Z0 (LS [T_pack_Reader.obj F0 b0 x0]) w w' [T_pack_Reader.obj g b0 x0]) (λg=>j1 ()) ?_ ?_
 ·subst hj1;clear Y;rintro F2 w3 D3 Y
  try dsimp only at Y
  refine gg 3 rfl ?_;obtain ⟨p4,e4,Y⟩:=bindE Y;have D5:=D3.cu [] [0]
  refine Rn.a1 (cK func124) (m_pack_Reader_fail_sim e4 D5.lend :) D5 λF4_p0 w4 D7=>?_
  refine gg 5 rfl ?_
  cases Y
  exact Rn.R1 func123 ⟨F4_p0,rfl,D7.pk [0]⟩
 intro K1;clear hj1;refine gg 14 rfl ?_;obtain ⟨_,⟨A8_0,c8_0,rfl⟩,D8⟩:=D0.unf 0 rfl;replace D8:=D8.nq;refine Rn.q rfl (V.ldB V39 rfl (D8.get 0 rfl) rfl) (gg 2 rfl ?_);refine bD Y 4 5 (λh10 Y=>?_) (λh10 Y=>?_)
 ·have D11:=D8.dup 1 rfl (λ_ h=>h);have D14:=D11.cu [1] [0,2];obtain ⟨F13,D13⟩:=D14.fold (T_pack_Reader.sh b0 x0) ⟨A8_0,c8_0,rfl⟩
  cases Y
  exact Rn.R1 func123 ⟨F13,rfl,D13.pk [1]⟩
 have D16:=D8.dup 1 rfl (λ_ h=>h);have D19:=D16.cu [1] [0,2];obtain ⟨F18,D18⟩:=D19.fold (T_pack_Reader.sh b0 x0) ⟨A8_0,c8_0,rfl⟩;obtain ⟨p15,e15,Y⟩:=bindE Y
 refine Rn.c0 (cK func131) (m_pack_Reader_Left_sim (Z0:=All) e15 (fz_all (D18.get 1 rfl)) :) D18 λw15 _ D20=>?_
 refine gg 2 rfl ?_;refine bD Y 3 2 (λh21 Y=>?_) (λh21 Y=>?_)
 ·exact K1 F18 _ _ sA (D20.pk [1]) Y
 refine Rn.drawH rfl D20 ?_;intro w22 D22;refine dq [0,1,2] ?_;obtain ⟨_,⟨A23_0,c23_0,rfl⟩,D23⟩:=D22.unf 1 rfl;replace D23:=D23.nq;refine RH.tk 3 rfl (λw' hDr=>V.ldB V51 rfl ((D23.ext hDr).get 1 rfl) rfl) ?_;refine dq [4,5,6] ?_;refine RH.ho 7 rfl (V.ldB V3 rfl (D23.get 1 rfl) rfl) ?_;obtain ⟨z25,e25,Y⟩:=bindE Y;obtain ⟨kk25,ke25,kz25,kl25⟩:=idxE e25;obtain ⟨b25,o25,vs25,hA25,hD25,hR25,hrel25⟩:=Hp.at D23 2 rfl kz25;obtain ⟨rfl,_⟩:=hrel25;have D27:=Hp.knowL [rdR b25 (o25+kk25*1) [u8v z25]] _ D23 (knC (λ_ h=>h) ⟨λ_=>hD25,hR25⟩ kn0);refine RH.ho 8 rfl (V.ixA' hA25 kk25 U51 O5 rfl rfl ke25 kl25) ?_;refine RH.ho 9 rfl (V.ldR0 V5 rfl (D27.get 3 rfl).2 rfl) ?_;refine RH.ho 10 rfl (V.com8 (a:=z25) rfl) ?_;obtain ⟨p28,e28,Y⟩:=bindE Y;refine RH.cq (cK func171) 11 (m_math_bits_LeadingZeros8_sim (Z0:=All) e28  :) ?_;rintro _ w28 ⟨rfl,Q28⟩;refine ⟨_,rfl,((Ext.refl _).trans Q28.fr),?_⟩;have D29:=D27.call0 Q28;refine dq [12] ?_;refine RH.dn ?_;refine gg 5 rfl ?_;have D31:=D29.dup 2 rfl (λ_ h=>h);have D34:=D31.cu [0,2,3] [1,4];obtain ⟨F33,D33⟩:=D34.fold (T_pack_Reader.sh b0 x0) ⟨A23_0,c23_0,rfl⟩;obtain ⟨p30,e30,Y⟩:=bindE Y
 refine Rn.c0 (cK func131) (m_pack_Reader_Left_sim (Z0:=All) e30 (fz_all (D33.get 3 rfl)) :) D33 λw30 _ D35=>?_
 refine gg 2 rfl ?_;refine bD Y 3 7 (λh36 Y=>?_) (λh36 Y=>?_)
 ·exact K1 F33 _ _ sA (D35.pk [3]) Y
 refine Rn.jG D0 Y (G:=UInt64×(Nat→Prop)) (λg=>[(0,pt b0 0),(3,iv p28),(4,u64v (g.1))]) (λg=>[T_pack_Reader.obj (g.2) b0 x0]) (λj g=>j g.1) ?_ ?_
 ·rintro ⟨y38,F37⟩ w39 D39 Y
  try dsimp only at Y
  refine gg 2 rfl ?_;refine Rn.drawP rfl D39 ?_;intro w40 D40;refine dq [0,1,2] ?_;obtain ⟨_,⟨A41_0,c41_0,rfl⟩,D41⟩:=D40.unf 0 rfl;replace D41:=D41.nq;refine RH.tp 3 rfl (V.ldB V51 rfl (D41.get 0 rfl) rfl) ?_;refine dq [4,5,6] ?_;refine RH.tp 7 rfl (V.ldB V3 rfl (D41.get 0 rfl) rfl) ?_;refine dq [8,9,10,11] ?_;refine RH.tp 12 rfl (V.ldB V3 rfl (D41.get 0 rfl) rfl) ?_;refine dq [13,14,15] ?_;obtain ⟨z43,e43,Y⟩:=bindE Y;refine RH.cutH 16 (by kernel_rfl) D41 1 rfl e43 rfl rfl rfl U51 O5 rfl rfl rfl rfl rfl ?_;intro A43 c43 D43;refine RH.tp 17 rfl (V.lenV U51 rfl) ?_;refine dq [18] ?_;refine RH.dn ?_;have D45:=D43.dup 1 rfl (λ_ h=>h);have D48:=D45.cu [1,2] [0,3];obtain ⟨F47,D47⟩:=D48.fold (T_pack_Reader.sh b0 x0) ⟨A41_0,c41_0,rfl⟩;refine Rn.jG D0 Y (G:=UInt64×(Nat→Prop)) (λg=>[(0,pt b0 0),(3,iv p28),(4,u64v (g.1))]) (λg=>[T_pack_Reader.obj (g.2) b0 x0]) (λj g=>j g.1) ?_ ?_
  ·rintro ⟨y50,F49⟩ w51 D51 Y
   try dsimp only at Y
   refine gg 4 rfl ?_;obtain ⟨p52,e52,Y⟩:=bindE Y
   refine Rn.c0 (cK func101) (m_pack_others_sim (Z0:=All) e52  :) D51 λw52 _ D53=>?_
   refine gg 3 rfl ?_;refine bD Y 3 6 (λh54 Y=>?_) (λh54 Y=>?_)
   ·obtain ⟨p55,e55,Y⟩:=bindE Y;have D56:=D53.cu [] [0]
    refine Rn.a1 (cK func124) (m_pack_Reader_fail_sim e55 D56.lend :) D56 λF55_p0 w55 D58=>?_
    refine gg 5 rfl ?_
    cases Y
    exact Rn.R1 func123 ⟨F55_p0,rfl,D58.pk [0]⟩
   obtain ⟨_,⟨A59_0,c59_0,rfl⟩,D59⟩:=D53.unf 0 rfl;replace D59:=D59.nq;refine Rn.q rfl (V.ldB V3 rfl (D59.get 0 rfl) rfl) (gg 5 rfl (Rn.sn D59 0 O3 λw61 D62=>?_));refine gg 7 rfl ?_;have D63:=D62.dup 1 rfl (λ_ h=>h);have D66:=D63.cu [1] [0,2];obtain ⟨F65,D65⟩:=D66.fold (T_pack_Reader.sh b0 (⟨x0.b,W64 (x0.at_+(W64 (1+p28))),x0.e⟩:T_pack_Reader)) ⟨A59_0,c59_0,rfl⟩
   cases Y
   exact Rn.R1 func123 ⟨F65,rfl,D65.pk [1]⟩
  intro j3 Y K3;refine gg 1 rfl ?_;refine Rn.lF D47 [1,99] (G:=UInt64×Int×(Nat→Prop)) (λg=>[(0,pt b0 0),(3,iv p28),(4,u64v (g.1)),(64,.slice A43 (z43).length c43),(65,iv (z43.length:Int)),(66,iv (g.2.1))]) (λg=>[_,T_pack_Reader.obj (g.2.2) b0 x0]) (λn g=>m_pack_Reader_Num_L1 z43 j3 n g.1 g.2.1) fuel (y38,0,F47) sA (D47.pk [1,2]) Y ?_;clear Y;rintro m70 ⟨y68,y69,F67⟩ w70 D70 Y N70;replace Y:m_pack_Reader_Num_L1 z43 j3 (m70+1) y68 y69=some r:=Y;rw [m_pack_Reader_Num_L1] at Y;refine gg 5 rfl ?_;refine bD Y 5 1 (λh71 Y=>?_) (λh71 Y=>?_)
  ·obtain ⟨z72,e72,Y⟩:=bindE Y;refine Rn.ixH D70 0 rfl e72 rfl rfl rfl U51 O5 rfl rfl rfl rfl ?_;rintro b72 o72 vs72 ⟨rfl,_⟩ D72;refine Rn.q rfl (V.ldR0 V5 rfl (D72.get 2 rfl).2 rfl) (gg 4 rfl (Rn.q rfl (V.sh64 rfl rfl _ 8 rfl rfl (b64_shl _ _ _ 8 (by decide))) (gg 1 rfl (Rn.q rfl (V.cv64 U5 U31 rfl) (Rn.q rfl (V.o64 rfl rfl (y68<<<UInt64.ofNat 8) (toU64 ((z72).toNat:Int)) rfl rfl (b64_or _ _ _)) (gg 7 rfl ?_))))));exact N70 (((y68<<<UInt64.ofNat 8)|||(toU64 ((z72).toNat:Int))),(W64 (y69+1)),F67) _ _ sA (D72.pk [0,1]) Y
  exact K3 (y68,F67) _ _ sA (D70.pk [1]) Y
 intro j2 Y K2;refine aD Y (λh74 Y=>?_) (λh74 Y=>?_)
 ·refine Rn.drawP rfl D35 ?_;intro w75 D75;refine dq [0,1,2] ?_;obtain ⟨_,⟨A76_0,c76_0,rfl⟩,D76⟩:=D75.unf 3 rfl;replace D76:=D76.nq;refine RH.tp 3 rfl (V.ldB V51 rfl (D76.get 3 rfl) rfl) ?_;refine dq [4,5,6] ?_;refine RH.tp 7 rfl (V.ldB V3 rfl (D76.get 3 rfl) rfl) ?_;obtain ⟨z78,e78,Y⟩:=bindE Y;obtain ⟨kk78,ke78,kz78,kl78⟩:=idxE e78;obtain ⟨b78,o78,vs78,hA78,hD78,hR78,hrel78⟩:=Hp.at D76 4 rfl kz78;obtain ⟨rfl,_⟩:=hrel78;have D80:=Hp.knowL [rdR b78 (o78+kk78*1) [u8v z78]] _ D76 (knC (λ_ h=>h) ⟨λ_=>hD78,hR78⟩ kn0);refine RH.tp 8 rfl (V.ixA' hA78 kk78 U51 O5 rfl rfl ke78 kl78) ?_;refine RH.tp 9 rfl (V.ldR0 V5 rfl (D80.get 5 rfl).2 rfl) ?_;refine dq [10] ?_;refine RH.tp 11 rfl (V.cv64 U3 U134 rfl) ?_;refine RH.tp 12 rfl (V.shr8 (a:=(127:UInt8)) (m:=(toU64 p28).toNat) rfl rfl) ?_;refine RH.tp 13 rfl (V.and8 (a:=z78) (b:=shr8 (127:UInt8) ((toU64 p28).toNat)) rfl rfl) ?_;refine RH.tp 14 rfl (V.cv64 U5 U31 rfl) ?_;refine dq [15] ?_;refine RH.dn ?_;have D81:=D80.dup 4 rfl (λ_ h=>h);have D84:=D81.cu [0,1,2,4,5] [3,6];obtain ⟨F83,D83⟩:=D84.fold (T_pack_Reader.sh b0 x0) ⟨A76_0,c76_0,rfl⟩;exact K2 ((toU64 ((z78&&&(shr8 (127:UInt8) ((toU64 p28).toNat))).toNat:Int)),F83) _ _ sA (D83.pk [5]) Y
 refine gg 1 rfl ?_;exact K2 ((0:UInt64),F33) _ _ sA (D35.pk [3]) Y
theorem m_pack_Reader_Count_sim {x0:T_pack_Reader} {x1:Int} {r:(Int×T_pack_Reader)} (Y:m_pack_Reader_Count x0 x1=some r) (hL:Lent Z0 w [T_pack_Reader.obj F0 b0 x0]) :
 Calls prog 66 #[pt b0 0,iv x1] w λx w'=>∃ F_p0,x=.returned (iv r.1)∧Hp Z0 (LS [T_pack_Reader.obj F0 b0 x0]) w w' [T_pack_Reader.obj F_p0 b0 r.2]:=by
 have D0:=hL.start;refine eg func66 9 ?_;obtain ⟨_,⟨A2_0,c2_0,rfl⟩,D2⟩:=D0.unf 0 rfl;replace D2:=D2.nq;refine Rn.q rfl (V.ldB V3 rfl (D2.get 0 rfl) rfl) (gg 5 rfl ?_);have D5:=D2.dup 1 rfl (λ_ h=>h);have D8:=D5.cu [1] [0,2];obtain ⟨F7,D7⟩:=D8.fold (T_pack_Reader.sh b0 x0) ⟨A2_0,c2_0,rfl⟩;obtain ⟨p4,e4,Y⟩:=bindE Y;have D9:=D7.cu [0] [1]
 refine Rn.a1 (cK func123) (m_pack_Reader_Num_sim e4 D9.lend :) D9 λF4_p0 w4 D11=>?_
 refine gg 8 rfl ?_;obtain ⟨_,⟨A12_0,c12_0,rfl⟩,D12⟩:=D11.unf 1 rfl;replace D12:=D12.nq;refine Rn.q rfl (V.ldB V39 rfl (D12.get 1 rfl) rfl) (gg 2 rfl ?_);refine Rn.cutR [] [(0,pt b0 0),(5,iv x0.at_),(6,u64v p4.1),(27,.bool (decide ((p4.2.e=0)∧((x1<0)∨(((p4.1).toNat:Int)>((toU64 x1).toNat:Int))))))] (λK14=>?_) ?_
 ·refine Rn.partD (t:=18) rfl (λh15=>?_) (λh15=>?_)
  ·refine gg 3 rfl ?_;refine Rn.cutR [14] [(0,pt b0 0),(5,iv x0.at_),(6,u64v p4.1),(18,.bool true),(26,.bool (decide ((x1<0)∨(((p4.1).toNat:Int)>((toU64 x1).toNat:Int)))))] (λK16=>?_) ?_
   ·refine Rn.partD (t:=21) rfl (λh17=>?_) (λh17=>?_)
    ·refine gg 5 rfl ?_;exact K16 _ sA
    refine gg 2 rfl (Rn.q rfl (V.cv64 U3 U31 rfl) (Rn.q rfl (V.gtr rfl rfl) (gg 1 rfl ?_)));exact K16 _ sA
   refine gg 1 rfl ?_;exact K14 _ sA
  refine gg 9 rfl ?_;exact K14 _ sA
 refine gg 1 rfl ?_;refine bD Y 6 4 (λh18 Y=>?_) (λh18 Y=>?_)
 ·refine Rn.sn D12 1 O3 λw19 D20=>?_
  refine gg 4 rfl ?_;have D22:=D20.dup 2 rfl (λ_ h=>h);have D25:=D22.cu [0,2] [1,3];obtain ⟨F24,D24⟩:=D25.fold (T_pack_Reader.sh b0 (⟨p4.2.b,x0.at_,p4.2.e⟩:T_pack_Reader)) ⟨A12_0,c12_0,rfl⟩;obtain ⟨p21,e21,Y⟩:=bindE Y;have D26:=D24.cu [0,1] [2]
  refine Rn.a1 (cK func124) (m_pack_Reader_fail_sim e21 D26.lend :) D26 λF21_p0 w21 D28=>?_
  refine gg 5 rfl ?_
  cases Y
  exact Rn.R1 func66 ⟨F21_p0,rfl,D28.pk [2]⟩
 refine Rn.q rfl (V.cvW U31 U3 rfl) (gg 2 rfl ?_);have D29:=D12.dup 2 rfl (λ_ h=>h);have D32:=D29.cu [0,2] [1,3];obtain ⟨F31,D31⟩:=D32.fold (T_pack_Reader.sh b0 p4.2) ⟨A12_0,c12_0,rfl⟩
 cases Y
 exact Rn.R1 func66 ⟨F31,rfl,D31.pk [2]⟩
end Go.Proofs.YtaikmpmokihciaaGreat
