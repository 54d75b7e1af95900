import Derived.Test.YtaikmpmokihciaaGreatRows
import Derived.Test.YtaikmpmokihciaaGreatVY2
import Derived.Test.YtaikmpmokihciaaGreatSY3
import Derived.Test.YtaikmpmokihciaaGreatIY
set_option maxRecDepth 20000
set_option maxHeartbeats 40000000
set_option linter.unusedVariables false
set_option linter.unusedSimpArgs false
namespace Go.Proofs.YtaikmpmokihciaaGreat
open Go Go.RowKit Go.Wk _root_.Go.Proofs.Tryz
open _root_.Go.Proofs.Tryz renaming underlying3→U3,underlying4→U4,underlying5→U5,underlying9→U9,underlying24→U24,underlying27→U27,underlying30→U30,underlying31→U31,underlying32→U32,underlying51→U51,underlying134→U134,isAgg3→V3,isAgg4→V4,isAgg5→V5,isAgg9→V9,isAgg23→V23,isAgg30→V30,isAgg31→V31,isAgg32→V32,isAgg34→V34,isAgg36→V36,isAgg38→V38,isAgg39→V39,isAgg51→V51,isAgg67→V67,isAgg70→V70,isAgg116→V116,isAgg117→V117,isAgg130→V130,sizeOf3→O3,sizeOf4→O4,sizeOf5→O5,sizeOf9→O9,sizeOf23→O23,sizeOf30→O30,sizeOf31→O31,sizeOf32→O32,sizeOf34→O34,sizeOf36→O36,sizeOf38→O38,sizeOf39→O39,sizeOf70→O70,sizeOf116→O116
variable {Z0:Nat→Prop} {w:World} {F0:Nat→Prop} {F1:Nat→Prop} {F2:Nat→Prop} {F3:Nat→Prop} {F4:Nat→Prop} {F5:Nat→Prop} {b0:Nat} {b1:Nat} {b2:Nat} {b3:Nat} {b4:Nat} {b5:Nat} {A0:Option Addr} {A1:Option Addr} {A2:Option Addr} {A3:Option Addr} {A4:Option Addr} {A5:Option Addr} {c0:Nat} {c1:Nat} {c2:Nat} {c3:Nat} {c4:Nat} {c5:Nat} {cs0:List Value} {cs1:List Value} {cs2:List Value} {cs3:List Value}
theorem m_pack_Reader_Raw_sim {x0:T_pack_Reader} {x1:Int} {r:((List UInt8)×T_pack_Reader)} (Y:m_pack_Reader_Raw x0 x1=some r) (hL:Lent Z0 w [T_pack_Reader.obj F0 b0 x0]) :
 Calls prog 125 #[pt b0 0,iv x1] w λx w'=>∃ A_0_0 c_0_0 F_p0,x=.returned (.slice A_0_0 (r.1).length c_0_0)∧Hp Z0 (LS [T_pack_Reader.obj F0 b0 x0]) w w' [ownR 5 A_0_0 c_0_0 byteR r.1,T_pack_Reader.obj F_p0 b0 r.2]:=by
 have D0:=hL.start;refine eg func125 11 ?_;obtain ⟨_,⟨A2_0,c2_0,rfl⟩,D2⟩:=D0.unf 0 rfl;replace D2:=D2.nq;refine Rn.q rfl (V.ldB V39 rfl (D2.get 0 rfl) rfl) (gg 3 rfl ?_);refine bD Y 4 6 (λh4 Y=>?_) (λh4 Y=>?_)
 ·have D5:=D2.addNil 5 byteR;have D7:=D5.dup 1 rfl (λ_ h=>h);have D10:=D7.cu [1,2] [0,3];obtain ⟨F9,D9⟩:=D10.fold (T_pack_Reader.sh b0 x0) ⟨A2_0,c2_0,rfl⟩
  cases Y
  exact Rn.R1 func125 ⟨none,0,F9,rfl,D9.pk [1,2]⟩
 refine bD Y 3 4 (λh11 Y=>?_) (λh11 Y=>?_)
 ·have D13:=D2.dup 1 rfl (λ_ h=>h);have D16:=D13.cu [1] [0,2];obtain ⟨F15,D15⟩:=D16.fold (T_pack_Reader.sh b0 x0) ⟨A2_0,c2_0,rfl⟩;obtain ⟨p12,e12,Y⟩:=bindE Y;have D17:=D15.cu [0] [1]
  refine Rn.a1 (cK func124) (m_pack_Reader_fail_sim e12 D17.lend :) D17 λF12_p0 w12 D19=>?_
  refine gg 5 rfl ?_;have D20:=D19.addNil 5 byteR
  cases Y
  exact Rn.R1 func125 ⟨none,0,F12_p0,rfl,D20.pk [2,1]⟩
 have D23:=D2.dup 1 rfl (λ_ h=>h);have D26:=D23.cu [1] [0,2];obtain ⟨F25,D25⟩:=D26.fold (T_pack_Reader.sh b0 x0) ⟨A2_0,c2_0,rfl⟩;obtain ⟨p22,e22,Y⟩:=bindE Y
 refine Rn.c0 (cK func131) (m_pack_Reader_Left_sim (Z0:=All) e22 (fz_all (D25.get 1 rfl)) :) D25 λw22 _ D27=>?_
 refine gg 3 rfl ?_;refine bD Y 3 7 (λh28 Y=>?_) (λh28 Y=>?_)
 ·obtain ⟨p29,e29,Y⟩:=bindE Y;have D30:=D27.cu [0] [1]
  refine Rn.a1 (cK func124) (m_pack_Reader_fail_sim e29 D30.lend :) D30 λF29_p0 w29 D32=>?_
  refine gg 5 rfl ?_;have D33:=D32.addNil 5 byteR
  cases Y
  exact Rn.R1 func125 ⟨none,0,F29_p0,rfl,D33.pk [2,1]⟩
 obtain ⟨_,⟨A35_0,c35_0,rfl⟩,D35⟩:=D27.unf 1 rfl;replace D35:=D35.nq;refine Rn.q rfl (V.ldB V3 rfl (D35.get 1 rfl) rfl) (gg 4 rfl (Rn.sn D35 1 O3 λw37 D38=>?_));refine gg 2 rfl ?_;refine Rn.drawH rfl D38 ?_;intro w39 D39;refine dq [0,1,2] ?_;refine RH.tk 3 rfl (λw' hDr=>V.ldB V51 rfl ((D39.ext hDr).get 1 rfl) rfl) ?_;refine dq [4,5,6] ?_;refine RH.tk 7 rfl (λw' hDr=>V.ldB V3 rfl ((D39.ext hDr).get 1 rfl) rfl) ?_;refine dq [8,9,10,11,12] ?_;refine RH.ho 13 rfl (V.ldB V3 rfl (D39.get 1 rfl) rfl) ?_;obtain ⟨z40,e40,Y⟩:=bindE Y;refine RH.cutH 14 (by kernel_rfl) D39 2 rfl e40 rfl rfl rfl U51 O5 rfl rfl rfl rfl rfl ?_;intro A40 c40 D40;obtain ⟨p42,e42,Y⟩:=bindE Y;refine RH.cq (cK func107) 15 (m_bytes_Clone_sim (Z0:=All) e42 (slR_all (D40.get 3 rfl)) :) ?_;rintro _ w42 ⟨A42_0_0,c42_0_0,rfl,Q42⟩;refine ⟨_,rfl,((Ext.refl _).trans Q42.fr),?_⟩;have D44:=D40.callF (flC (ownR_flat byte_flat _ _ _ _) fl0) Q42;refine dq [16] ?_;refine RH.dn ?_;have D45:=D44.dup 2 rfl (λ_ h=>h);have D48:=D45.cu [0,2,3,4] [1,5];obtain ⟨F47,D47⟩:=D48.fold (T_pack_Reader.sh b0 (⟨x0.b,W64 (x0.at_+x1),x0.e⟩:T_pack_Reader)) ⟨A35_0,c35_0,rfl⟩
 cases Y
 exact Rn.R1 func125 ⟨A42_0_0,c42_0_0,F47,rfl,D47.pk [3,4]⟩
theorem m_pack_Reader_Text_sim {x0:T_pack_Reader} {x1:Int} {r:((List UInt8)×T_pack_Reader)} (Y:m_pack_Reader_Text x0 x1=some r) (hL:Lent Z0 w [T_pack_Reader.obj F0 b0 x0]) :
 Calls prog 67 #[pt b0 0,iv x1] w λx w'=>∃ F_p0,x=.returned (Str (r.1))∧Hp Z0 (LS [T_pack_Reader.obj F0 b0 x0]) w w' [T_pack_Reader.obj F_p0 b0 r.2]:=by
 have D0:=hL.start;refine eg func67 9 ?_;obtain ⟨_,⟨A2_0,c2_0,rfl⟩,D2⟩:=D0.unf 0 rfl;replace D2:=D2.nq;refine Rn.q rfl (V.ldB V3 rfl (D2.get 0 rfl) rfl) (gg 7 rfl ?_);have D5:=D2.dup 1 rfl (λ_ h=>h);have D8:=D5.cu [1] [0,2];obtain ⟨F7,D7⟩:=D8.fold (T_pack_Reader.sh b0 x0) ⟨A2_0,c2_0,rfl⟩;obtain ⟨p4,e4,Y⟩:=bindE Y;have D9:=D7.cu [0] [1]
 refine Rn.a1 (cK func66) (m_pack_Reader_Count_sim e4 D9.lend :) D9 λF4_p0 w4 D11=>?_
 obtain ⟨p12,e12,Y⟩:=bindE Y;have D13:=D11.cu [0] [1];refine Rn.cq (cK func125) (m_pack_Reader_Raw_sim e12 D13.lend :) ?_;rintro _ w12 ⟨A12_0_0,c12_0_0,F12_p0,rfl,Q12⟩;refine ⟨_,rfl,?_⟩;have D16:=D13.callAZ Q12;refine gg 8 rfl ?_;obtain ⟨_,⟨A17_0,c17_0,rfl⟩,D17⟩:=D16.unf 2 rfl;replace D17:=D17.nq;refine Rn.q rfl (V.ldB V39 rfl (D17.get 2 rfl) rfl) (gg 2 rfl ?_);have D19:=D17.dup 3 rfl (λ_ h=>h);have D22:=D19.cu [0,1,3] [2,4];obtain ⟨F21,D21⟩:=D22.fold (T_pack_Reader.sh b0 p12.2) ⟨A17_0,c17_0,rfl⟩;refine Rn.jF D21 [1,99] Y (G:=T_pack_Reader×(Nat→Prop)) (λg=>[(6,.slice A12_0_0 (p12.1).length c12_0_0)]) (λg=>[_,T_pack_Reader.obj (g.2) b0 (g.1)]) (λj g=>j g.1) ?_ ?_
 ·rintro ⟨y23,F23⟩ w24 D24 Y
  try dsimp only at Y
  refine gg 3 rfl (Rn.q rfl (V.b2s U51 U9 U5 rfl rfl (Own.sl (D24.get 0 rfl))) (gg 2 rfl ?_))
  cases Y
  exact Rn.R1 func67 ⟨F23,rfl,D24.pk [1]⟩
 intro j1 Y K1;refine bD Y 5 1 (λh25 Y=>?_) (λh25 Y=>?_)
 ·obtain ⟨_,⟨A26_0,c26_0,rfl⟩,D26⟩:=D21.unf 3 rfl;replace D26:=D26.nq
  refine Rn.sn D26 3 O3 λw28 D29=>?_
  refine gg 1 rfl ?_;have D30:=D29.dup 4 rfl (λ_ h=>h);have D33:=D30.cu [0,1,2,4] [3,5];obtain ⟨F32,D32⟩:=D33.fold (T_pack_Reader.sh b0 (⟨p12.2.b,x0.at_,p12.2.e⟩:T_pack_Reader)) ⟨A26_0,c26_0,rfl⟩;exact K1 ((⟨p12.2.b,x0.at_,p12.2.e⟩:T_pack_Reader),F32) _ _ sA (D32.pk [1,4]) Y
 exact K1 (p12.2,F21) _ _ sA (D21.pk [1,3]) Y
theorem m_pack_Reader_Err_sim {x0:T_pack_Reader} {r:Int} (Y:m_pack_Reader_Err x0=some r) (f0:(fzR (T_pack_Reader.obj F0 b0 x0)).H Z0 w) :
 Calls prog 68 #[pt b0 0] w λx w'=>x=.returned (iv r)∧Hp Z0 No w w' []:=by
 obtain ⟨D0,D2,hc0⟩:=knA f0;refine eg func68 9 ?_;obtain ⟨_,⟨A3_0,c3_0,rfl⟩,D3⟩:=D2.unfz 0 rfl;replace D3:=D3.nq;have D7:=D3.fzS 2 rfl;refine Rn.q rfl (V.ldB V39 rfl (D7.getz 1 rfl) rfl) (gg 2 rfl ?_)
 cases Y
 exact Rn.R1 func68 ⟨rfl,D7.pk []⟩
theorem m_pack_Zag_sim {x0:UInt64} {r:Int} (Y:m_pack_Zag x0=some r)  :
 Calls prog 210 #[u64v x0] w λx w'=>x=.returned (iv r)∧Hp Z0 No w w' []:=by
 have D0:=Hp.nil Z0 No w;have hc0:=Calm.nil;refine eg func210 7 ?_;refine Rn.q rfl (V.sh64 rfl rfl _ 1 rfl rfl (b64_shr _ _ _ 1 (by decide))) (Rn.q rfl (V.cvW U31 U3 rfl) (gg 1 rfl (Rn.q rfl (V.o64 rfl rfl x0 (1:UInt64) rfl rfl (b64_and _ _ _)) (Rn.q rfl (V.cvW U31 U3 rfl) (Rn.q rfl (V.negI rfl) (Rn.q rfl (V.xorZ rfl rfl) (gg 2 rfl ?_)))))))
 cases Y
 exact Rn.R1 func210 ⟨rfl,D0.pk []⟩
theorem m_pack_Reader_Int_sim {x0:T_pack_Reader} {r:(Int×T_pack_Reader)} (Y:m_pack_Reader_Int x0=some r) (hL:Lent Z0 w [T_pack_Reader.obj F0 b0 x0]) :
 Calls prog 172 #[pt b0 0] w λx w'=>∃ F_p0,x=.returned (iv r.1)∧Hp Z0 (LS [T_pack_Reader.obj F0 b0 x0]) w w' [T_pack_Reader.obj F_p0 b0 r.2]:=by
 have D0:=hL.start;refine eg func172 7 ?_;obtain ⟨p2,e2,Y⟩:=bindE Y;have D3:=D0.cu [] [0]
 refine Rn.a1 (cK func123) (m_pack_Reader_Num_sim e2 D3.lend :) D3 λF2_p0 w2 D5=>?_
 obtain ⟨p6,e6,Y⟩:=bindE Y
 refine Rn.c0 (cK func210) (m_pack_Zag_sim (Z0:=All) e6  :) D5 λw6 _ D7=>?_
 refine gg 2 rfl ?_
 cases Y
 exact Rn.R1 func172 ⟨F2_p0,rfl,D7.pk [0]⟩
theorem m_pack_Reader_Fix_sim {x0:T_pack_Reader} {r:(UInt64×T_pack_Reader)} (Y:m_pack_Reader_Fix x0=some r) (hL:Lent Z0 w [T_pack_Reader.obj F0 b0 x0]) :
 Calls prog 173 #[pt b0 0] w λx w'=>∃ F_p0,x=.returned (u64v r.1)∧Hp Z0 (LS [T_pack_Reader.obj F0 b0 x0]) w w' [T_pack_Reader.obj F_p0 b0 r.2]:=by
 have D0:=hL.start;refine eg func173 12 ?_;obtain ⟨p2,e2,Y⟩:=bindE Y;have D3:=D0.cu [] [0];refine Rn.cq (cK func125) (m_pack_Reader_Raw_sim e2 D3.lend :) ?_;rintro _ w2 ⟨A2_0_0,c2_0_0,F2_p0,rfl,Q2⟩;refine ⟨_,rfl,?_⟩;have D6:=D3.callAZ Q2;refine Rn.q rfl (V.lenV U51 rfl) (gg 2 rfl ?_);refine Rn.jF D6 [0,99] Y (G:=UInt64×(Nat→Prop)) (λg=>[(3,u64v (g.1))]) (λg=>[_,T_pack_Reader.obj (g.2) b0 p2.2]) (λj g=>j g.1) ?_ ?_
 ·rintro ⟨y8,F7⟩ w9 D9 Y
  try dsimp only at Y
  refine gg 5 rfl ?_
  cases Y
  exact Rn.R1 func173 ⟨F7,rfl,D9.pk [1]⟩
 intro j1 Y K1;refine gg 1 rfl ?_;refine Rn.lF D6 [0,99] (G:=UInt64×Int×(Nat→Prop)) (λg=>[(3,u64v (g.1)),(7,.slice A2_0_0 (p2.1).length c2_0_0),(8,iv (p2.1.length:Int)),(9,iv (g.2.1))]) (λg=>[_,T_pack_Reader.obj (g.2.2) b0 p2.2]) (λn g=>m_pack_Reader_Fix_L1 p2 j1 n g.1 g.2.1) fuel ((0:UInt64),0,F2_p0) sA (D6.pk [0,1]) Y ?_;clear Y;rintro m13 ⟨y11,y12,F10⟩ w13 D13 Y N13;replace Y:m_pack_Reader_Fix_L1 p2 j1 (m13+1) y11 y12=some r:=Y;rw [m_pack_Reader_Fix_L1] at Y;refine gg 5 rfl ?_;refine bD Y 6 1 (λh14 Y=>?_) (λh14 Y=>?_)
 ·obtain ⟨z15,e15,Y⟩:=bindE Y;obtain ⟨kk15,ke15,kz15,kl15⟩:=idxE e15;obtain ⟨g15,vs15,hA15,hR15,hrel15⟩:=D13.ownAt 0 rfl kz15;subst hA15;obtain ⟨rfl,_⟩:=hrel15;refine Rn.q rfl (V.ixE kk15 U51 O5 rfl rfl ke15 kl15) (Rn.q rfl (V.ldR0 V5 rfl hR15 rfl) (gg 6 rfl (Rn.q rfl (V.cv64 U5 U31 rfl) (gg 2 rfl (Rn.q rfl (V.cv64 U3 U134 rfl) (Rn.q rfl (V.shl64 (a:=toU64 ((z15).toNat:Int)) (m:=(toU64 (W64 (8*y12))).toNat) rfl rfl) (Rn.q rfl (V.o64 rfl rfl y11 (shl64 (toU64 ((z15).toNat:Int)) ((toU64 (W64 (8*y12))).toNat)) rfl rfl (b64_or _ _ _)) (gg 7 rfl ?_))))))));exact N13 ((y11|||(shl64 (toU64 ((z15).toNat:Int)) ((toU64 (W64 (8*y12))).toNat))),(W64 (y12+1)),F10) _ _ sA (D13.pk [0,1]) Y
 exact K1 (y11,F10) _ _ sA (D13.pk [0,1]) Y
theorem m_point_reader_signed_sim {x0:T_point_reader} {r:(Int×T_point_reader)} (Y:m_point_reader_signed x0=some r) (hL:Lent Z0 w [T_point_reader.obj F0 b0 x0]) :
 Calls prog 174 #[pt b0 0] w λx w'=>∃ F_p0,x=.returned (iv r.1)∧Hp Z0 (LS [T_point_reader.obj F0 b0 x0]) w w' [T_point_reader.obj F_p0 b0 r.2]:=by
 have D0:=hL.start;refine eg func174 9 ?_;obtain ⟨_,⟨F2_0,b2_0,rfl⟩,D2⟩:=D0.unf 0 rfl;replace D2:=D2.nq;refine Rn.q rfl (V.ldB V117 rfl (D2.get 0 rfl) rfl) ?_;obtain ⟨p4,e4,Y⟩:=bindE Y;have D5:=D2.cu [0] [1]
 refine Rn.a1 (cK func172) (m_pack_Reader_Int_sim e4 D5.lend :) D5 λF4_p0 w4 D7=>?_
 refine gg 8 rfl (Rn.q rfl (V.ldB V39 rfl (D7.get 0 rfl) rfl) (gg 2 rfl ?_));have D9:=D7.cu [] [0,1];obtain ⟨F8,D8⟩:=D9.fold (T_point_reader.sh b0 (⟨p4.2,x0.e⟩:T_point_reader)) ⟨F4_p0,b2_0,rfl⟩;refine Rn.jR D0 Y (G:=Bool×(Nat→Prop)) [13,14,15,16,17] (λg=>[(0,pt b0 0),(3,iv p4.1),(21,.bool ((g.1)))]) (λg=>[T_point_reader.obj (g.2) b0 (⟨p4.2,x0.e⟩:T_point_reader)]) (λj g=>j g.1) ?_ ?_
 ·rintro ⟨y11,F10⟩ w12 D12 Y
  try dsimp only at Y
  refine gg 1 rfl ?_;refine Rn.jR D0 Y (G:=Bool×(Nat→Prop)) [] (λg=>[(0,pt b0 0),(3,iv p4.1),(26,.bool ((g.1)))]) (λg=>[T_point_reader.obj (g.2) b0 (⟨p4.2,x0.e⟩:T_point_reader)]) (λj g=>j g.1) ?_ ?_
  ·rintro ⟨y14,F13⟩ w15 D15 Y
   try dsimp only at Y
   refine gg 1 rfl ?_;refine Rn.jG D0 Y (G:=T_point_reader×(Nat→Prop)) (λg=>[(3,iv p4.1)]) (λg=>[T_point_reader.obj (g.2) b0 (g.1)]) (λj g=>j g.1) ?_ ?_
   ·rintro ⟨y16,F16⟩ w17 D17 Y
    try dsimp only at Y
    refine gg 5 rfl ?_
    cases Y
    exact Rn.R1 func174 ⟨F16,rfl,D17.pk [0]⟩
   intro j3 Y K3;refine bS Y 4 1 (λh18 Y=>?_) (λh18 Y=>?_)
   ·obtain ⟨_,⟨F19_0,b19_0,rfl⟩,D19⟩:=D15.unf 0 rfl;replace D19:=D19.nq
    refine Rn.sn D19 0 O39 λw21 D22=>?_
    refine gg 1 rfl ?_;have D24:=D22.cu [] [0,1];obtain ⟨F23,D23⟩:=D24.fold (T_point_reader.sh b0 (⟨p4.2,4⟩:T_point_reader)) ⟨F19_0,b19_0,rfl⟩;exact K3 ((⟨p4.2,4⟩:T_point_reader),F23) _ _ sA (D23.pk [0]) Y
   exact K3 ((⟨p4.2,x0.e⟩:T_point_reader),F13) _ _ sA (D15.pk [0]) Y
  intro j2 Y K2;refine askS Y (Rn.part (t:=22) rfl) (λh25 Y=>?_) (λh25 Y=>?_)
  ·refine gg 1 rfl ?_;obtain ⟨p26,e26,Y⟩:=bindE Y
   refine Rn.c0 (cK func164) (m_pack_Zig_sim (Z0:=All) e26  :) D12 λw26 _ D27=>?_
   refine Rn.q rfl (V.gtr rfl rfl) (gg 1 rfl ?_);exact K2 ((decide (((p26).toNat:Int)>9007199254740992)),F10) _ _ sA (D27.pk [0]) Y
  refine gg 4 rfl ?_;exact K2 (false,F10) _ _ sA (D12.pk [0]) Y
 intro j1 Y K1;refine askD Y (Rn.partD (t:=14) rfl) (λh28 Y=>?_) (λh28 Y=>?_)
 ·refine gg 3 rfl ?_;obtain ⟨_,⟨F29_0,b29_0,rfl⟩,D29⟩:=D8.unf 0 rfl;replace D29:=D29.nq;refine Rn.q rfl (V.ldB V117 rfl (D29.get 0 rfl) rfl) ?_;obtain ⟨p31,e31,Y⟩:=bindE Y
  refine Rn.c0 (cK func68) (m_pack_Reader_Err_sim (Z0:=All) e31 (fz_all (D29.get 1 rfl)) :) D29 λw31 _ D32=>?_
  refine gg 2 rfl ?_;have D34:=D32.cu [] [0,1];obtain ⟨F33,D33⟩:=D34.fold (T_point_reader.sh b0 (⟨p4.2,x0.e⟩:T_point_reader)) ⟨F29_0,b29_0,rfl⟩;exact K1 ((decide (p31=0)),F33) _ _ sA (D33.pk [0]) Y
 refine gg 7 rfl ?_;exact K1 (false,F8) _ _ sA (D8.pk [0]) Y
theorem m_point_reader_side_sim {x0:T_point_reader} {r:(T_api_Side×T_point_reader)} (Y:m_point_reader_side x0=some r) (hL:Lent Z0 w [T_point_reader.obj F0 b0 x0]) :
 Calls prog 175 #[pt b0 0] w λx w'=>∃ A_0_0 c_0_0 F_p0,x=.returned (.agg [iv r.1.Offset,.slice A_0_0 (r.1.Counts).length c_0_0].toArray)∧Hp Z0 (LS [T_point_reader.obj F0 b0 x0]) w w' [ownR 31 A_0_0 c_0_0 w64R r.1.Counts,T_point_reader.obj F_p0 b0 r.2]:=by
 have D0:=hL.start;refine eg func175 2 ?_
 refine Rn.al D0 Tryz.zeroValue34 λb2 w2 D4=>?_
 replace D4:=D4.nb;refine gg 11 rfl ?_;obtain ⟨_,⟨F5_0,b5_0,rfl⟩,D5⟩:=D4.unf 0 rfl;replace D5:=D5.nq;refine Rn.q rfl (V.ldB V39 rfl (D5.get 1 rfl) rfl) (gg 2 rfl ?_);have D8:=D5.cu [0] [1,2];obtain ⟨F7,D7⟩:=D8.fold (T_point_reader.sh b0 x0) ⟨F5_0,b5_0,rfl⟩;refine Rn.jF D7 [0,99] Y (G:=Int×T_point_reader×(Nat→Prop)) (λg=>[(0,pt b0 0),(2,pt b2 0),(3,iv (g.1))]) (λg=>[_,T_point_reader.obj (g.2.2) b0 (g.2.1)]) (λj g=>j g.1 g.2.1) ?_ ?_
 ·rintro ⟨y9,y10,F10⟩ w11 D11 Y
  try dsimp only at Y
  refine gg 6 rfl ?_;refine Rn.jG D0 Y (G:=T_point_reader×T_api_Side×(Nat→Prop)×Option Addr×Nat) (λg=>[(0,pt b0 0),(2,pt b2 0),(3,iv y9)]) (λg=>[T_point_reader.obj (g.2.2.1) b0 (g.1),ownR 31 (g.2.2.2.1) (g.2.2.2.2) w64R (g.2.1).Counts,boxR b2 34 [iv (g.2.1).Offset,.slice (g.2.2.2.1) ((g.2.1).Counts).length (g.2.2.2.2)]]) (λj g=>j g.1 g.2.1) ?_ ?_
  ·rintro ⟨y12,y13,F12,A14,c14⟩ w16 D16 Y
   try dsimp only at Y
   refine gg 5 rfl ?_;refine Rn.jG D0 Y (G:=T_point_reader×T_api_Side×(Nat→Prop)×Option Addr×Nat) (λg=>[(2,pt b2 0)]) (λg=>[T_point_reader.obj (g.2.2.1) b0 (g.1),ownR 31 (g.2.2.2.1) (g.2.2.2.2) w64R (g.2.1).Counts,boxR b2 34 [iv (g.2.1).Offset,.slice (g.2.2.2.1) ((g.2.1).Counts).length (g.2.2.2.2)]]) (λj g=>j g.1 g.2.1) ?_ ?_
   ·rintro ⟨y17,y18,F17,A19,c19⟩ w21 D21 Y
    try dsimp only at Y
    refine gg 2 rfl (Rn.q rfl (V.ldBA [_,_] V34 O34 rfl (D21.get 2 rfl) rfl rfl) (Rn.sn D21 2 O34 λw22 D23=>?_));refine gg 1 rfl ?_;refine Rn.retG1 func175 rfl (rvC rfl V34 O34 (D23.get 2 rfl) rfl) ?_;obtain rfl:=someE Y;exact ⟨A19,c19,F17,rfl,D23.pk [1,0]⟩
   intro j3 Y K3;refine gg 1 rfl ?_;refine Rn.loopF (G:=Int×T_point_reader×T_api_Side×(Nat→Prop)×Option Addr×Nat) (λg=>[(0,pt b0 0),(2,pt b2 0),(3,iv y9),(4,iv (g.1))]) (λg w'=>Hp Z0 (LS [T_point_reader.obj F0 b0 x0]) w w' [T_point_reader.obj (g.2.2.2.1) b0 (g.2.1),ownR 31 (g.2.2.2.2.1) (g.2.2.2.2.2) w64R (g.2.2.1).Counts,boxR b2 34 [iv (g.2.2.1).Offset,.slice (g.2.2.2.2.1) ((g.2.2.1).Counts).length (g.2.2.2.2.2)]]) (λn g=>m_point_reader_side_L1 y9 j3 n g.1 g.2.1 g.2.2.1) fuel (0,y12,y13,F12,A14,c14) sA (D16.pk [0,1,2]) Y (λ_=>rfl) ?_;clear Y;rintro m29 ⟨y24,y25,y26,F25,A27,c27⟩ w29 D29 Y N29;replace Y:m_point_reader_side_L1 y9 j3 (m29+1) y24 y25 y26=some r:=Y;rw [m_point_reader_side_L1] at Y;refine gg 7 rfl ?_;refine Rn.jQ D29 [99,1,2] Y (G:=Bool×(Nat→Prop)) [10,11,12,13,14,15,16,17] (λg=>[(0,pt b0 0),(2,pt b2 0),(3,iv y9),(4,iv y24),(29,.bool ((g.1)))]) (λg=>[T_point_reader.obj (g.2) b0 y25,_,_]) (λj g=>j g.1) ?_ ?_
   ·rintro ⟨y33,F32⟩ w34 D34 Y
    try dsimp only at Y
    refine gg 1 rfl ?_;refine Rn.jQ D34 [99,1,2] Y (G:=Bool×(Nat→Prop)) [] (λg=>[(0,pt b0 0),(2,pt b2 0),(3,iv y9),(4,iv y24),(37,.bool ((g.1)))]) (λg=>[T_point_reader.obj (g.2) b0 y25,_,_]) (λj g=>j g.1) ?_ ?_
    ·rintro ⟨y36,F35⟩ w37 D37 Y
     try dsimp only at Y
     refine gg 1 rfl ?_;refine bS Y 3 1 (λh38 Y=>?_) (λh38 Y=>?_)
     ·refine Rn.jG D0 Y (G:=T_point_reader×T_api_Side×(Nat→Prop)×Option Addr×Nat) (λg=>[(0,pt b0 0),(2,pt b2 0),(3,iv y9),(4,iv y24)]) (λg=>[T_point_reader.obj (g.2.2.1) b0 (g.1),ownR 31 (g.2.2.2.1) (g.2.2.2.2) w64R (g.2.1).Counts,boxR b2 34 [iv (g.2.1).Offset,.slice (g.2.2.2.1) ((g.2.1).Counts).length (g.2.2.2.2)]]) (λj g=>j g.1 g.2.1) ?_ ?_
      ·rintro ⟨y39,y40,F39,A41,c41⟩ w43 D43 Y
       try dsimp only at Y
       refine gg 6 rfl ?_;exact N29 ((W64 (y24+1)),y39,y40,F39,A41,c41) _ _ sA (D43.pk [0,1,2]) Y
      intro j6 Y K6;obtain ⟨_,⟨F45_0,b45_0,rfl⟩,D45⟩:=D37.unf 0 rfl;replace D45:=D45.nq;have D47:=(D45.cutF [2] [0,1,3] [] rfl (by decide) trivial).nf ([_]++[_,_,_]) rfl;refine Rn.drawF rfl D47 ?_;intro w48 hmo48 D48;refine dq [0,2,3,4] ?_;refine RH.tk 5 rfl (λw' hDr=>V.ldB V117 rfl ((hmo48.awayK hDr).get 0 rfl) rfl) ?_;obtain ⟨p49,e49,Y⟩:=bindE Y;obtain ⟨z56,e56,Y⟩:=bindE Y;refine RH.both 1 6 (by kernel_rfl) ?_ ?_
      ·refine RB.here λhS1=>RB.one 1 rfl rfl rfl rfl (V.ldB V32 rfl (D48.get 1 rfl) rfl) hS1 ?_
       have e62:=e49;have D63:=D48.cu [0,1] [2];refine RH.cq (cK func123) 6 (m_pack_Reader_Num_sim e62 D63.lend :) ?_;rintro _ w62 ⟨F62_p0,rfl,Q62⟩;have D65:=D63.callAZ Q62;refine ⟨_,rfl,D65.fr,?_⟩;refine RH.bslS 7 (by kernel_rfl) rfl rfl rfl U32 el31 rfl rfl rfl rfl (by first|exact szs rfl|(simp [Value.cells];done)) (by decide) ?_;intro b66 w66 hb66 m66 e66;have D67:=D65.addLit (rep:=w64R) (xs:=([p49.1]:List UInt64)) (vss:=[[u64v p49.1]]) hb66 e66 m66 rfl rfl rfl ((rels_cons (λ_ _=>⟨rfl,trivial⟩) rels0));refine ⟨D67.fr,?_⟩;have e69:=e56;refine RH.appH 8 (by kernel_rfl) D67 0 rfl e69 rfl rfl rfl U32 el31 rfl rfl rfl rfl (D67.srcO 3 rfl) ?_;intro A69 c69 w69 D69;refine ⟨D69.fr,?_⟩;refine dq [9] ?_
       refine RH.sn 10 D69 1 O32 λw71 D72=>?_
       refine ⟨D72.fr,?_⟩;refine RH.dn ?_;have D73:=hmo48.callAZ D72;have D74:=(D73.pk [0,1,2,3,4]).nq;have D76:=D74.cu [1,2,4] [0,3];obtain ⟨F75,D75⟩:=D76.fold (T_point_reader.sh b0 (⟨p49.2,y25.e⟩:T_point_reader)) ⟨F62_p0,b45_0,rfl⟩;exact K6 ((⟨p49.2,y25.e⟩:T_point_reader),(⟨y26.Offset,z56⟩:T_api_Side),F75,A69,c69) _ _ sA (D75.pk [3,0,1]) Y
      have e77:=e49;have D78:=D48.cu [0,1] [2];refine RB.cl (cK func123) 6 rfl rfl rfl rfl (m_pack_Reader_Num_sim e77 D78.lend :) ?_;rintro _ w77 ⟨F77_p0,rfl,Q77⟩;have D80:=D78.callAZ Q77;refine ⟨_,rfl,D80.fr,?_⟩;refine RH.both 1 7 (by kernel_rfl) ?_ ?_
      ·refine RB.here λhS1=>RB.one 1 rfl rfl rfl rfl (V.ldB V32 rfl (D80.get 1 rfl) rfl) hS1 ?_
       refine RH.bslS 7 (by kernel_rfl) rfl rfl rfl U32 el31 rfl rfl rfl rfl (by first|exact szs rfl|(simp [Value.cells];done)) (by decide) ?_;intro b81 w81 hb81 m81 e81;have D82:=D80.addLit (rep:=w64R) (xs:=([p49.1]:List UInt64)) (vss:=[[u64v p49.1]]) hb81 e81 m81 rfl rfl rfl ((rels_cons (λ_ _=>⟨rfl,trivial⟩) rels0));refine ⟨D82.fr,?_⟩;have e84:=e56;refine RH.appH 8 (by kernel_rfl) D82 0 rfl e84 rfl rfl rfl U32 el31 rfl rfl rfl rfl (D82.srcO 3 rfl) ?_;intro A84 c84 w84 D84;refine ⟨D84.fr,?_⟩;refine dq [9] ?_
       refine RH.sn 10 D84 1 O32 λw86 D87=>?_
       refine ⟨D87.fr,?_⟩;refine RH.dn ?_;have D88:=hmo48.callAZ D87;have D89:=(D88.pk [0,1,2,3,4]).nq;have D91:=D89.cu [1,2,4] [0,3];obtain ⟨F90,D90⟩:=D91.fold (T_point_reader.sh b0 (⟨p49.2,y25.e⟩:T_point_reader)) ⟨F77_p0,b45_0,rfl⟩;exact K6 ((⟨p49.2,y25.e⟩:T_point_reader),(⟨y26.Offset,z56⟩:T_api_Side),F90,A84,c84) _ _ sA (D90.pk [3,0,1]) Y
      refine RB.bslS 7 rfl rfl rfl U32 el31 rfl rfl rfl rfl (by first|exact szs rfl|(simp [Value.cells];done)) (by decide) ?_;intro b92 w92 hb92 m92 e92;have D93:=D80.addLit (rep:=w64R) (xs:=([p49.1]:List UInt64)) (vss:=[[u64v p49.1]]) hb92 e92 m92 rfl rfl rfl ((rels_cons (λ_ _=>⟨rfl,trivial⟩) rels0));refine ⟨D93.fr,?_⟩;refine RH.ho 1 rfl (V.ldB V32 rfl (D93.get 1 rfl) rfl) ?_;have e95:=e56;refine RH.appH 8 (by kernel_rfl) D93 0 rfl e95 rfl rfl rfl U32 el31 rfl rfl rfl rfl (D93.srcO 3 rfl) ?_;intro A95 c95 w95 D95;refine ⟨D95.fr,?_⟩;refine dq [9] ?_
      refine RH.sn 10 D95 1 O32 λw97 D98=>?_
      refine ⟨D98.fr,?_⟩;refine RH.dn ?_;have D99:=hmo48.callAZ D98;have D100:=(D99.pk [0,1,2,3,4]).nq;have D102:=D100.cu [1,2,4] [0,3];obtain ⟨F101,D101⟩:=D102.fold (T_point_reader.sh b0 (⟨p49.2,y25.e⟩:T_point_reader)) ⟨F77_p0,b45_0,rfl⟩;exact K6 ((⟨p49.2,y25.e⟩:T_point_reader),(⟨y26.Offset,z56⟩:T_api_Side),F101,A95,c95) _ _ sA (D101.pk [3,0,1]) Y
     exact K3 (y25,y26,F35,A27,c27) _ _ sA (D37.pk [0,1,2]) Y
    intro j5 Y K5;refine askS Y (Rn.part (t:=30) rfl) (λh103 Y=>?_) (λh103 Y=>?_)
    ·refine gg 3 rfl ?_;obtain ⟨_,⟨F104_0,b104_0,rfl⟩,D104⟩:=D34.unf 0 rfl;replace D104:=D104.nq;refine Rn.q rfl (V.ldB V117 rfl (D104.get 2 rfl) rfl) ?_;obtain ⟨p106,e106,Y⟩:=bindE Y
     refine Rn.c0 (cK func68) (m_pack_Reader_Err_sim (Z0:=All) e106 (fz_all (D104.get 3 rfl)) :) D104 λw106 _ D107=>?_
     refine gg 2 rfl ?_;have D109:=D107.cu [0,1] [2,3];obtain ⟨F108,D108⟩:=D109.fold (T_point_reader.sh b0 y25) ⟨F104_0,b104_0,rfl⟩;exact K5 ((decide (p106=0)),F108) _ _ sA (D108.pk [2,0,1]) Y
    refine gg 7 rfl ?_;exact K5 (false,F32) _ _ sA (D34.pk [0,1,2]) Y
   intro j4 Y K4;refine askD Y (Rn.partD (t:=23) rfl) (λh110 Y=>?_) (λh110 Y=>?_)
   ·refine gg 3 rfl ?_;obtain ⟨_,⟨F111_0,b111_0,rfl⟩,D111⟩:=D29.unf 0 rfl;replace D111:=D111.nq;refine Rn.q rfl (V.ldB V39 rfl (D111.get 2 rfl) rfl) (gg 2 rfl ?_);have D114:=D111.cu [0,1] [2,3];obtain ⟨F113,D113⟩:=D114.fold (T_point_reader.sh b0 y25) ⟨F111_0,b111_0,rfl⟩;exact K4 ((decide (y25.e=0)),F113) _ _ sA (D113.pk [2,0,1]) Y
   refine gg 6 rfl ?_;exact K4 (false,F25) _ _ sA (D29.pk [0,1,2]) Y
  intro j2 Y K2;refine bD Y 2 1 (λh115 Y=>?_) (λh115 Y=>?_)
  ·obtain ⟨p116,e116,Y⟩:=bindE Y;have D117:=D11.cu [0] [1]
   refine Rn.a1 (cK func174) (m_point_reader_signed_sim e116 D117.lend :) D117 λF116_p0 w116 D119=>?_
   refine gg 1 rfl (Rn.sn D119 0 O3 λw120 D121=>?_);refine gg 1 rfl ?_;have D122:=D121.addNil 31 w64R;exact K2 (p116.2,(⟨p116.1,([]:List UInt64)⟩:T_api_Side),F116_p0,none,0) _ _ sA (D122.pk [1,2,0]) Y
  have D124:=D11.addNil 31 w64R;exact K2 (y10,(⟨0,([]:List UInt64)⟩:T_api_Side),F10,none,0) _ _ sA (D124.pk [1,2,0]) Y
 intro j1 Y K1;refine bD Y 4 1 (λh126 Y=>?_) (λh126 Y=>?_)
 ·obtain ⟨_,⟨F127_0,b127_0,rfl⟩,D127⟩:=D7.unf 1 rfl;replace D127:=D127.nq;refine Rn.q rfl (V.ldB V117 rfl (D127.get 1 rfl) rfl) ?_;obtain ⟨p129,e129,Y⟩:=bindE Y;have D130:=D127.cu [0,1] [2]
  refine Rn.a1 (cK func66) (m_pack_Reader_Count_sim e129 D130.lend :) D130 λF129_p0 w129 D132=>?_
  refine gg 2 rfl ?_;have D134:=D132.cu [0] [1,2];obtain ⟨F133,D133⟩:=D134.fold (T_point_reader.sh b0 (⟨p129.2,x0.e⟩:T_point_reader)) ⟨F129_p0,b127_0,rfl⟩;exact K1 (p129.1,(⟨p129.2,x0.e⟩:T_point_reader),F133) _ _ sA (D133.pk [0,1]) Y
 exact K1 (0,x0,F7) _ _ sA (D7.pk [0,1]) Y
theorem m_point_reader_value_sim {x0:T_point_reader} {x1:T_api_Point} {r:(T_point_reader×T_api_Point)} (Y:m_point_reader_value x0 x1=some r) (hL:Lent Z0 w [T_point_reader.obj F0 b0 x0,T_api_Point.obj F1 b1 x1]) :
 Calls prog 126 #[pt b0 0,pt b1 0] w λx w'=>∃ F_p0 F_p1,x=.returned (.tuple #[])∧Hp Z0 (LS [T_point_reader.obj F0 b0 x0,T_api_Point.obj F1 b1 x1]) w w' [T_point_reader.obj F_p0 b0 r.1,T_api_Point.obj F_p1 b1 r.2]:=by
 have D0:=hL.start;refine eg func126 5 ?_;obtain ⟨_,⟨A3_0,c3_0,A3_1,c3_1,A3_2,c3_2,rfl⟩,D3⟩:=D0.unf 1 rfl;replace D3:=D3.nq;refine Rn.q rfl (V.ldB V3 rfl (D3.get 1 rfl) rfl) (gg 7 rfl ?_);refine bD Y 5 6 (λh7 Y=>?_) (λh7 Y=>?_)
 ·obtain ⟨_,⟨F8_0,b8_0,rfl⟩,D8⟩:=D3.unf 0 rfl;replace D8:=D8.nq;refine Rn.q rfl (V.ldB V117 rfl (D8.get 4 rfl) rfl) ?_;obtain ⟨p10,e10,Y⟩:=bindE Y;have D11:=D8.cu [0,1,2,3,4] [5]
  refine Rn.a1 (cK func172) (m_pack_Reader_Int_sim e10 D11.lend :) D11 λF10_p0 w10 D13=>?_
  refine gg 2 rfl (Rn.sn D13 0 O3 λw14 D15=>?_);refine gg 2 rfl ?_;have D17:=D15.cu [0,1,2,3] [4,5];obtain ⟨F16,D16⟩:=D17.fold (T_point_reader.sh b0 (⟨p10.2,x0.e⟩:T_point_reader)) ⟨F10_p0,b8_0,rfl⟩;have D18:=D16.dup 1 rfl (λ_ h=>h);have D20:=D18.dup 2 rfl (λ_ h=>h);have D22:=D20.dup 3 rfl (λ_ h=>h);have D25:=D22.cu [1,2,3,4] [0,5,6,7];obtain ⟨F24,D24⟩:=D25.fold (T_api_Point.sh b1 (⟨x1.Name,x1.Attrs,x1.Kind,x1.Temp,x1.Mono,x1.Start,x1.Time,p10.1,x1.Re,x1.Im,x1.Hist,x1.Flags⟩:T_api_Point)) ⟨A3_0,c3_0,A3_1,c3_1,A3_2,c3_2,rfl⟩;refine Rn.end0 func126 rfl ?_;obtain rfl:=someE Y;exact ⟨F16,F24,rfl,D24.pk [3,4]⟩
 have D26:=D3.dup 2 rfl (λ_ h=>h);have D28:=D26.dup 3 rfl (λ_ h=>h);have D30:=D28.dup 4 rfl (λ_ h=>h);have D33:=D30.cu [0,2,3,4] [1,5,6,7];obtain ⟨F32,D32⟩:=D33.fold (T_api_Point.sh b1 x1) ⟨A3_0,c3_0,A3_1,c3_1,A3_2,c3_2,rfl⟩;refine Rn.jG D0 Y (G:=Bool×(Nat→Prop)×(Nat→Prop)) (λg=>[(0,pt b0 0),(1,pt b1 0),(7,iv x1.Kind),(18,.bool ((g.1)))]) (λg=>[T_point_reader.obj (g.2.1) b0 x0,T_api_Point.obj (g.2.2) b1 x1]) (λj g=>j g.1) ?_ ?_
 ·rintro ⟨y36,F34,F35⟩ w37 D37 Y
  try dsimp only at Y
  refine bS Y 5 5 (λh38 Y=>?_) (λh38 Y=>?_)
  ·obtain ⟨_,⟨F39_0,b39_0,rfl⟩,D39⟩:=D37.unf 0 rfl;replace D39:=D39.nq;refine Rn.q rfl (V.ldB V117 rfl (D39.get 1 rfl) rfl) ?_;obtain ⟨p41,e41,Y⟩:=bindE Y;have D42:=D39.cu [0,1] [2]
   refine Rn.a1 (cK func173) (m_pack_Reader_Fix_sim e41 D42.lend :) D42 λF41_p0 w41 D44=>?_
   refine gg 2 rfl ?_;obtain ⟨_,⟨A45_0,c45_0,A45_1,c45_1,A45_2,c45_2,rfl⟩,D45⟩:=D44.unf 0 rfl;replace D45:=D45.nq
   refine Rn.sn D45 2 O31 λw49 D50=>?_
   refine gg 2 rfl ?_;have D52:=D50.cu [2,3,4,5] [0,1];obtain ⟨F51,D51⟩:=D52.fold (T_point_reader.sh b0 (⟨p41.2,x0.e⟩:T_point_reader)) ⟨F41_p0,b39_0,rfl⟩;have D53:=D51.dup 1 rfl (λ_ h=>h);have D55:=D53.dup 2 rfl (λ_ h=>h);have D57:=D55.dup 3 rfl (λ_ h=>h);have D60:=D57.cu [1,2,3,4] [0,5,6,7];obtain ⟨F59,D59⟩:=D60.fold (T_api_Point.sh b1 (⟨x1.Name,x1.Attrs,x1.Kind,x1.Temp,x1.Mono,x1.Start,x1.Time,x1.Int_,p41.1,x1.Im,x1.Hist,x1.Flags⟩:T_api_Point)) ⟨A45_0,c45_0,A45_1,c45_1,A45_2,c45_2,rfl⟩;refine Rn.end0 func126 rfl ?_;obtain rfl:=someE Y;exact ⟨F51,F59,rfl,D59.pk [3,4]⟩
  refine aD Y (λh61 Y=>?_) (λh61 Y=>?_)
  ·obtain ⟨_,⟨F63_0,b63_0,rfl⟩,D63⟩:=D37.unf 0 rfl;replace D63:=D63.nq;have D65:=(D63.cutF [1] [0,2] [] rfl (by decide) trivial).nf ([_]++[_,_]) rfl;refine Rn.drawF rfl D65 ?_;intro w66 hmo66 D66;refine dq [0,1,2,3,4] ?_;refine RH.tk 5 rfl (λw' hDr=>V.ldB V117 rfl ((hmo66.awayK hDr).get 0 rfl) rfl) ?_;refine dq [7,8,9] ?_;refine RH.tk 10 rfl (λw' hDr=>V.ldB V117 rfl ((hmo66.awayK hDr).get 0 rfl) rfl) ?_;obtain ⟨p67,e67,Y⟩:=bindE Y;have D68:=D66.cu [0] [1];refine RH.cq (cK func173) 6 (m_pack_Reader_Fix_sim e67 D68.lend :) ?_;rintro _ w67 ⟨F67_p0,rfl,Q67⟩;have D70:=D68.callAZ Q67;refine ⟨_,rfl,D70.fr,?_⟩;obtain ⟨p71,e71,Y⟩:=bindE Y;have D72:=D70.cu [0] [1];refine RH.cq (cK func173) 11 (m_pack_Reader_Fix_sim e71 D72.lend :) ?_;rintro _ w71 ⟨F71_p0,rfl,Q71⟩;have D74:=D72.callAZ Q71;refine ⟨_,rfl,D74.fr,?_⟩;refine dq [12,13] ?_;obtain ⟨_,⟨A75_0,c75_0,A75_1,c75_1,A75_2,c75_2,rfl⟩,D75⟩:=D74.unf 0 rfl;replace D75:=D75.nq
   refine RH.sn 14 D75 1 O31 λw79 D80=>?_
   refine ⟨D80.fr,?_⟩;refine dq [15,16] ?_
   refine RH.sn 17 D80 1 O31 λw81 D82=>?_
   refine ⟨D82.fr,?_⟩;refine RH.dn ?_;have D83:=hmo66.callAZ D82;have D84:=(D83.pk [0,1,2,3,4,5]).nq;refine gg 1 rfl ?_;have D86:=D84.cu [2,3,4,5] [0,1];obtain ⟨F85,D85⟩:=D86.fold (T_point_reader.sh b0 (⟨p71.2,x0.e⟩:T_point_reader)) ⟨F71_p0,b63_0,rfl⟩;have D87:=D85.dup 1 rfl (λ_ h=>h);have D89:=D87.dup 2 rfl (λ_ h=>h);have D91:=D89.dup 3 rfl (λ_ h=>h);have D94:=D91.cu [1,2,3,4] [0,5,6,7];obtain ⟨F93,D93⟩:=D94.fold (T_api_Point.sh b1 (⟨x1.Name,x1.Attrs,x1.Kind,x1.Temp,x1.Mono,x1.Start,x1.Time,x1.Int_,p67.1,p71.1,x1.Hist,x1.Flags⟩:T_api_Point)) ⟨A75_0,c75_0,A75_1,c75_1,A75_2,c75_2,rfl⟩;refine Rn.end0 func126 rfl ?_;obtain rfl:=someE Y;exact ⟨F85,F93,rfl,D93.pk [3,4]⟩
  refine gg 5 rfl ?_;refine bD Y 4 2 (λh95 Y=>?_) (λh95 Y=>?_)
  ·obtain ⟨p96,e96,Y⟩:=bindE Y;have D97:=D37.cu [1] [0]
   refine Rn.a1 (cK func174) (m_point_reader_signed_sim e96 D97.lend :) D97 λF96_p0 w96 D99=>?_
   refine gg 3 rfl ?_;obtain ⟨_,⟨A100_0,c100_0,A100_1,c100_1,A100_2,c100_2,rfl⟩,D100⟩:=D99.unf 0 rfl;replace D100:=D100.nq
   refine Rn.sn D100 1 O3 λw104 D105=>?_
   refine gg 7 rfl ?_;obtain ⟨_,⟨F106_0,b106_0,rfl⟩,D106⟩:=D105.unf 0 rfl;replace D106:=D106.nq;refine Rn.q rfl (V.ldB V39 rfl (D106.get 4 rfl) rfl) (gg 2 rfl ?_);have D108:=D106.dup 1 rfl (λ_ h=>h);have D110:=D108.dup 2 rfl (λ_ h=>h);have D112:=D110.dup 3 rfl (λ_ h=>h);have D115:=D112.cu [1,2,3,4,5] [0,6,7,8];obtain ⟨F114,D114⟩:=D115.fold (T_api_Point.sh b1 (⟨x1.Name,x1.Attrs,x1.Kind,x1.Temp,x1.Mono,x1.Start,x1.Time,x1.Int_,x1.Re,x1.Im,(⟨p96.1,x1.Hist.Zero,x1.Hist.Pos,x1.Hist.Neg⟩:T_api_Hist),x1.Flags⟩:T_api_Point)) ⟨A100_0,c100_0,A100_1,c100_1,A100_2,c100_2,rfl⟩;have D117:=D114.cu [0,1,2,5] [3,4];obtain ⟨F116,D116⟩:=D117.fold (T_point_reader.sh b0 p96.2) ⟨F106_0,b106_0,rfl⟩;refine Rn.jG D0 Y (G:=T_api_Point×T_point_reader×(Nat→Prop)×(Nat→Prop)) (λg=>[(0,pt b0 0),(1,pt b1 0)]) (λg=>[T_api_Point.obj (g.2.2.1) b1 (g.1),T_point_reader.obj (g.2.2.2) b0 (g.2.1)]) (λj g=>j g.1 g.2.1) ?_ ?_
   ·rintro ⟨y118,y119,F118,F119⟩ w120 D120 Y
    try dsimp only at Y
    refine gg 4 rfl ?_;obtain ⟨p121,e121,Y⟩:=bindE Y;have D122:=D120.cu [0] [1];refine Rn.cq (cK func175) (m_point_reader_side_sim e121 D122.lend :) ?_;rintro _ w121 ⟨A121_0_0,c121_0_0,F121_p0,rfl,Q121⟩;refine ⟨_,rfl,?_⟩;have D125:=D122.callAZ Q121;refine gg 3 rfl ?_;obtain ⟨_,⟨A126_0,c126_0,A126_1,c126_1,A126_2,c126_2,rfl⟩,D126⟩:=D125.unf 0 rfl;replace D126:=D126.nq
    refine Rn.sn D126 2 O34 λw130 D131=>?_
    refine gg 4 rfl ?_;obtain ⟨p132,e132,Y⟩:=bindE Y;have D133:=D131.cu [0,2,3,4,5] [1];refine Rn.cq (cK func175) (m_point_reader_side_sim e132 D133.lend :) ?_;rintro _ w132 ⟨A132_0_0,c132_0_0,F132_p0,rfl,Q132⟩;refine ⟨_,rfl,?_⟩;have D136:=D133.callAZ Q132;refine gg 3 rfl (Rn.sn D136 1 O34 λw137 D138=>?_);refine gg 2 rfl ?_;have D139:=D138.dup 2 rfl (λ_ h=>h);have D142:=D139.freeze 0 rfl;have D143:=D142.dup 0 rfl (λ_ h=>h);have D146:=D143.freeze 5 rfl;have D147:=D146.dup 5 rfl (λ_ h=>h);have D150:=D147.cu [0,2,3,4,5,6] [1,7,8,9];obtain ⟨F149,D149⟩:=D150.fold (T_api_Point.sh b1 (⟨y118.Name,y118.Attrs,y118.Kind,y118.Temp,y118.Mono,y118.Start,y118.Time,y118.Int_,y118.Re,y118.Im,(⟨y118.Hist.Scale,y118.Hist.Zero,p121.1,p132.1⟩:T_api_Hist),y118.Flags⟩:T_api_Point)) ⟨A126_0,c126_0,A121_0_0,c121_0_0,A132_0_0,c132_0_0,rfl⟩;refine Rn.end0 func126 rfl ?_;obtain rfl:=someE Y;exact ⟨F132_p0,F149,rfl,D149.pk [5,6]⟩
   intro j2 Y K2;refine bD Y 5 1 (λh151 Y=>?_) (λh151 Y=>?_)
   ·obtain ⟨_,⟨F152_0,b152_0,rfl⟩,D152⟩:=D116.unf 4 rfl;replace D152:=D152.nq;refine Rn.q rfl (V.ldB V117 rfl (D152.get 4 rfl) rfl) ?_;obtain ⟨p154,e154,Y⟩:=bindE Y;have D155:=D152.cu [0,1,2,3,4] [5]
    refine Rn.a1 (cK func123) (m_pack_Reader_Num_sim e154 D155.lend :) D155 λF154_p0 w154 D157=>?_
    refine gg 3 rfl ?_;obtain ⟨_,⟨A158_0,c158_0,A158_1,c158_1,A158_2,c158_2,rfl⟩,D158⟩:=D157.unf 3 rfl;replace D158:=D158.nq
    refine Rn.sn D158 5 O31 λw162 D163=>?_
    refine gg 1 rfl ?_;have D164:=D163.dup 6 rfl (λ_ h=>h);have D166:=D164.dup 7 rfl (λ_ h=>h);have D168:=D166.dup 8 rfl (λ_ h=>h);have D171:=D168.cu [0,1,2,3,4,6,7,8] [5,9,10,11];obtain ⟨F170,D170⟩:=D171.fold (T_api_Point.sh b1 (⟨x1.Name,x1.Attrs,x1.Kind,x1.Temp,x1.Mono,x1.Start,x1.Time,x1.Int_,x1.Re,x1.Im,(⟨p96.1,p154.1,x1.Hist.Pos,x1.Hist.Neg⟩:T_api_Hist),x1.Flags⟩:T_api_Point)) ⟨A158_0,c158_0,A158_1,c158_1,A158_2,c158_2,rfl⟩;have D173:=D170.cu [0,1,2,5,6,7,8] [3,4];obtain ⟨F172,D172⟩:=D173.fold (T_point_reader.sh b0 (⟨p154.2,p96.2.e⟩:T_point_reader)) ⟨F154_p0,b152_0,rfl⟩;exact K2 ((⟨x1.Name,x1.Attrs,x1.Kind,x1.Temp,x1.Mono,x1.Start,x1.Time,x1.Int_,x1.Re,x1.Im,(⟨p96.1,p154.1,x1.Hist.Pos,x1.Hist.Neg⟩:T_api_Hist),x1.Flags⟩:T_api_Point),(⟨p154.2,p96.2.e⟩:T_point_reader),F170,F172) _ _ sA (D172.pk [6,7]) Y
   exact K2 ((⟨x1.Name,x1.Attrs,x1.Kind,x1.Temp,x1.Mono,x1.Start,x1.Time,x1.Int_,x1.Re,x1.Im,(⟨p96.1,x1.Hist.Zero,x1.Hist.Pos,x1.Hist.Neg⟩:T_api_Hist),x1.Flags⟩:T_api_Point),p96.2,F114,F116) _ _ sA (D116.pk [3,4]) Y
  refine Rn.end0 func126 rfl ?_;obtain rfl:=someE Y;exact ⟨F34,F35,rfl,D37.pk [0,1]⟩
 intro j1 Y K1;refine bD Y 1 4 (λh174 Y=>?_) (λh174 Y=>?_)
 ·exact K1 ((decide (x1.Kind=2)),F0,F32) _ _ sA (D32.pk [0,4]) Y
 exact K1 ((decide (x1.Kind=3)),F0,F32) _ _ sA (D32.pk [0,4]) Y
theorem m_pack_Reader_Done_sim {x0:T_pack_Reader} {r:Int} (Y:m_pack_Reader_Done x0=some r) (f0:(fzR (T_pack_Reader.obj F0 b0 x0)).H Z0 w) :
 Calls prog 71 #[pt b0 0] w λx w'=>x=.returned (iv r)∧Hp Z0 No w w' []:=by
 obtain ⟨D0,D2,hc0⟩:=knA f0;refine eg func71 10 ?_;obtain ⟨_,⟨A3_0,c3_0,rfl⟩,D3⟩:=D2.unfz 0 rfl;replace D3:=D3.nq;have D7:=D3.fzS 2 rfl;refine Rn.q rfl (V.ldB V39 rfl (D7.getz 1 rfl) rfl) (gg 2 rfl ?_);refine Rn.jQ D7 [0,1,3] Y (G:=Bool) [] (λg=>[(0,pt b0 0),(12,.bool (g))]) (λg=>[_,_,_]) (λj g=>j g) ?_ ?_
 ·rintro y8 w9 D9 Y
  try dsimp only at Y
  refine gg 1 rfl ?_;refine bS Y 4 6 (λh10 Y=>?_) (λh10 Y=>?_)
  ·cases Y
   exact Rn.R1 func71 ⟨rfl,D9.pk []⟩
  refine Rn.q rfl (V.ldB V39 rfl (D9.getz 1 rfl) rfl) (gg 2 rfl ?_)
  cases Y
  exact Rn.R1 func71 ⟨rfl,D9.pk []⟩
 intro j1 Y K1;refine askD Y (Rn.partD (t:=8) rfl) (λh11 Y=>?_) (λh11 Y=>?_)
 ·refine gg 1 rfl ?_;obtain ⟨p12,e12,Y⟩:=bindE Y
  refine Rn.c0 (cK func131) (m_pack_Reader_Left_sim (Z0:=All) e12 (fz_fz (D7.get 0 rfl)) :) D7 λw12 _ D13=>?_
  refine gg 2 rfl ?_;exact K1 (decide (p12>0)) _ _ sA (D13.pk [0,1,3]) Y
 refine gg 4 rfl ?_;exact K1 false _ _ sA (D7.pk [0,1,3]) Y
theorem m_internal_stringslite_IndexByte_sim {x0:(List UInt8)} {x1:UInt8} {r:Int} (Y:m_internal_stringslite_IndexByte x0 x1=some r)  :
 Calls prog 245 #[Str (x0),u8v x1] w λx w'=>x=.returned (iv r)∧Hp Z0 No w w' []:=by
 have D0:=Hp.nil Z0 No w;have hc0:=Calm.nil;refine eg func245 8 ?_;refine Rn.q rfl (V.indexByte (s:=x0) (c:=x1) func253 (by kernel_rfl) (by kernel_rfl) (by kernel_rfl) (by kernel_rfl) rfl) (gg 2 rfl ?_)
 cases Y
 exact Rn.R1 func245 ⟨rfl,D0.pk []⟩
theorem m_internal_stringslite_Index_sim {x0:(List UInt8)} {x1:(List UInt8)} {r:Int} (Y:m_internal_stringslite_Index x0 x1=some r)  :
 Calls prog 233 #[Str (x0),Str (x1)] w λx w'=>x=.returned (iv r)∧Hp Z0 No w w' []:=by
 have D0:=Hp.nil Z0 No w;have hc0:=Calm.nil;refine eg func233 7 ?_;refine Rn.q rfl (V.lenS U9 rfl) (gg 9 rfl ?_);refine Rn.cutR [7] [(0,Str (x0)),(1,Str (x1)),(5,iv (x1.length:Int)),(23,.bool (decide (((x1.length:Int)=0)∨(x1=x0))))] (λK1=>?_) ?_
 ·refine Rn.partD (t:=19) rfl (λh2=>?_) (λh2=>?_)
  ·refine gg 4 rfl ?_;exact K1 _ sA
  refine gg 2 rfl (Rn.q rfl (V.eqlS rfl rfl) (gg 1 rfl ?_));exact K1 _ sA
 refine gg 2 rfl ?_;refine bD Y 4 6 (λh3 Y=>?_) (λh3 Y=>?_)
 ·cases Y
  exact Rn.R1 func233 ⟨rfl,D0.pk []⟩
 refine bD Y 4 4 (λh4 Y=>?_) (λh4 Y=>?_)
 ·obtain ⟨z5,e5,Y⟩:=bindE Y;refine Rn.q rfl (V.idxSZ U9 rfl rfl e5) ?_;obtain ⟨p6,e6,Y⟩:=bindE Y
  refine Rn.c0 (cK func245) (m_internal_stringslite_IndexByte_sim (Z0:=All) e6  :) D0 λw6 _ D7=>?_
  refine gg 2 rfl ?_
  cases Y
  exact Rn.R1 func233 ⟨rfl,D7.pk []⟩
 refine Rn.q rfl (V.lenS U9 rfl) (gg 3 rfl ?_);refine aD Y (λh8 Y=>?_) (λh8 Y=>?_)
 ·refine gg 4 rfl ?_
  cases Y
  exact Rn.R1 func233 ⟨rfl,D0.pk []⟩
 cases Y
theorem m_internal_stringslite_Cut_sim {x0:(List UInt8)} {x1:(List UInt8)} {r:((List UInt8)×(List UInt8)×Bool)} (Y:m_internal_stringslite_Cut x0 x1=some r)  :
 Calls prog 211 #[Str (x0),Str (x1)] w λx w'=>x=.returned (.tuple #[Str (r.1),Str (r.2.1),.bool (r.2.2)])∧Hp Z0 No w w' []:=by
 have D0:=Hp.nil Z0 No w;have hc0:=Calm.nil;refine eg func211 11 ?_;obtain ⟨p1,e1,Y⟩:=bindE Y
 refine Rn.c0 (cK func233) (m_internal_stringslite_Index_sim (Z0:=All) e1  :) D0 λw1 _ D2=>?_
 refine gg 7 rfl ?_;refine bD Y 1 8 (λh3 Y=>?_) (λh3 Y=>?_)
 ·refine Rn.drawP rfl D2 ?_;intro w4 D4;refine dq [0,1] ?_;obtain ⟨z5,e5,Y⟩:=bindE Y;refine RH.tp 2 rfl (V.cutSZ U9 rfl e5 rfl rfl) ?_;refine dq [3,4,5] ?_;refine RH.tp 6 rfl (V.lenS U9 rfl) ?_;refine dq [7] ?_;obtain ⟨z6,e6,Y⟩:=bindE Y;refine RH.tp 8 rfl (V.cutSZ U9 rfl e6 rfl rfl) ?_;refine dq [9,10,11] ?_;refine RH.dn ?_;refine Rn.retG3 func211 rfl (rvT rfl) (rvT rfl) (rvT rfl) ?_;obtain rfl:=someE Y;exact ⟨rfl,D4.pk []⟩
 refine Rn.retG3 func211 rfl (rvT rfl) (rvT rfl) (rvT rfl) ?_;obtain rfl:=someE Y;exact ⟨rfl,D2.pk []⟩
theorem m_strings_Cut_sim {x0:(List UInt8)} {x1:(List UInt8)} {r:((List UInt8)×(List UInt8)×Bool)} (Y:m_strings_Cut x0 x1=some r)  :
 Calls prog 176 #[Str (x0),Str (x1)] w λx w'=>x=.returned (.tuple #[Str (r.1),Str (r.2.1),.bool (r.2.2)])∧Hp Z0 No w w' []:=by
 have D0:=Hp.nil Z0 No w;have hc0:=Calm.nil;refine eg func176 10 ?_;obtain ⟨p1,e1,Y⟩:=bindE Y
 refine Rn.c0 (cK func211) (m_internal_stringslite_Cut_sim (Z0:=All) e1  :) D0 λw1 _ D2=>?_
 refine gg 7 rfl ?_;refine Rn.retG3 func176 rfl (rvT rfl) (rvT rfl) (rvT rfl) ?_;obtain rfl:=someE Y;exact ⟨rfl,D2.pk []⟩
theorem m_label_pair_sim {x0:(List UInt8)} {r:(T_api_Pair×Int)} (Y:m_label_pair x0=some r)  :
 Calls prog 177 #[Str (x0)] w λx w'=>x=.returned (.tuple #[.agg [Str (r.1.Key),Str (r.1.Val)].toArray,iv r.2])∧Hp Z0 No w w' []:=by
 have D0:=Hp.nil Z0 No w;have hc0:=Calm.nil;refine eg func177 2 ?_
 refine Rn.al D0 Tryz.zeroValue116 λb1 w1 D3=>?_
 replace D3:=D3.nb;refine gg 5 rfl ?_;obtain ⟨p4,e4,Y⟩:=bindE Y
 refine Rn.c0 (cK func176) (m_strings_Cut_sim (Z0:=All) e4  :) D3 λw4 _ D5=>?_
 refine gg 12 rfl (Rn.q rfl (V.notB rfl) (gg 1 rfl ?_));refine Rn.jQ D5 [0] Y (G:=Bool) [7,8,9,10,11] (λg=>[(2,pt b1 0),(4,Str (p4.1)),(5,Str (p4.2.1)),(19,.bool (g))]) (λg=>[_]) (λj g=>j g) ?_ ?_
 ·rintro y6 w7 D7 Y
  try dsimp only at Y
  refine gg 1 rfl ?_;refine Rn.jQ D7 [0] Y (G:=Bool) [] (λg=>[(2,pt b1 0),(4,Str (p4.1)),(5,Str (p4.2.1)),(24,.bool (g))]) (λg=>[_]) (λj g=>j g) ?_ ?_
  ·rintro y8 w9 D9 Y
   try dsimp only at Y
   refine gg 1 rfl ?_;refine bS Y 2 5 (λh10 Y=>?_) (λh10 Y=>?_)
   ·refine Rn.q rfl (V.bldS (cs:=[_,_]) st116 rfl rfl) (Rn.sn D9 0 O116 λw11 D12=>?_);refine gg 2 rfl ?_;refine Rn.retG2 func177 rfl (rvC rfl V116 O116 (D12.get 0 rfl) rfl) (rvT rfl) ?_;obtain rfl:=someE Y;exact ⟨rfl,D12.pk []⟩
   refine Rn.q rfl (V.bldS (cs:=[_,_]) st116 rfl rfl) (Rn.sn D9 0 O116 λw13 D14=>?_);refine gg 2 rfl ?_;refine Rn.retG2 func177 rfl (rvC rfl V116 O116 (D14.get 0 rfl) rfl) (rvT rfl) ?_;obtain rfl:=someE Y;exact ⟨rfl,D14.pk []⟩
  intro j2 Y K2;refine askS Y (Rn.part (t:=20) rfl) (λh15 Y=>?_) (λh15 Y=>?_)
  ·refine gg 4 rfl ?_;exact K2 true _ _ sA (D7.pk [0]) Y
  refine gg 1 rfl ?_;obtain ⟨p16,e16,Y⟩:=bindE Y
  refine Rn.c0 (cK func115) (m_label_isValue_sim (Z0:=All) e16  :) D7 λw16 _ D17=>?_
  refine Rn.q rfl (V.notB rfl) (gg 1 rfl ?_);exact K2 (!p16) _ _ sA (D17.pk [0]) Y
 intro j1 Y K1;refine askS Y (Rn.part (t:=15) rfl) (λh18 Y=>?_) (λh18 Y=>?_)
 ·refine gg 4 rfl ?_;exact K1 true _ _ sA (D5.pk [0]) Y
 refine gg 1 rfl ?_;obtain ⟨p19,e19,Y⟩:=bindE Y
 refine Rn.c0 (cK func114) (m_label_isName_sim (Z0:=All) e19  :) D5 λw19 _ D20=>?_
 refine Rn.q rfl (V.notB rfl) (gg 1 rfl ?_);exact K1 (!p19) _ _ sA (D20.pk [0]) Y
theorem m_label_follows_sim {x0:(List T_api_Pair)} {x1:(List UInt8)} {r:Int} (Y:m_label_follows x0 x1=some r) (f0:(slR A0 c0 T_api_Pair.rep x0).H Z0 w) :
 Calls prog 178 #[.slice A0 (x0).length c0,Str (x1)] w λx w'=>x=.returned (iv r)∧Hp Z0 No w w' []:=by
 obtain ⟨D0,D2,hc0⟩:=knA f0;refine eg func178 8 ?_;refine Rn.q rfl (V.lenV U30 rfl) (gg 2 rfl ?_);refine Rn.jF D2 [0] Y (G:=Unit) (λg=>[(0,.slice A0 (x0).length c0),(1,Str (x1))]) (λg=>[_]) (λj g=>j ()) ?_ ?_
 ·rintro _ w3 D3 Y
  try dsimp only at Y
  refine gg 6 rfl (Rn.q rfl (V.lenV U30 rfl) (gg 1 rfl ?_));obtain ⟨z4,e4,Y⟩:=bindE Y;refine Rn.ixH D3 0 rfl e4 rfl rfl rfl U30 O116 rfl rfl rfl rfl ?_;rintro b4 o4 vs4 hr4 D4;obtain rfl:=T_api_Pair.relE hr4;refine gg 1 rfl (Rn.q rfl (V.ldR0 V9 rfl (D4.get 1 rfl).2 rfl) (Rn.q rfl (V.lssS rfl rfl) (gg 1 rfl ?_)));refine bS Y 4 5 (λh6 Y=>?_) (λh6 Y=>?_)
  ·cases Y
   exact Rn.R1 func178 ⟨rfl,D4.pk []⟩
  cases Y
  exact Rn.R1 func178 ⟨rfl,D4.pk []⟩
 intro j1 Y K1;refine gg 1 rfl ?_;refine Rn.lF D2 [0] (G:=Int) (λg=>[(0,.slice A0 (x0).length c0),(1,Str (x1)),(7,.slice A0 (x0).length c0),(8,iv (x0.length:Int)),(9,iv g)]) (λg=>[_]) (λn g=>m_label_follows_L1 x0 x1 j1 n g) fuel 0 sA (D2.pk [0]) Y ?_;clear Y;rintro m8 y7 w8 D8 Y N8;replace Y:m_label_follows_L1 x0 x1 j1 (m8+1) y7=some r:=Y;rw [m_label_follows_L1] at Y;refine gg 5 rfl ?_;refine bD Y 5 1 (λh9 Y=>?_) (λh9 Y=>?_)
 ·obtain ⟨z10,e10,Y⟩:=bindE Y;refine Rn.ixH D8 0 rfl e10 rfl rfl rfl U30 O116 rfl rfl rfl rfl ?_;rintro b10 o10 vs10 hr10 D10;obtain rfl:=T_api_Pair.relE hr10;refine Rn.q rfl (V.ldA (vs:=[_,_]) V116 O116 rfl (Rd.pre (D10.get 1 rfl).2 2) rfl) (Rn.als rfl rfl rfl Tryz.zeroValue116 rfl O116 rfl rfl rfl rfl (by first|exact ones rfl|(simp [Value.oneCell'];done)) ?_);intro b12 w12 hb12 m12 e12;have D14:=(D10.addBox hb12 e12 m12).nb;refine gg 4 rfl (Rn.q rfl (V.ldB V9 rfl (D14.get 2 rfl) rfl) (gg 1 rfl (Rn.q rfl (V.eqlS rfl rfl) (gg 1 rfl ?_))));refine bD Y 4 6 (λh15 Y=>?_) (λh15 Y=>?_)
  ·cases Y
   exact Rn.R1 func178 ⟨rfl,D14.pk []⟩
  exact N8 (W64 (y7+1)) _ _ sA (D14.pk [0]) Y
 exact K1 () _ _ sA (D8.pk [0]) Y
theorem m_label_Parse_sim {x0:(List UInt8)} {r:((List UInt8)×(List T_api_Pair)×Int×Int)} (Y:m_label_Parse x0=some r)  :
 Calls prog 127 #[Str (x0)] w λx w'=>∃ A_1_0 c_1_0,x=.returned (.tuple #[Str (r.1),.slice A_1_0 (r.2.1).length c_1_0,iv r.2.2.1,iv r.2.2.2])∧Hp Z0 No w w' [ownR 116 A_1_0 c_1_0 T_api_Pair.rep r.2.1]:=by
 have D0:=Hp.nil Z0 No w;have hc0:=Calm.nil;refine eg func127 10 ?_;obtain ⟨p1,e1,Y⟩:=bindE Y
 refine Rn.c0 (cK func176) (m_strings_Cut_sim (Z0:=All) e1  :) D0 λw1 _ D2=>?_
 refine gg 12 rfl ?_;obtain ⟨p3,e3,Y⟩:=bindE Y
 refine Rn.c0 (cK func114) (m_label_isName_sim (Z0:=All) e3  :) D2 λw3 _ D4=>?_
 refine Rn.q rfl (V.notB rfl) (gg 1 rfl ?_);refine bS Y 7 5 (λh5 Y=>?_) (λh5 Y=>?_)
 ·have D6:=D4.addNil 116 T_api_Pair.rep;refine Rn.retG4 func127 rfl (rvT rfl) (rvT rfl) (rvT rfl) (rvT rfl) ?_;obtain rfl:=someE Y;exact ⟨none,0,rfl,D6.pk [0]⟩
 refine Rn.q rfl (V.lenS U9 rfl) (gg 3 rfl ?_);refine Rn.jG D0 Y (G:=(List T_api_Pair)×Option Addr×Nat) (λg=>[(2,Str (p1.1)),(3,.slice (g.2.1) ((g.1)).length (g.2.2))]) (λg=>[ownR 116 (g.2.1) (g.2.2) T_api_Pair.rep (g.1)]) (λj g=>j g.1) ?_ ?_
 ·rintro ⟨y8,A9,c9⟩ w11 D11 Y
  try dsimp only at Y
  refine gg 9 rfl ?_;refine Rn.retG4 func127 rfl (rvT rfl) (rvT rfl) (rvT rfl) (rvT rfl) ?_;obtain rfl:=someE Y;exact ⟨A9,c9,rfl,D11.pk [0]⟩
 intro j1 Y K1;refine gg 1 rfl ?_;have D18:=D4.addNil 116 T_api_Pair.rep;refine Rn.loopF (G:=(List T_api_Pair)×Int×(List UInt8)×Bool×Option Addr×Nat) (λg=>[(2,Str (p1.1)),(3,.slice (g.2.2.2.2.1) ((g.1)).length (g.2.2.2.2.2)),(4,iv (g.2.1)),(6,Str ((g.2.2.1))),(7,.bool ((g.2.2.2.1)))]) (λg w'=>Hp Z0 No w w' [ownR 116 (g.2.2.2.2.1) (g.2.2.2.2.2) T_api_Pair.rep (g.1)]) (λn g=>m_label_Parse_L1 j1 n g.1 g.2.1 g.2.2.1 g.2.2.2.1) fuel (([]:List T_api_Pair),(W64 ((p1.1.length:Int)+1)),p1.2.1,p1.2.2,none,0) sA (D18.pk [0]) Y (λ_=>rfl) ?_;clear Y;rintro m20 ⟨y12,y15,y16,y17,A13,c13⟩ w20 D20 Y N20;replace Y:m_label_Parse_L1 j1 (m20+1) y12 y15 y16 y17=some r:=Y;rw [m_label_Parse_L1] at Y;refine gg 5 rfl ?_;refine bS Y 9 1 (λh21 Y=>?_) (λh21 Y=>?_)
 ·obtain ⟨p22,e22,Y⟩:=bindE Y
  refine Rn.c0 (cK func176) (m_strings_Cut_sim (Z0:=All) e22  :) D20 λw22 _ D23=>?_
  refine gg 11 rfl ?_;obtain ⟨p24,e24,Y⟩:=bindE Y
  refine Rn.c0 (cK func177) (m_label_pair_sim (Z0:=All) e24  :) D23 λw24 _ D25=>?_
  refine gg 3 rfl (Rn.als rfl rfl rfl Tryz.zeroValue116 rfl O116 rfl rfl rfl rfl (by first|exact ones rfl|(simp [Value.oneCell'];done)) ?_);intro b26 w26 hb26 m26 e26;have D28:=(D25.addBox hb26 e26 m26).nb;refine gg 6 rfl (Rn.q rfl (V.lenV U30 rfl) (gg 2 rfl ?_));refine Rn.jF D28 [0,1] Y (G:=Int) (λg=>[(2,Str (p1.1)),(3,.slice A13 (y12).length c13),(4,iv y15),(6,Str (p22.2.1)),(7,.bool (p22.2.2)),(8,Str (p22.1)),(9,pt b26 0),(10,iv g)]) (λg=>[_,_]) (λj g=>j g) ?_ ?_
  ·rintro y29 w30 D30 Y
   try dsimp only at Y
   refine gg 6 rfl ?_;refine Rn.cutR [] [(2,Str (p1.1)),(3,.slice A13 (y12).length c13),(4,iv y15),(6,Str (p22.2.1)),(7,.bool (p22.2.2)),(8,Str (p22.1)),(9,pt b26 0),(10,iv y29),(44,.bool (decide ((y29=0)∧((y12.length:Int)>0))))] (λK31=>?_) ?_
   ·refine Rn.partD (t:=40) rfl (λh32=>?_) (λh32=>?_)
    ·refine gg 1 rfl (Rn.q rfl (V.lenV U30 rfl) (gg 2 rfl ?_));exact K31 _ sA
    refine gg 4 rfl ?_;exact K31 _ sA
   refine gg 1 rfl ?_;refine Rn.jF D30 [0,1] Y (G:=Int) (λg=>[(2,Str (p1.1)),(3,.slice A13 (y12).length c13),(4,iv y15),(6,Str (p22.2.1)),(7,.bool (p22.2.2)),(8,Str (p22.1)),(9,pt b26 0),(10,iv g)]) (λg=>[_,_]) (λj g=>j g) ?_ ?_
   ·rintro y33 w34 D34 Y
    try dsimp only at Y
    refine gg 6 rfl ?_;refine bD Y 9 4 (λh35 Y=>?_) (λh35 Y=>?_)
    ·have D36:=D34.addNil 116 T_api_Pair.rep;refine Rn.retG4 func127 rfl (rvT rfl) (rvT rfl) (rvT rfl) (rvT rfl) ?_;obtain rfl:=someE Y;exact ⟨none,0,rfl,D36.pk [2]⟩
    refine Rn.q rfl (V.ldBA [_,_] V116 O116 rfl (D34.get 1 rfl) rfl rfl) ?_;obtain ⟨z38,e38,Y⟩:=bindE Y;refine Rn.pushH (z:=p24.1) (vs:=[Str (p24.1.Key),Str (p24.1.Val)]) D34 0 rfl e38 rfl rfl rfl rfl U30 el116 rfl rfl rfl rfl (λ_=>rfl) ((T_api_Pair.relI)) ?_;intro A38 c38 w38 u38 D38;refine gg 5 rfl (Rn.q rfl (V.lenS U9 rfl) (gg 5 rfl ?_));exact N20 (z38,(W64 (y15+(W64 ((p22.1.length:Int)+1)))),p22.2.1,p22.2.2,A38,c38) _ _ sA (D38.pk [0]) Y
   intro j3 Y K3;refine bD Y 3 1 (λh40 Y=>?_) (λh40 Y=>?_)
   ·refine Rn.q rfl (V.ldB V9 rfl (D30.get 1 rfl) rfl) ?_;obtain ⟨p41,e41,Y⟩:=bindE Y
    refine Rn.c0 (cK func178) (m_label_follows_sim (Z0:=All) e41 (own_slR (D30.get 0 rfl)) :) D30 λw41 _ D42=>?_
    refine gg 2 rfl ?_;exact K3 p41 _ _ sA (D42.pk [0,1]) Y
   exact K3 y29 _ _ sA (D30.pk [0,1]) Y
  intro j2 Y K2;refine bD Y 3 1 (λh43 Y=>?_) (λh43 Y=>?_)
  ·exact K2 4 _ _ sA (D28.pk [0,1]) Y
  exact K2 p24.2 _ _ sA (D28.pk [0,1]) Y
 exact K1 (y12,A13,c13) _ _ sA (D20.pk [0]) Y
theorem m_point_Read_sim {x0:(List UInt8)} {r:(T_api_Point×Int)} (Y:m_point_Read x0=some r) (f0:(slR A0 c0 byteR x0).H Z0 w) :
 Calls prog 69 #[.slice A0 (x0).length c0] w λx w'=>∃ A_0_0 c_0_0 A_0_1 c_0_1 A_0_2 c_0_2,x=.returned (.tuple #[.agg [Str (r.1.Name),.slice A_0_0 (r.1.Attrs).length c_0_0,iv r.1.Kind,iv r.1.Temp,.bool (r.1.Mono),iv r.1.Start,iv r.1.Time,iv r.1.Int_,u64v r.1.Re,u64v r.1.Im,iv r.1.Hist.Scale,u64v r.1.Hist.Zero,iv r.1.Hist.Pos.Offset,.slice A_0_1 (r.1.Hist.Pos.Counts).length c_0_1,iv r.1.Hist.Neg.Offset,.slice A_0_2 (r.1.Hist.Neg.Counts).length c_0_2,iv r.1.Flags].toArray,iv r.2])∧Hp Z0 No w w' [slR A_0_0 c_0_0 T_api_Pair.rep r.1.Attrs,slR A_0_1 c_0_1 w64R r.1.Hist.Pos.Counts,slR A_0_2 c_0_2 w64R r.1.Hist.Neg.Counts]:=by
 obtain ⟨D0,D2,hc0⟩:=knA f0;refine eg func69 2 ?_
 refine Rn.al D2 Tryz.zeroValue38 λb3 w3 D5=>?_
 replace D5:=D5.nb;refine gg 5 rfl ?_;obtain ⟨p6,e6,Y⟩:=bindE Y
 refine Rn.c2 (cK func65) (m_pack_NewReader_sim (Z0:=D5.Z) e6 (D5.get 0 rfl) :) λF6_0 b6_0 w6 Q6=>?_
 have D8:=D5.callZ Q6;refine Rn.q rfl (V.bldS (cs:=[_,_]) st187 rfl rfl) (Rn.bx D8 λb9 w9 D11=>?_);replace D11:=D11.nb;refine gg 4 rfl (Rn.al D11 Tryz.zeroValue38 λb12 w12 D14=>?_);replace D14:=D14.nb;refine gg 6 rfl (Rn.q rfl (V.ldB V117 rfl (D14.get 3 rfl) rfl) ?_);obtain ⟨p15,e15,Y⟩:=bindE Y;have D16:=D14.cu [0,1,3,4] [2]
 refine Rn.a1 (cK func67) (m_pack_Reader_Text_sim e15 D16.lend :) D16 λF15_p0 w15 D18=>?_
 refine gg 3 rfl ?_;have D20:=D18.addNil 116 T_api_Pair.rep;have D23:=D20.freeze 5 rfl;have D24:=D23.dup 5 rfl (λ_ h=>h);have D26:=D24.addNil 31 w64R;have D29:=D26.freeze 7 rfl;have D30:=D29.dup 7 rfl (λ_ h=>h);have D32:=D30.addNil 31 w64R;have D35:=D32.freeze 9 rfl;have D36:=D35.dup 9 rfl (λ_ h=>h);have D39:=D36.cu [0,1,2,4,5,7,9] [3,6,8,10];obtain ⟨F38,D38⟩:=D39.fold (T_api_Point.sh b12 (⟨([]:List UInt8),([]:List T_api_Pair),0,0,false,0,0,0,(0:UInt64),(0:UInt64),(⟨0,(0:UInt64),(⟨0,([]:List UInt64)⟩:T_api_Side),(⟨0,([]:List UInt64)⟩:T_api_Side)⟩:T_api_Hist),0⟩:T_api_Point)) ⟨none,0,none,0,none,0,rfl⟩;have D44:=(D38.cutF [1,2] [3,7] [0,4,5,6] rfl (by decide) ⟨λ_ h=>h,λ_ h=>h,λ_ h=>h,λ_ h=>h,trivial⟩).nf ([_,_,_,_,_,_]++[_,_,_,_,_,_]) rfl;refine Rn.drawF rfl D44 ?_;intro w45 hmo45 D45;refine dq [0,1,2] ?_;refine RH.tk 3 rfl (λw' hDr=>V.ldB V117 rfl ((hmo45.awayK hDr).get 1 rfl) rfl) ?_;refine dq [5,6,7] ?_;refine RH.tk 8 rfl (λw' hDr=>V.ldB V117 rfl ((hmo45.awayK hDr).get 1 rfl) rfl) ?_;obtain ⟨p46,e46,Y⟩:=bindE Y;have D47:=D45.cu [1,2,3,4,5] [0];refine RH.cq (cK func66) 4 (m_pack_Reader_Count_sim e46 D47.lend :) ?_;rintro _ w46 ⟨F46_p0,rfl,Q46⟩;have D49:=D47.callAZ Q46;refine ⟨_,rfl,D49.fr,?_⟩;obtain ⟨p50,e50,Y⟩:=bindE Y;have D51:=D49.cu [0,1,2,3,4] [5];refine RH.cq (cK func66) 9 (m_pack_Reader_Count_sim e50 D51.lend :) ?_;rintro _ w50 ⟨F50_p0,rfl,Q50⟩;have D53:=D51.callAZ Q50;refine ⟨_,rfl,D53.fr,?_⟩;refine dq [10] ?_;obtain ⟨_,⟨A54_0,c54_0,A54_1,c54_1,A54_2,c54_2,rfl⟩,D54⟩:=D53.unf 0 rfl;replace D54:=D54.nq
 refine RH.sn 11 D54 5 O3 λw58 D59=>?_
 refine ⟨D59.fr,?_⟩;refine dq [12] ?_
 refine RH.sn 13 D59 5 O3 λw60 D61=>?_
 refine ⟨D61.fr,?_⟩;refine RH.dn ?_;have D62:=hmo45.callAZ D61;have D63:=(D62.pk [0,1,6,7,8,9,10,11,12,13,14]).nq;refine gg 5 rfl (Rn.q rfl (V.ldB V117 rfl (D63.get 1 rfl) rfl) ?_);obtain ⟨p64,e64,Y⟩:=bindE Y;have D65:=D63.cu [0,1,2,3,4,5,7,8,9,10] [6]
 refine Rn.a1 (cK func66) (m_pack_Reader_Count_sim e64 D65.lend :) D65 λF64_p0 w64 D67=>?_
 refine gg 3 rfl ?_;have D69:=D67.dup 7 rfl (λ_ h=>h);have D71:=D69.dup 8 rfl (λ_ h=>h);have D73:=D71.dup 9 rfl (λ_ h=>h);have D76:=D73.cu [0,1,2,3,4,5,7,8,9,10] [6,11,12,13];obtain ⟨F75,D75⟩:=D76.fold (T_api_Point.sh b12 (⟨([]:List UInt8),([]:List T_api_Pair),p46.1,p50.1,false,0,0,0,(0:UInt64),(0:UInt64),(⟨0,(0:UInt64),(⟨0,([]:List UInt64)⟩:T_api_Side),(⟨0,([]:List UInt64)⟩:T_api_Side)⟩:T_api_Hist),0⟩:T_api_Point)) ⟨A54_0,c54_0,A54_1,c54_1,A54_2,c54_2,rfl⟩;have D84:=(D75.cutF [0,1] [9,10] [2,3,4,5,6,7,8] rfl (by decide) ⟨λ_ h=>h,λ_ h=>h,λ_ h=>h,λ_ h=>h,λ_ h=>h,λ_ h=>h,λ_ h=>h,trivial⟩).nf ([_,_,_,_,_,_,_,_,_]++[_,_,_,_,_,_,_,_,_]) rfl;refine Rn.drawF rfl D84 ?_;intro w85 hmo85 D85;refine dq [0,1,2] ?_;refine RH.tk 3 rfl (λw' hDr=>V.ldB V117 rfl ((hmo85.awayK hDr).get 1 rfl) rfl) ?_;refine dq [5,6,7] ?_;refine RH.tk 8 rfl (λw' hDr=>V.ldB V117 rfl ((hmo85.awayK hDr).get 1 rfl) rfl) ?_;obtain ⟨p86,e86,Y⟩:=bindE Y;have D87:=D85.cu [1,2,3,4,5,6,7,8] [0];refine RH.cq (cK func66) 4 (m_pack_Reader_Count_sim e86 D87.lend :) ?_;rintro _ w86 ⟨F86_p0,rfl,Q86⟩;have D89:=D87.callAZ Q86;refine ⟨_,rfl,D89.fr,?_⟩;obtain ⟨p90,e90,Y⟩:=bindE Y;have D91:=D89.cu [0,1,2,3,4,5,6,7] [8];refine RH.cq (cK func66) 9 (m_pack_Reader_Count_sim e90 D91.lend :) ?_;rintro _ w90 ⟨F90_p0,rfl,Q90⟩;have D93:=D91.callAZ Q90;refine ⟨_,rfl,D93.fr,?_⟩;refine dq [10] ?_;obtain ⟨_,⟨A94_0,c94_0,A94_1,c94_1,A94_2,c94_2,rfl⟩,D94⟩:=D93.unf 0 rfl;replace D94:=D94.nq
 refine RH.sn 11 D94 8 O3 λw98 D99=>?_
 refine ⟨D99.fr,?_⟩;refine dq [12] ?_
 refine RH.sn 13 D99 8 O3 λw100 D101=>?_
 refine ⟨D101.fr,?_⟩;refine RH.dn ?_;have D102:=hmo85.callAZ D101;have D103:=(D102.pk [0,1,9,10,11,12,13,14,15,16,17,18,19,20]).nq;refine gg 1 rfl ?_;have D105:=D103.cu [0,2,3,4,5,6,7,8,10,11,12,13] [1,9];obtain ⟨F104,D104⟩:=D105.fold (T_point_reader.sh b9 (⟨p90.2,0⟩:T_point_reader)) ⟨F90_p0,b6_0,rfl⟩;have D106:=D104.dup 9 rfl (λ_ h=>h);have D108:=D106.dup 10 rfl (λ_ h=>h);have D110:=D108.dup 11 rfl (λ_ h=>h);have D113:=D110.cu [0,1,2,3,4,5,6,7,9,10,11,12] [8,13,14,15];obtain ⟨F112,D112⟩:=D113.fold (T_api_Point.sh b12 (⟨([]:List UInt8),([]:List T_api_Pair),p46.1,p50.1,false,p90.1,0,0,(0:UInt64),(0:UInt64),(⟨0,(0:UInt64),(⟨0,([]:List UInt64)⟩:T_api_Side),(⟨0,([]:List UInt64)⟩:T_api_Side)⟩:T_api_Hist),p86.1⟩:T_api_Point)) ⟨A94_0,c94_0,A94_1,c94_1,A94_2,c94_2,rfl⟩;refine Rn.jF D112 [0,99,99] Y (G:=T_point_reader×T_api_Point×(Nat→Prop)×(Nat→Prop)) (λg=>[(2,pt b3 0),(4,pt b9 0),(5,pt b12 0),(6,Str (p15.1)),(7,iv p64.1)]) (λg=>[_,T_point_reader.obj (g.2.2.1) b9 (g.1),T_api_Point.obj (g.2.2.2) b12 (g.2.1)]) (λj g=>j g.1 g.2.1) ?_ ?_
 ·rintro ⟨y114,y115,F114,F115⟩ w116 D116 Y
  try dsimp only at Y
  refine gg 3 rfl ?_;obtain ⟨p117,e117,Y⟩:=bindE Y;have D118:=D116.cu [0] [1,2]
  refine Rn.c2 (cK func126) (m_point_reader_value_sim e117 D118.lend :) λF117_p0 F117_p1 w117 Q117=>?_
  have D121:=D118.callAZ Q117;refine gg 6 rfl ?_;obtain ⟨_,⟨F122_0,b122_0,rfl⟩,D122⟩:=D121.unf 1 rfl;replace D122:=D122.nq;refine Rn.q rfl (V.ldB V39 rfl (D122.get 2 rfl) rfl) (gg 8 rfl ?_);have D125:=D122.cu [0,1] [2,3];obtain ⟨F124,D124⟩:=D125.fold (T_point_reader.sh b9 p117.1) ⟨F122_0,b122_0,rfl⟩;refine Rn.jF D124 [0,99,99] Y (G:=Int×(Nat→Prop)×(Nat→Prop)) (λg=>[(2,pt b3 0),(5,pt b12 0),(6,Str (p15.1)),(7,iv p64.1),(8,iv (g.1))]) (λg=>[_,T_api_Point.obj (g.2.1) b12 p117.2,T_point_reader.obj (g.2.2) b9 p117.1]) (λj g=>j g.1) ?_ ?_
  ·rintro ⟨y128,F126,F127⟩ w129 D129 Y
   try dsimp only at Y
   refine gg 6 rfl ?_;refine Rn.jF D129 [0,99,99] Y (G:=Int×T_api_Point×(Nat→Prop)×(Nat→Prop)) (λg=>[(2,pt b3 0),(5,pt b12 0),(7,iv p64.1),(8,iv (g.1))]) (λg=>[_,T_point_reader.obj (g.2.2.1) b9 p117.1,T_api_Point.obj (g.2.2.2) b12 (g.2.1)]) (λj g=>j g.1 g.2.1) ?_ ?_
   ·rintro ⟨y131,y132,F130,F132⟩ w133 D133 Y
    try dsimp only at Y
    refine gg 6 rfl ?_;refine Rn.cutR [] [(2,pt b3 0),(5,pt b12 0),(7,iv p64.1),(8,iv y131),(85,.bool (decide ((y131=0)∧(p64.1>1))))] (λK134=>?_) ?_
    ·refine Rn.partD (t:=82) rfl (λh135=>?_) (λh135=>?_)
     ·refine gg 3 rfl ?_;exact K134 _ sA
     refine gg 3 rfl ?_;exact K134 _ sA
    refine gg 1 rfl ?_;refine Rn.jF D133 [0,99,99] Y (G:=Int×(Nat→Prop)×(Nat→Prop)) (λg=>[(2,pt b3 0),(5,pt b12 0),(7,iv p64.1),(8,iv (g.1))]) (λg=>[_,T_point_reader.obj (g.2.1) b9 p117.1,T_api_Point.obj (g.2.2) b12 y132]) (λj g=>j g.1) ?_ ?_
    ·rintro ⟨y138,F136,F137⟩ w139 D139 Y
     try dsimp only at Y
     refine gg 5 rfl ?_;obtain ⟨_,⟨A140_0,c140_0,A140_1,c140_1,A140_2,c140_2,rfl⟩,D140⟩:=D139.unf 2 rfl;replace D140:=D140.nq
     refine Rn.sn D140 2 O4 λw144 D145=>?_
     refine gg 7 rfl ?_;have D146:=D145.dup 3 rfl (λ_ h=>h);have D148:=D146.dup 4 rfl (λ_ h=>h);have D150:=D148.dup 5 rfl (λ_ h=>h);have D153:=D150.cu [0,1,3,4,5] [2,6,7,8];obtain ⟨F152,D152⟩:=D153.fold (T_api_Point.sh b12 (⟨y132.Name,y132.Attrs,y132.Kind,y132.Temp,decide (p64.1=1),y132.Start,y132.Time,y132.Int_,y132.Re,y132.Im,y132.Hist,y132.Flags⟩:T_api_Point)) ⟨A140_0,c140_0,A140_1,c140_1,A140_2,c140_2,rfl⟩;refine Rn.jF D152 [0,99,99] Y (G:=Int×(Nat→Prop)×(Nat→Prop)) (λg=>[(2,pt b3 0),(5,pt b12 0),(8,iv (g.1))]) (λg=>[_,T_point_reader.obj (g.2.1) b9 p117.1,T_api_Point.obj (g.2.2) b12 (⟨y132.Name,y132.Attrs,y132.Kind,y132.Temp,decide (p64.1=1),y132.Start,y132.Time,y132.Int_,y132.Re,y132.Im,y132.Hist,y132.Flags⟩:T_api_Point)]) (λj g=>j g.1) ?_ ?_
     ·rintro ⟨y156,F154,F155⟩ w157 D157 Y
      try dsimp only at Y
      refine gg 6 rfl ?_;refine bD Y 2 3 (λh158 Y=>?_) (λh158 Y=>?_)
      ·refine Rn.q rfl (V.bldS (cs:=[_,_,_,_,_,_,_,_,_,_,_,_,_,_,_,_,_]) st38 rfl rfl) (gg 1 rfl (Rn.stF rfl rfl O38 rfl rfl rfl rfl (by first|exact ones rfl|(simp [Value.oneCell'];done)) (D157.get 0 rfl) rfl ?_));intro w159 m159 x159;have D160:=D157.sn 0 x159 m159;refine gg 2 rfl ?_;have D161:=D160.addNil 116 T_api_Pair.rep;have D164:=D161.freeze 3 rfl;have D165:=D164.addNil 31 w64R;have D168:=D165.freeze 4 rfl;have D169:=D168.addNil 31 w64R;have D172:=D169.freeze 5 rfl;refine Rn.retG2 func69 rfl (rvC rfl V38 O38 (D160.get 0 rfl) rfl) (rvT rfl) ?_;obtain rfl:=someE Y;exact ⟨none,0,none,0,none,0,rfl,D172.pk [3,4,5]⟩
      obtain ⟨_,⟨A173_0,c173_0,A173_1,c173_1,A173_2,c173_2,rfl⟩,D173⟩:=D157.unf 2 rfl;replace D173:=D173.nq;refine Rn.q rfl (V.ldBA [_,_,_,_,_,_,_,_,_,_,_,_,_,_,_,_,_] V38 O38 rfl (D173.get 2 rfl) rfl rfl) (Rn.stF rfl rfl O38 rfl rfl rfl rfl (by first|exact ones rfl|(simp [Value.oneCell'];done)) (D173.get 0 rfl) rfl ?_);intro w177 m177 x177;have D178:=D173.sn 0 x177 m177;refine gg 2 rfl ?_;refine Rn.retG2 func69 rfl (rvC rfl V38 O38 (D178.get 0 rfl) rfl) (rvT rfl) ?_;obtain rfl:=someE Y;exact ⟨A173_0,c173_0,A173_1,c173_1,A173_2,c173_2,rfl,D178.pk [3,4,5]⟩
     intro j5 Y K5;refine bD Y 1 1 (λh179 Y=>?_) (λh179 Y=>?_)
     ·obtain ⟨_,⟨A180_0,c180_0,A180_1,c180_1,A180_2,c180_2,rfl⟩,D180⟩:=D152.unf 5 rfl;replace D180:=D180.nq;refine Rn.q rfl (V.ldBA [_,_,_,_,_,_,_,_,_,_,_,_,_,_,_,_,_] V38 O38 rfl (D180.get 5 rfl) rfl rfl) ?_;obtain ⟨p184,e184,Y⟩:=bindE Y
      refine Rn.c0 (cK func20) (m_point_Check_sim (Z0:=All) e184 (T_api_Point.relA (D180.get 6 rfl) (D180.get 7 rfl) (D180.get 8 rfl)) :) D180 λw184 _ D185=>?_
      replace D185:=D185.nq;refine gg 2 rfl ?_;have D186:=D185.dup 6 rfl (λ_ h=>h);have D188:=D186.dup 7 rfl (λ_ h=>h);have D190:=D188.dup 8 rfl (λ_ h=>h);have D193:=D190.cu [0,1,2,3,4,6,7,8] [5,9,10,11];obtain ⟨F192,D192⟩:=D193.fold (T_api_Point.sh b12 (⟨y132.Name,y132.Attrs,y132.Kind,y132.Temp,decide (p64.1=1),y132.Start,y132.Time,y132.Int_,y132.Re,y132.Im,y132.Hist,y132.Flags⟩:T_api_Point)) ⟨A180_0,c180_0,A180_1,c180_1,A180_2,c180_2,rfl⟩;exact K5 (p184,F136,F192) _ _ sA (D192.pk [0,1,8]) Y
     exact K5 (y138,F136,F152) _ _ sA (D152.pk [0,1,5]) Y
    intro j4 Y K4;refine bD Y 3 1 (λh194 Y=>?_) (λh194 Y=>?_)
    ·exact K4 (3,F130,F132) _ _ sA (D133.pk [0,1,2]) Y
    exact K4 (y131,F130,F132) _ _ sA (D133.pk [0,1,2]) Y
   intro j3 Y K3;refine bD Y 2 1 (λh195 Y=>?_) (λh195 Y=>?_)
   ·obtain ⟨p196,e196,Y⟩:=bindE Y
    refine Rn.c2 (cK func127) (m_label_Parse_sim (Z0:=All) e196  :) λA196_1_0 c196_1_0 w196 Q196=>?_
    have D198:=D129.callF (flC (ownR_flat T_api_Pair.flat _ _ _ _) fl0) Q196;refine gg 6 rfl ?_;obtain ⟨_,⟨A199_0,c199_0,A199_1,c199_1,A199_2,c199_2,rfl⟩,D199⟩:=D198.unf 1 rfl;replace D199:=D199.nq
    refine Rn.sn D199 3 O9 λw203 D204=>?_
    refine gg 1 rfl (Rn.sn D204 3 O30 λw205 D206=>?_);refine gg 2 rfl ?_;have D208:=D206.freeze 2 rfl;have D209:=D208.dup 2 rfl (λ_ h=>h);have D211:=D209.dup 5 rfl (λ_ h=>h);have D213:=D211.dup 6 rfl (λ_ h=>h);have D216:=D213.cu [0,1,2,4,5,6] [3,7,8,9];obtain ⟨F215,D215⟩:=D216.fold (T_api_Point.sh b12 (⟨p196.1,p196.2.1,p117.2.Kind,p117.2.Temp,p117.2.Mono,p117.2.Start,p117.2.Time,p117.2.Int_,p117.2.Re,p117.2.Im,p117.2.Hist,p117.2.Flags⟩:T_api_Point)) ⟨A196_1_0,c196_1_0,A199_1,c199_1,A199_2,c199_2,rfl⟩;exact K3 (p196.2.2.2,(⟨p196.1,p196.2.1,p117.2.Kind,p117.2.Temp,p117.2.Mono,p117.2.Start,p117.2.Time,p117.2.Int_,p117.2.Re,p117.2.Im,p117.2.Hist,p117.2.Flags⟩:T_api_Point),F127,F215) _ _ sA (D215.pk [0,1,6]) Y
   exact K3 (y128,p117.2,F127,F126) _ _ sA (D129.pk [0,2,1]) Y
  intro j2 Y K2;refine bD Y 4 1 (λh217 Y=>?_) (λh217 Y=>?_)
  ·obtain ⟨_,⟨F218_0,b218_0,rfl⟩,D218⟩:=D124.unf 2 rfl;replace D218:=D218.nq;refine Rn.q rfl (V.ldB V117 rfl (D218.get 2 rfl) rfl) ?_;obtain ⟨p220,e220,Y⟩:=bindE Y
   refine Rn.c0 (cK func71) (m_pack_Reader_Done_sim (Z0:=All) e220 (fz_all (D218.get 3 rfl)) :) D218 λw220 _ D221=>?_
   refine gg 2 rfl ?_;have D223:=D221.cu [0,1] [2,3];obtain ⟨F222,D222⟩:=D223.fold (T_point_reader.sh b9 p117.1) ⟨F218_0,b218_0,rfl⟩;exact K2 (p220,F117_p1,F222) _ _ sA (D222.pk [0,1,2]) Y
  exact K2 (p117.1.e,F117_p1,F124) _ _ sA (D124.pk [0,1,2]) Y
 intro j1 Y K1;obtain ⟨_,⟨F225_0,b225_0,rfl⟩,D225⟩:=D112.unf 11 rfl;replace D225:=D225.nq;have D237:=(D225.cutF [0,12] [11,13] [1,2,3,4,5,6,7,8,9,10] rfl (by decide) ⟨λ_ h=>h,λ_ h=>h,λ_ h=>h,λ_ h=>h,λ_ h=>h,λ_ h=>h,λ_ h=>h,λ_ h=>h,λ_ h=>h,λ_ h=>h,trivial⟩).nf ([_,_,_,_,_,_,_,_,_,_,_,_]++[_,_,_,_,_,_,_,_,_,_,_,_]) rfl;refine Rn.drawF rfl D237 ?_;intro w238 hmo238 D238;refine dq [0] ?_;obtain ⟨_,⟨A239_0,c239_0,A239_1,c239_1,A239_2,c239_2,rfl⟩,D239⟩:=D238.unf 0 rfl;replace D239:=D239.nq;refine dq [2,3,4] ?_;refine RH.tk 5 rfl (λw' hDr=>V.ldB V117 rfl ((hmo238.awayK hDr).get 1 rfl) rfl) ?_;obtain ⟨p243,e243,Y⟩:=bindE Y;refine RH.both 1 6 (by kernel_rfl) ?_ ?_
 ·refine RB.here λhS1=>RB.one 1 rfl rfl rfl rfl (V.ldB V3 rfl (D239.get 11 rfl) rfl) hS1 ?_
  have e251:=e243;have D252:=D239.cu [1,2,3,4,5,6,7,8,9,10,11,12,13,14] [0];refine RH.cq (cK func66) 6 (m_pack_Reader_Count_sim e251 D252.lend :) ?_;rintro _ w251 ⟨F251_p0,rfl,Q251⟩;have D254:=D252.callAZ Q251;refine ⟨_,rfl,D254.fr,?_⟩;refine dq [7,8] ?_
  refine RH.sn 9 D254 10 O3 λw255 D256=>?_
  refine ⟨D256.fr,?_⟩;refine RH.dn ?_;have D257:=hmo238.callAZ D256;have D258:=(D257.pk [0,1,12,13,14,15,16,17,18,19,20,21,22,23,24,25,26]).nq;have D260:=D258.cu [0,2,3,4,5,6,7,8,9,10,11,12,13,14,15] [1,16];obtain ⟨F259,D259⟩:=D260.fold (T_point_reader.sh b9 (⟨p243.2,0⟩:T_point_reader)) ⟨F251_p0,b225_0,rfl⟩;have D261:=D259.dup 12 rfl (λ_ h=>h);have D263:=D261.dup 13 rfl (λ_ h=>h);have D265:=D263.dup 14 rfl (λ_ h=>h);have D268:=D265.cu [0,1,2,3,4,5,6,7,8,9,10,12,13,14,15] [11,16,17,18];obtain ⟨F267,D267⟩:=D268.fold (T_api_Point.sh b12 (⟨([]:List UInt8),([]:List T_api_Pair),p46.1,p50.1,false,p90.1,W64 (p90.1+p243.1),0,(0:UInt64),(0:UInt64),(⟨0,(0:UInt64),(⟨0,([]:List UInt64)⟩:T_api_Side),(⟨0,([]:List UInt64)⟩:T_api_Side)⟩:T_api_Hist),p86.1⟩:T_api_Point)) ⟨A239_0,c239_0,A239_1,c239_1,A239_2,c239_2,rfl⟩;exact K1 ((⟨p243.2,0⟩:T_point_reader),(⟨([]:List UInt8),([]:List T_api_Pair),p46.1,p50.1,false,p90.1,W64 (p90.1+p243.1),0,(0:UInt64),(0:UInt64),(⟨0,(0:UInt64),(⟨0,([]:List UInt64)⟩:T_api_Side),(⟨0,([]:List UInt64)⟩:T_api_Side)⟩:T_api_Hist),p86.1⟩:T_api_Point),F259,F267) _ _ sA (D267.pk [0,14,15]) Y
 have e269:=e243;have D270:=D239.cu [1,2,3,4,5,6,7,8,9,10,11,12,13,14] [0];refine RB.cl (cK func66) 6 rfl rfl rfl rfl (m_pack_Reader_Count_sim e269 D270.lend :) ?_;rintro _ w269 ⟨F269_p0,rfl,Q269⟩;have D272:=D270.callAZ Q269;refine ⟨_,rfl,D272.fr,?_⟩;refine RH.ho 1 rfl (V.ldB V3 rfl (D272.get 10 rfl) rfl) ?_;refine dq [7,8] ?_
 refine RH.sn 9 D272 10 O3 λw273 D274=>?_
 refine ⟨D274.fr,?_⟩;refine RH.dn ?_;have D275:=hmo238.callAZ D274;have D276:=(D275.pk [0,1,12,13,14,15,16,17,18,19,20,21,22,23,24,25,26]).nq;have D278:=D276.cu [0,2,3,4,5,6,7,8,9,10,11,12,13,14,15] [1,16];obtain ⟨F277,D277⟩:=D278.fold (T_point_reader.sh b9 (⟨p243.2,0⟩:T_point_reader)) ⟨F269_p0,b225_0,rfl⟩;have D279:=D277.dup 12 rfl (λ_ h=>h);have D281:=D279.dup 13 rfl (λ_ h=>h);have D283:=D281.dup 14 rfl (λ_ h=>h);have D286:=D283.cu [0,1,2,3,4,5,6,7,8,9,10,12,13,14,15] [11,16,17,18];obtain ⟨F285,D285⟩:=D286.fold (T_api_Point.sh b12 (⟨([]:List UInt8),([]:List T_api_Pair),p46.1,p50.1,false,p90.1,W64 (p90.1+p243.1),0,(0:UInt64),(0:UInt64),(⟨0,(0:UInt64),(⟨0,([]:List UInt64)⟩:T_api_Side),(⟨0,([]:List UInt64)⟩:T_api_Side)⟩:T_api_Hist),p86.1⟩:T_api_Point)) ⟨A239_0,c239_0,A239_1,c239_1,A239_2,c239_2,rfl⟩;exact K1 ((⟨p243.2,0⟩:T_point_reader),(⟨([]:List UInt8),([]:List T_api_Pair),p46.1,p50.1,false,p90.1,W64 (p90.1+p243.1),0,(0:UInt64),(0:UInt64),(⟨0,(0:UInt64),(⟨0,([]:List UInt64)⟩:T_api_Side),(⟨0,([]:List UInt64)⟩:T_api_Side)⟩:T_api_Hist),p86.1⟩:T_api_Point),F277,F285) _ _ sA (D285.pk [0,14,15]) Y
theorem m_slices_Equal_uint64_uint64_sim {x0:(List UInt64)} {x1:(List UInt64)} {r:Bool} (Y:m_slices_Equal_uint64_uint64 x0 x1=some r) (f0:(slR A0 c0 w64R x0).H Z0 w) (f1:(slR A1 c1 w64R x1).H Z0 w) :
 Calls prog 212 #[.slice A0 (x0).length c0,.slice A1 (x1).length c1] w λx w'=>x=.returned (.bool (r))∧Hp Z0 No w w' []:=by
 obtain ⟨D0,D3,hc0⟩:=knA f0;obtain ⟨D4,hc0⟩:=D3.kn hc0 f1;refine eg func212 8 ?_;refine Rn.q rfl (V.lenV U32 rfl) (gg 1 rfl (Rn.q rfl (V.lenV U32 rfl) (gg 2 rfl ?_)));refine bD Y 4 5 (λh5 Y=>?_) (λh5 Y=>?_)
 ·cases Y
  exact Rn.R1 func212 ⟨rfl,D4.pk []⟩
 refine Rn.q rfl (V.lenV U32 rfl) (gg 2 rfl ?_);refine Rn.jG D0 Y (G:=Unit) (λg=>[]) (λg=>[]) (λj g=>j ()) ?_ ?_
 ·rintro _ w6 D6 Y
  try dsimp only at Y
  refine gg 4 rfl ?_
  cases Y
  exact Rn.R1 func212 ⟨rfl,D6.pk []⟩
 intro j1 Y K1;refine gg 1 rfl ?_;refine Rn.lF D4 [0,1] (G:=Int) (λg=>[(0,.slice A0 (x0).length c0),(1,.slice A1 (x1).length c1),(12,iv (x0.length:Int)),(13,iv g)]) (λg=>[_,_]) (λn g=>m_slices_Equal_uint64_uint64_L1 x0 x1 j1 n g) fuel 0 sA (D4.pk [0,1]) Y ?_;clear Y;rintro m8 y7 w8 D8 Y N8;replace Y:m_slices_Equal_uint64_uint64_L1 x0 x1 j1 (m8+1) y7=some r:=Y;rw [m_slices_Equal_uint64_uint64_L1] at Y;refine gg 5 rfl ?_;refine bD Y 9 1 (λh9 Y=>?_) (λh9 Y=>?_)
 ·refine Rn.drawP rfl D8 ?_;intro w10 D10;refine dq [0,1] ?_;obtain ⟨z11,e11,Y⟩:=bindE Y;obtain ⟨kk11,ke11,kz11,kl11⟩:=idxE e11;obtain ⟨b11,o11,vs11,hA11,hD11,hR11,hrel11⟩:=Hp.at D10 0 rfl kz11;obtain ⟨rfl,_⟩:=hrel11;have D13:=Hp.knowL [rdR b11 (o11+kk11*1) [u64v z11]] _ D10 (knC (λ_ h=>h) ⟨λ_=>hD11,hR11⟩ kn0);refine RH.tp 2 rfl (V.ixA' hA11 kk11 U32 O31 rfl rfl ke11 kl11) ?_;refine RH.tp 3 rfl (V.ldR0 V31 rfl (D13.get 2 rfl).2 rfl) ?_;refine dq [4,5] ?_;obtain ⟨z14,e14,Y⟩:=bindE Y;obtain ⟨kk14,ke14,kz14,kl14⟩:=idxE e14;obtain ⟨b14,o14,vs14,hA14,hD14,hR14,hrel14⟩:=Hp.at D13 1 rfl kz14;obtain ⟨rfl,_⟩:=hrel14;have D16:=Hp.knowL [rdR b14 (o14+kk14*1) [u64v z14]] _ D13 (knC (λ_ h=>h) ⟨λ_=>hD14,hR14⟩ kn0);refine RH.tp 6 rfl (V.ixA' hA14 kk14 U32 O31 rfl rfl ke14 kl14) ?_;refine RH.tp 7 rfl (V.ldR0 V31 rfl (D16.get 3 rfl).2 rfl) ?_;refine RH.tp 8 rfl (V.neq rfl rfl) ?_;refine RH.dn ?_;refine bD Y 4 6 (λh17 Y=>?_) (λh17 Y=>?_)
  ·cases Y
   exact Rn.R1 func212 ⟨rfl,D16.pk []⟩
  exact N8 (W64 (y7+1)) _ _ sA (D16.pk [0,1]) Y
 exact K1 () _ _ (sb trivial) (D8.pk []) Y
theorem m_hist_same_sim {x0:T_api_Side} {x1:T_api_Side} {r:Bool} (Y:m_hist_same x0 x1=some r) (h0:T_api_Side.rep.rel Z0 w cs0 x0) (h1:T_api_Side.rep.rel Z0 w cs1 x1) :
 Calls prog 179 #[.agg cs0.toArray,.agg cs1.toArray] w λx w'=>x=.returned (.bool (r))∧Hp Z0 No w w' []:=by
 have D0:=Hp.nil Z0 No w;have hc0:=Calm.nil;obtain ⟨Ar1,cr1,rfl,fs1⟩:=T_api_Side.relE h0;obtain ⟨D5,hc0⟩:=D0.kn hc0 fs1;obtain ⟨Ar3,cr3,rfl,fs3⟩:=T_api_Side.relE h1;obtain ⟨D6,hc0⟩:=D5.kn hc0 fs3;refine eg func179 2 ?_
 refine Rn.bx D6 λb7 w7 D9=>?_
 replace D9:=D9.nb
 refine Rn.bx D9 λb10 w10 D12=>?_
 replace D12:=D12.nb;refine gg 5 rfl (Rn.q rfl (V.ldB V3 rfl (D12.get 2 rfl) rfl) (gg 1 rfl (Rn.q rfl (V.ldB V3 rfl (D12.get 3 rfl) rfl) (gg 2 rfl ?_))));refine Rn.jQ D12 [0,1,2,3] Y (G:=Bool) [12] (λg=>[(16,.bool (g))]) (λg=>[_,_,_,_]) (λj g=>j g) ?_ ?_
 ·rintro y13 w14 D14 Y
  try dsimp only at Y
  refine gg 2 rfl ?_
  cases Y
  exact Rn.R1 func179 ⟨rfl,D14.pk []⟩
 intro j1 Y K1;refine askD Y (Rn.partD (t:=10) rfl) (λh15 Y=>?_) (λh15 Y=>?_)
 ·refine gg 1 rfl (Rn.q rfl (V.ldB V32 rfl (D12.get 2 rfl) rfl) (gg 1 rfl (Rn.q rfl (V.ldB V32 rfl (D12.get 3 rfl) rfl) ?_)));obtain ⟨p16,e16,Y⟩:=bindE Y
  refine Rn.c0 (cK func212) (m_slices_Equal_uint64_uint64_sim (Z0:=All) e16 (slR_all (D12.get 0 rfl)) (slR_all (D12.get 1 rfl)) :) D12 λw16 _ D17=>?_
  refine gg 1 rfl ?_;exact K1 p16 _ _ sA (D17.pk [0,1,2,3]) Y
 refine gg 6 rfl ?_;exact K1 false _ _ sA (D12.pk [0,1,2,3]) Y
theorem m_hist_Same_sim {x0:T_api_Hist} {x1:T_api_Hist} {r:Bool} (Y:m_hist_Same x0 x1=some r) (h0:T_api_Hist.rep.rel Z0 w cs0 x0) (h1:T_api_Hist.rep.rel Z0 w cs1 x1) :
 Calls prog 128 #[.agg cs0.toArray,.agg cs1.toArray] w λx w'=>x=.returned (.bool (r))∧Hp Z0 No w w' []:=by
 have D0:=Hp.nil Z0 No w;have hc0:=Calm.nil;obtain ⟨Ar1,cr1,Ar3,cr3,rfl,fs1,fs3⟩:=T_api_Hist.relE h0;obtain ⟨D9,hc0⟩:=D0.kn hc0 fs1;obtain ⟨D10,hc0⟩:=D9.kn hc0 fs3;obtain ⟨Ar5,cr5,Ar7,cr7,rfl,fs5,fs7⟩:=T_api_Hist.relE h1;obtain ⟨D11,hc0⟩:=D10.kn hc0 fs5;obtain ⟨D12,hc0⟩:=D11.kn hc0 fs7;refine eg func128 2 ?_
 refine Rn.bx D12 λb13 w13 D15=>?_
 replace D15:=D15.nb
 refine Rn.bx D15 λb16 w16 D18=>?_
 replace D18:=D18.nb;refine gg 5 rfl (Rn.q rfl (V.ldB V3 rfl (D18.get 4 rfl) rfl) (gg 1 rfl (Rn.q rfl (V.ldB V3 rfl (D18.get 5 rfl) rfl) (gg 2 rfl ?_))));refine Rn.cutR [12,13,14,15,16,17,18,19,20,21,22,23,24,25,26] [(2,pt b13 0),(3,pt b16 0),(16,.bool (decide ((x0.Scale=x1.Scale)∧(((x0.Zero).toNat:Int)=((x1.Zero).toNat:Int)))))] (λK19=>?_) ?_
 ·refine Rn.partD (t:=10) rfl (λh20=>?_) (λh20=>?_)
  ·refine gg 1 rfl (Rn.q rfl (V.ldB V31 rfl (D18.get 4 rfl) rfl) (gg 1 rfl (Rn.q rfl (V.ldB V31 rfl (D18.get 5 rfl) rfl) (Rn.q rfl (V.eql rfl rfl) (gg 1 rfl ?_)))));exact K19 _ sA
  refine gg 6 rfl ?_;exact K19 _ sA
 refine gg 1 rfl ?_;refine Rn.jQ D18 [0,1,2,3,4,5] Y (G:=Bool) [19,20,21,22,23,24,25,26] (λg=>[(2,pt b13 0),(3,pt b16 0),(23,.bool (g))]) (λg=>[_,_,_,_,_,_]) (λj g=>j g) ?_ ?_
 ·rintro y21 w22 D22 Y
  try dsimp only at Y
  refine gg 1 rfl ?_;refine Rn.jQ D22 [0,1,2,3,4,5] Y (G:=Bool) [26] (λg=>[(30,.bool (g))]) (λg=>[_,_,_,_,_,_]) (λj g=>j g) ?_ ?_
  ·rintro y23 w24 D24 Y
   try dsimp only at Y
   refine gg 2 rfl ?_
   cases Y
   exact Rn.R1 func128 ⟨rfl,D24.pk []⟩
  intro j2 Y K2;refine askS Y (Rn.part (t:=24) rfl) (λh25 Y=>?_) (λh25 Y=>?_)
  ·refine gg 1 rfl (Rn.q rfl (V.ldBA [_,_] V34 O34 rfl (D22.get 4 rfl) rfl rfl) (gg 1 rfl (Rn.q rfl (V.ldBA [_,_] V34 O34 rfl (D22.get 5 rfl) rfl rfl) ?_)));obtain ⟨p26,e26,Y⟩:=bindE Y
   refine Rn.c0 (cK func179) (m_hist_same_sim (Z0:=All) e26 (T_api_Side.relA (D22.get 1 rfl)) (T_api_Side.relA (D22.get 3 rfl)) :) D22 λw26 _ D27=>?_
   refine gg 1 rfl ?_;exact K2 p26 _ _ sA (D27.pk [0,1,2,3,4,5]) Y
  refine gg 6 rfl ?_;exact K2 false _ _ sA (D22.pk [0,1,2,3,4,5]) Y
 intro j1 Y K1;refine askD Y (Rn.partD (t:=17) rfl) (λh28 Y=>?_) (λh28 Y=>?_)
 ·refine gg 1 rfl (Rn.q rfl (V.ldBA [_,_] V34 O34 rfl (D18.get 4 rfl) rfl rfl) (gg 1 rfl (Rn.q rfl (V.ldBA [_,_] V34 O34 rfl (D18.get 5 rfl) rfl rfl) ?_)));obtain ⟨p29,e29,Y⟩:=bindE Y
  refine Rn.c0 (cK func179) (m_hist_same_sim (Z0:=All) e29 (T_api_Side.relA (D18.get 0 rfl)) (T_api_Side.relA (D18.get 2 rfl)) :) D18 λw29 _ D30=>?_
  refine gg 1 rfl ?_;exact K1 p29 _ _ sA (D30.pk [0,1,2,3,4,5]) Y
 refine gg 6 rfl ?_;exact K1 false _ _ sA (D18.pk [0,1,2,3,4,5]) Y
theorem m_convert_Converter_passes_sim {x0:T_convert_Converter} {x1:T_api_Point} {r:Bool} (Y:m_convert_Converter_passes x0 x1=some r) (h1:T_api_Point.rep.rel Z0 w cs1 x1) (f0:(fzR (T_convert_Converter.obj F0 b0 x0)).H Z0 w) :
 Calls prog 129 #[pt b0 0,.agg cs1.toArray] w λx w'=>x=.returned (.bool (r))∧Hp Z0 No w w' []:=by
 have D0:=Hp.nil Z0 No w;have hc0:=Calm.nil;obtain ⟨Ar2,cr2,Ar4,cr4,Ar6,cr6,rfl,fs2,fs4,fs6⟩:=T_api_Point.relE h1;obtain ⟨D8,hc0⟩:=D0.kn hc0 fs2;obtain ⟨D9,hc0⟩:=D8.kn hc0 fs4;obtain ⟨D10,hc0⟩:=D9.kn hc0 fs6;obtain ⟨D11,hc0⟩:=D10.kn hc0 f0;refine eg func129 2 ?_
 refine Rn.bx D11 λb12 w12 D14=>?_
 replace D14:=D14.nb;refine gg 3 rfl ?_;obtain ⟨_,⟨F16_0,b16_0,rfl⟩,D16⟩:=D14.unfz 3 rfl;replace D16:=D16.nq;refine Rn.drawP rfl D16 ?_;intro w15 D15;refine dq [0] ?_;refine RH.tp 1 rfl (V.ldB V3 rfl (D15.get 4 rfl) rfl) ?_;refine dq [2,3] ?_;refine askD Y (RH.partD (t:=8) rfl) (λh19 Y=>?_) (λh19 Y=>?_)
 ·refine dq [4,5,6,7,8,9,10,11,12,13,14,15,16,17,18,19,20,21] ?_;refine RH.dn ?_
  cases Y
  exact Rn.R1 func129 ⟨rfl,D15.pk []⟩
 refine dq [4,5,6,7] ?_;refine RH.tp 8 rfl (V.ldB V3 rfl (D15.getz 5 rfl) rfl) ?_;refine dq [9,10,11] ?_;refine askD Y (RH.partD (t:=16) rfl) (λh20 Y=>?_) (λh20 Y=>?_)
 ·refine dq [12,13,14,15,16,17,18,19,20,21] ?_;refine RH.dn ?_
  cases Y
  exact Rn.R1 func129 ⟨rfl,D15.pk []⟩
 refine dq [12] ?_;refine RH.tp 13 rfl (V.ldB V3 rfl (D15.get 4 rfl) rfl) ?_;refine dq [14,15,16,17] ?_;refine RH.tp 18 rfl (V.ldB V3 rfl (D15.getz 5 rfl) rfl) ?_;refine dq [19,20,21] ?_;refine RH.dn ?_
 cases Y
 exact Rn.R1 func129 ⟨rfl,D15.pk []⟩
theorem m_convert_Converter_load_sim {x0:T_convert_Converter} {x1:T_api_Point} {x2:(List UInt8)} {r:((List UInt8)×Int×T_convert_Converter)} (Y:m_convert_Converter_load x0 x1 x2=some r) (hL:Lent Z0 w [T_convert_Converter.obj F0 b0 x0,relR T_api_Point.rep cs1 x1]) :
 Calls prog 70 #[pt b0 0,.agg cs1.toArray,Str (x2)] w λx w'=>∃ F_p0,x=.returned (.tuple #[Str (r.1),iv r.2.1])∧Hp Z0 (LS [T_convert_Converter.obj F0 b0 x0,relR T_api_Point.rep cs1 x1]) w w' [T_convert_Converter.obj F_p0 b0 r.2.2]:=by
 have D0:=hL.start;have h1:=D0.get 1 rfl;obtain ⟨Ar2,cr2,Ar4,cr4,Ar6,cr6,rfl,fs2,fs4,fs6⟩:=T_api_Point.relE h1;have D9:=Hp.knowL [slR Ar2 cr2 T_api_Pair.rep x1.Attrs,slR Ar4 cr4 w64R x1.Hist.Pos.Counts,slR Ar6 cr6 w64R x1.Hist.Neg.Counts] _ D0 (knC (λ_ h=>h) fs2 (knC (λ_ h=>h) fs4 (knC (λ_ h=>h) fs6 kn0)));refine eg func70 2 ?_
 refine Rn.bx D9 λb10 w10 D12=>?_
 replace D12:=D12.nb;refine gg 5 rfl (Rn.q rfl (V.ldBA [_,_,_,_,_,_,_,_,_,_,_,_,_,_,_,_,_] V38 O38 rfl (D12.get 5 rfl) rfl rfl) ?_);obtain ⟨p13,e13,Y⟩:=bindE Y
 refine Rn.c0 (cK func13) (m_point_Key_sim (Z0:=All) e13 (T_api_Point.relA (D12.get 2 rfl) (D12.get 3 rfl) (D12.get 4 rfl)) :) D12 λw13 _ D14=>?_
 refine gg 9 rfl (Rn.q rfl (V.ldB V3 rfl (D14.get 5 rfl) rfl) (gg 2 rfl ?_));refine Rn.cutR [8,9,10,11,12,13,14,15,16,17,18,19,20] [(0,pt b0 0),(2,Str (x2)),(4,pt b10 0),(8,Str (p13.1)),(24,.bool (decide ((x1.Int_≠0)∨(((x1.Re).toNat:Int)≠0))))] (λK15=>?_) ?_
 ·refine Rn.partD (t:=20) rfl (λh16=>?_) (λh16=>?_)
  ·refine gg 4 rfl ?_;exact K15 _ sA
  refine gg 1 rfl (Rn.q rfl (V.ldB V31 rfl (D14.get 5 rfl) rfl) (Rn.q rfl (V.neq rfl rfl) (gg 1 rfl ?_)));exact K15 _ sA
 refine gg 1 rfl ?_;refine Rn.cutR [13,14,15,16,17,18,19,20] [(0,pt b0 0),(2,Str (x2)),(4,pt b10 0),(8,Str (p13.1)),(29,.bool (decide (((x1.Int_≠0)∨(((x1.Re).toNat:Int)≠0))∨(((x1.Im).toNat:Int)≠0))))] (λK17=>?_) ?_
 ·refine Rn.partD (t:=25) rfl (λh18=>?_) (λh18=>?_)
  ·refine gg 4 rfl ?_;exact K17 _ sA
  refine gg 1 rfl (Rn.q rfl (V.ldB V31 rfl (D14.get 5 rfl) rfl) (Rn.q rfl (V.neq rfl rfl) (gg 1 rfl ?_)));exact K17 _ sA
 refine gg 1 rfl ?_;refine Rn.jQ D14 [99,2,3,4,5] Y (G:=Bool×(Nat→Prop)) [20] (λg=>[(0,pt b0 0),(2,Str (x2)),(4,pt b10 0),(8,Str (p13.1)),(36,.bool ((g.1)))]) (λg=>[T_convert_Converter.obj (g.2) b0 x0,_,_,_,_]) (λj g=>j g.1) ?_ ?_
 ·rintro ⟨y20,F19⟩ w21 D21 Y
  try dsimp only at Y
  refine gg 7 rfl (Rn.q rfl (V.ldB V3 rfl (D21.get 4 rfl) rfl) (gg 2 rfl ?_));refine Rn.jQ D21 [99,1,2,3,4] Y (G:=Bool×(Nat→Prop)) [11] (λg=>[(0,pt b0 0),(2,Str (x2)),(4,pt b10 0),(8,Str (p13.1)),(48,.bool ((g.1)))]) (λg=>[T_convert_Converter.obj (g.2) b0 x0,_,_,_,_]) (λj g=>j g.1) ?_ ?_
  ·rintro ⟨y23,F22⟩ w24 D24 Y
   try dsimp only at Y
   refine gg 2 rfl ?_;refine bS Y 5 1 (λh25 Y=>?_) (λh25 Y=>?_)
   ·cases Y
    exact Rn.R2 func70 ⟨F22,rfl,D24.pk [0]⟩
   refine Rn.drawP rfl D24 ?_;intro w26 D26;refine dq [0,1,2] ?_;refine RH.tp 3 rfl (V.ldB V32 rfl (D26.get 4 rfl) rfl) ?_;refine RH.tp 4 rfl (V.lenV U32 rfl) ?_;refine dq [5,6,7] ?_;refine RH.tp 8 rfl (V.ldB V32 rfl (D26.get 4 rfl) rfl) ?_;refine RH.tp 9 rfl (V.lenV U32 rfl) ?_;refine RH.tp 10 rfl (V.maxi rfl rfl) ?_;refine dq [11,12,13,14] ?_;obtain ⟨_,⟨F27_0,b27_0,rfl⟩,D27⟩:=D26.unf 0 rfl;replace D27:=D27.nq;refine RH.tp 15 rfl (V.ldB V3 rfl (D27.get 4 rfl) rfl) ?_;refine dq [16,17] ?_;refine RH.dn ?_;refine bD Y 5 4 (λh29 Y=>?_) (λh29 Y=>?_)
   ·have D31:=D27.cu [0,1,2,3] [4,5];obtain ⟨F30,D30⟩:=D31.fold (T_convert_Converter.sh b0 x0) ⟨F27_0,b27_0,rfl⟩
    cases Y
    exact Rn.R2 func70 ⟨F30,rfl,D30.pk [4]⟩
   refine Rn.q rfl (V.leqS rfl rfl) (gg 2 rfl ?_);refine bS Y 5 3 (λh32 Y=>?_) (λh32 Y=>?_)
   ·have D34:=D27.cu [0,1,2,3] [4,5];obtain ⟨F33,D33⟩:=D34.fold (T_convert_Converter.sh b0 x0) ⟨F27_0,b27_0,rfl⟩
    cases Y
    exact Rn.R2 func70 ⟨F33,rfl,D33.pk [4]⟩
   have D36:=D27.cu [0,1,2,3] [4,5];obtain ⟨F35,D35⟩:=D36.fold (T_convert_Converter.sh b0 x0) ⟨F27_0,b27_0,rfl⟩;refine Rn.jF D35 [0,1,2,3,99,99] Y (G:=T_api_State×(Nat→Prop)×(Nat→Prop)×Nat) (λg=>[(0,pt b0 0),(4,pt b10 0),(8,Str (p13.1)),(11,pt (g.2.2.2) 0)]) (λg=>[_,_,_,_,T_convert_Converter.obj (g.2.1) b0 x0,T_api_State.obj (g.2.2.1) (g.2.2.2) (g.1)]) (λj g=>j g.1) ?_ ?_
   ·rintro ⟨y38,F37,F38,b38⟩ w40 D40 Y
    try dsimp only at Y
    refine gg 1 rfl ?_;obtain ⟨_,⟨A42_0,c42_0,A42_1,c42_1,rfl⟩,D42⟩:=D40.unf 5 rfl;replace D42:=D42.nq;refine Rn.drawK 9 rfl D42 (by kernel_rfl) ?_;intro w41 D41;refine dq [0,1,2] ?_;obtain ⟨_,⟨F45_0,b45_0,rfl⟩,D45⟩:=D41.unf 4 rfl;replace D45:=D45.nq;refine RH.tk 3 rfl (λw' hDr=>V.ldB V67 rfl ((D45.ext hDr).get 7 rfl) rfl) ?_;refine dq [4] ?_;refine RH.tk 5 rfl (λw' hDr=>V.ldBA [_,_,_,_,_,_,_,_,_,_,_,_] V70 O70 rfl ((D45.ext hDr).get 4 rfl) rfl rfl) ?_;refine RH.ho 6 rfl (V.ldBA [_,_,_,_,_,_,_,_,_,_,_,_,_,_,_,_,_] V38 O38 rfl (D45.get 3 rfl) rfl rfl) ?_;obtain ⟨p47,e47,Y⟩:=bindE Y;refine RH.cq (cK func33) 7 (m_convert_bare_sim (Z0:=All) e47 (T_api_Point.relA (D45.get 0 rfl) (D45.get 1 rfl) (D45.get 2 rfl)) :) ?_;rintro _ w47 ⟨A47_0_0,c47_0_0,A47_0_1,c47_0_1,A47_0_2,c47_0_2,rfl,Q47⟩;refine ⟨_,rfl,((Ext.refl _).trans Q47.fr),?_⟩;have D51:=D45.callF (flC (ownR_flat T_api_Pair.flat _ _ _ _) (flC (ownR_flat w64_flat _ _ _ _) (flC (ownR_flat w64_flat _ _ _ _) fl0))) Q47;refine RH.ho 8 rfl (V.bldF (cs:=[_,_,_,_,_,_,_,_,_,_,_,_,_,_,_,_,_,_,_,_,_,_,_,_,_,_,_,_,_]) st72 rfl rfl rfl rfl rfl) ?_;refine RG.tailK (by kernel_rfl) ?_;have D54:=D51.freeze 9 rfl;have D56:=D54.freeze 10 rfl;have D58:=D56.freeze 11 rfl;obtain ⟨p52,e52,Y⟩:=bindE Y;have D59:=D58.know (relR T_convert_kept.rep [.bool (y38.Some),iv y38.Start,iv y38.Time,iv y38.Int_,u64v y38.Re,u64v y38.Im,iv y38.Hist.Scale,u64v y38.Hist.Zero,iv y38.Hist.Pos.Offset,.slice A42_0 (y38.Hist.Pos.Counts).length c42_0,iv y38.Hist.Neg.Offset,.slice A42_1 (y38.Hist.Neg.Counts).length c42_1,Str (p47.Name),.slice A47_0_0 (p47.Attrs).length c47_0_0,iv p47.Kind,iv p47.Temp,.bool (p47.Mono),iv p47.Start,iv p47.Time,iv p47.Int_,u64v p47.Re,u64v p47.Im,iv p47.Hist.Scale,u64v p47.Hist.Zero,iv p47.Hist.Pos.Offset,.slice A47_0_1 (p47.Hist.Pos.Counts).length c47_0_1,iv p47.Hist.Neg.Offset,.slice A47_0_2 (p47.Hist.Neg.Counts).length c47_0_2,iv p47.Flags] (⟨y38,p47⟩:T_convert_kept)) (λ_ h=>h) (show T_convert_kept.rep.rel _ _ _ _ from (T_convert_kept.relI (D58.get 5 rfl) (D58.get 6 rfl) (D58.get 9 rfl) (D58.get 10 rfl) (D58.get 11 rfl)));have D61:=D59.cu [0,1,2,3,4,5,6,7,9,10,11] [8,12];refine RH.cq (cK func32) 9 (m_table_Table_convert_kept_Put_sim e52 D61.lend :) ?_;rintro _ w52 ⟨F52_p0,rfl,Q52⟩;refine ⟨_,rfl,trivial,?_⟩;have D63:=D61.callAZ Q52;refine RH.dn ?_;refine gg 6 rfl ?_;have D65:=D63.cu [0,1,2,3,4,5,6,8,9,10] [7,11];obtain ⟨F64,D64⟩:=D65.fold (T_convert_Converter.sh b0 (⟨x0.cfg,p52.2⟩:T_convert_Converter)) ⟨F52_p0,b45_0,rfl⟩
    cases Y
    exact Rn.R2 func70 ⟨F64,rfl,D64.pk [10]⟩
   intro j3 Y K3;refine Rn.drawK 15 rfl D35 (by kernel_rfl) ?_;intro w66 D66;refine dq [0] ?_;refine RH.tk 1 rfl (λw' hDr=>V.ldB V3 rfl ((D66.ext hDr).get 3 rfl) rfl) ?_;refine dq [2] ?_;refine RH.tk 3 rfl (λw' hDr=>V.ldB V3 rfl ((D66.ext hDr).get 3 rfl) rfl) ?_;refine dq [4] ?_;refine RH.tk 5 rfl (λw' hDr=>V.ldB V3 rfl ((D66.ext hDr).get 3 rfl) rfl) ?_;refine dq [6] ?_;refine RH.tk 7 rfl (λw' hDr=>V.ldB V31 rfl ((D66.ext hDr).get 3 rfl) rfl) ?_;refine dq [8] ?_;refine RH.tk 9 rfl (λw' hDr=>V.ldB V31 rfl ((D66.ext hDr).get 3 rfl) rfl) ?_;refine dq [10] ?_;refine RH.tk 11 rfl (λw' hDr=>V.ldBA [_,_,_,_,_,_] V36 O36 rfl ((D66.ext hDr).get 3 rfl) rfl rfl) ?_;obtain ⟨p67,e67,Y⟩:=bindE Y;refine RH.both 12 14 (by kernel_rfl) ?_ ?_
   ·have e76:=e67;refine RB.cl (cK func130) 12 rfl rfl rfl rfl (m_hist_Clone_sim (Z0:=All) e76 (T_api_Hist.relA (D66.get 1 rfl) (D66.get 2 rfl)) :) ?_;rintro _ w76 ⟨A76_0_0,c76_0_0,A76_0_1,c76_0_1,rfl,Q76⟩;refine ⟨_,rfl,((Ext.refl _).trans Q76.fr),?_⟩;have D79:=D66.callF (flC (ownR_flat w64_flat _ _ _ _) (flC (ownR_flat w64_flat _ _ _ _) fl0)) Q76;refine RH.tk 13 rfl (λw' hDr=>V.bldS (cs:=[_,_,_,_,_,_,_,_,_,_,_,_]) st70 rfl rfl) ?_;refine RH.alloc 14 (by kernel_rfl) rfl rfl rfl Tryz.zeroValue70 rfl ?_;intro b80 w80 hb80 m80 e80
    have hfr80:w66.heap.size≤b80:=by have hh:=(((Ext.refl _).trans Q76.fr):Ext w66 w76).size;omega
    have D82:=(D79.addBox hb80 e80 m80).nb;refine ⟨(((Ext.refl _).trans Q76.fr).trans e80),?_⟩;refine RG.tailK (by kernel_rfl) ?_
    refine RH.sn 15 D82 7 O70 λw83 D84=>?_
    refine ⟨trivial,?_⟩;refine RH.dn ?_;have D86:=D84.freeze 5 rfl;have D87:=D86.dup 5 rfl (λ_ h=>h);have D90:=D87.freeze 6 rfl;have D91:=D90.dup 6 rfl (λ_ h=>h);have D94:=D91.cu [0,1,2,3,4,5,6] [7,8,9];obtain ⟨F93,D93⟩:=D94.fold (T_api_State.sh b80 (⟨true,x1.Start,x1.Time,x1.Int_,x1.Re,x1.Im,p67⟩:T_api_State)) ⟨A76_0_0,c76_0_0,A76_0_1,c76_0_1,rfl⟩;exact K3 ((⟨true,x1.Start,x1.Time,x1.Int_,x1.Re,x1.Im,p67⟩:T_api_State),F35,F93,b80) _ _ sA (D93.pk [0,1,2,3,4,7]) Y
   refine RB.alloc 14 rfl rfl rfl Tryz.zeroValue70 rfl ?_;intro b95 w95 hb95 m95 e95
   have hfr95:w66.heap.size≤b95:=by have hh:=((Ext.refl _):Ext w66 w66).size;omega
   have D97:=(D66.addBox hb95 e95 m95).nb;refine ⟨((Ext.refl _).trans e95),?_⟩;have e98:=e67;refine RH.cq (cK func130) 12 (m_hist_Clone_sim (Z0:=All) e98 (T_api_Hist.relA (D97.get 1 rfl) (D97.get 2 rfl)) :) ?_;rintro _ w98 ⟨A98_0_0,c98_0_0,A98_0_1,c98_0_1,rfl,Q98⟩;refine ⟨_,rfl,(((Ext.refl _).trans e95).trans Q98.fr),?_⟩;have D101:=D97.callF (flC (ownR_flat w64_flat _ _ _ _) (flC (ownR_flat w64_flat _ _ _ _) fl0)) Q98;refine RH.ho 13 rfl (V.bldS (cs:=[_,_,_,_,_,_,_,_,_,_,_,_]) st70 rfl rfl) ?_;refine RG.tailK (by kernel_rfl) ?_
   refine RH.sn 15 D101 5 O70 λw102 D103=>?_
   refine ⟨trivial,?_⟩;refine RH.dn ?_;have D105:=D103.freeze 6 rfl;have D106:=D105.dup 6 rfl (λ_ h=>h);have D109:=D106.freeze 7 rfl;have D110:=D109.dup 7 rfl (λ_ h=>h);have D113:=D110.cu [0,1,2,3,4,6,7] [5,8,9];obtain ⟨F112,D112⟩:=D113.fold (T_api_State.sh b95 (⟨true,x1.Start,x1.Time,x1.Int_,x1.Re,x1.Im,p67⟩:T_api_State)) ⟨A98_0_0,c98_0_0,A98_0_1,c98_0_1,rfl⟩;exact K3 ((⟨true,x1.Start,x1.Time,x1.Int_,x1.Re,x1.Im,p67⟩:T_api_State),F35,F112,b95) _ _ sA (D112.pk [0,1,2,3,4,7]) Y
  intro j2 Y K2;refine askD Y (Rn.partD (t:=41) rfl) (λh114 Y=>?_) (λh114 Y=>?_)
  ·refine gg 7 rfl ?_;exact K2 (true,F19) _ _ sA (D21.pk [0,1,2,3,4]) Y
  refine gg 1 rfl (Rn.q rfl (V.ldBA [_,_,_,_,_,_,_,_,_,_,_,_,_,_,_,_,_] V38 O38 rfl (D21.get 4 rfl) rfl rfl) ?_);obtain ⟨p115,e115,Y⟩:=bindE Y
  refine Rn.c0 (cK func129) (m_convert_Converter_passes_sim (Z0:=All) e115 (T_api_Point.relA (D21.get 1 rfl) (D21.get 2 rfl) (D21.get 3 rfl)) (fz_all (D21.get 0 rfl)) :) D21 λw115 _ D116=>?_
  refine gg 1 rfl ?_;refine Rn.cutR [10,11] [(0,pt b0 0),(2,Str (x2)),(4,pt b10 0),(8,Str (p13.1)),(41,.bool false),(47,.bool (decide ((p115=true)∧(y20=true))))] (λK117=>?_) ?_
  ·refine Rn.part (t:=45) rfl (λh118=>?_) (λh118=>?_)
   ·refine gg 2 rfl ?_;exact K117 _ sA
   refine gg 2 rfl ?_;exact K117 _ sA
  refine gg 1 rfl ?_;exact K2 ((decide ((p115=true)∧(y20=true))),F19) _ _ sA (D116.pk [0,1,2,3,4]) Y
 intro j1 Y K1;refine askD Y (Rn.partD (t:=30) rfl) (λh119 Y=>?_) (λh119 Y=>?_)
 ·refine gg 6 rfl ?_;exact K1 (true,F0) _ _ sA (D14.pk [0,2,3,4,5]) Y
 refine gg 1 rfl (Rn.q rfl (V.ldBA [_,_,_,_,_,_] V36 O36 rfl (D14.get 5 rfl) rfl rfl) (Rn.q rfl (V.bldS (cs:=[_,_,_,_,_,_]) st36 rfl rfl) ?_));obtain ⟨p120,e120,Y⟩:=bindE Y
 refine Rn.c0 (cK func128) (m_hist_Same_sim (Z0:=All) e120 (T_api_Hist.relA (D14.get 3 rfl) (D14.get 4 rfl)) (T_api_Hist.relA (slR_nil All _) (slR_nil All _)) :) D14 λw120 _ D121=>?_
 refine Rn.q rfl (V.notB rfl) (gg 1 rfl ?_);exact K1 ((!p120),F0) _ _ sA (D121.pk [0,2,3,4,5]) Y
theorem m_convert_Load_sim {x0:T_api_Config} {x1:(List UInt8)} {r:((Option T_convert_Converter)×Int)} (Y:m_convert_Load x0 x1=some r) (f0:(slR A1 c1 byteR x1).H Z0 w) :
 Calls prog 23 #[.agg [iv x0.Out,iv x0.Series,iv x0.Buckets,iv x0.Points,iv x0.Bytes,iv x0.Disk,iv x0.Window].toArray,.slice A1 (x1).length c1] w λx w'=>∃ F_0 b_0,x=.returned (.tuple #[.pointer (optP b_0 r.1),iv r.2])∧Hp Z0 No w w' [optR r.1 (λz=>T_convert_Converter.obj F_0 b_0 z)]:=by
 obtain ⟨D0,D2,hc0⟩:=knA f0;refine eg func23 2 ?_
 refine Rn.bx D2 λb3 w3 D5=>?_
 replace D5:=D5.nb;refine gg 5 rfl (Rn.q rfl (V.ldBA [_,_,_,_,_,_,_] V23 O23 rfl (D5.get 1 rfl) rfl rfl) ?_);obtain ⟨p6,e6,Y⟩:=bindE Y
 refine Rn.c2 (cK func10) (m_convert_New_sim (Z0:=D5.Z) e6  :) λF6_0 b6_0 w6 Q6=>?_
 have D8:=D5.callZ Q6;refine gg 6 rfl (Rn.q rfl (V.eqlO U27 rfl rfl) (gg 1 rfl ?_));refine bS Y 5 4 (λh9 Y=>?_) (λh9 Y=>?_)
 ·have D11:=D8.addNone (λz=>T_convert_Converter.obj No 0 z)
  cases Y
  exact Rn.R2 func23 ⟨No,0,rfl,D11.pk [3]⟩
 obtain ⟨p12,e12,Y⟩:=bindE Y
 refine Rn.c2 (cK func65) (m_pack_NewReader_sim (Z0:=D8.Z) e12 (D8.get 0 rfl) :) λF12_0 b12_0 w12 Q12=>?_
 have D14:=D8.callZ Q12;refine gg 11 rfl (Rn.q rfl (V.ldB V3 rfl (D14.get 1 rfl) rfl) ?_);obtain ⟨p15,e15,Y⟩:=bindE Y;have D16:=D14.cu [0,1,2] [3]
 refine Rn.a1 (cK func66) (m_pack_Reader_Count_sim e15 D16.lend :) D16 λF15_p0 w15 D18=>?_
 refine gg 2 rfl ?_;refine Rn.jF D18 [1,99,99] Y (G:=T_pack_Reader×(Option T_convert_Converter)×(Nat→Prop)×(Nat→Prop)) (λg=>[(6,.pointer (optP b6_0 (g.2.1))),(7,pt b12_0 0)]) (λg=>[_,T_pack_Reader.obj (g.2.2.1) b12_0 (g.1),optR (g.2.1) (λz=>T_convert_Converter.obj (g.2.2.2) b6_0 z)]) (λj g=>j g.1 g.2.1) ?_ ?_
 ·rintro ⟨y19,y20,F19,F20⟩ w21 D21 Y
  try dsimp only at Y
  refine gg 4 rfl ?_;obtain ⟨p22,e22,Y⟩:=bindE Y
  refine Rn.c0 (cK func71) (m_pack_Reader_Done_sim (Z0:=All) e22 (fz_all (D21.get 1 rfl)) :) D21 λw22 _ D23=>?_
  refine gg 7 rfl ?_;refine bD Y 6 7 (λh24 Y=>?_) (λh24 Y=>?_)
  ·have D26:=D23.addNone (λz=>T_convert_Converter.obj No 0 z)
   cases Y
   exact Rn.R2 func23 ⟨No,0,rfl,D26.pk [3]⟩
  cases Y
  exact Rn.R2 func23 ⟨F20,b6_0,rfl,D23.pk [2]⟩
 intro j1 Y K1;refine gg 1 rfl ?_;refine Rn.lF D18 [1,99,99] (G:=(List UInt8)×Int×T_pack_Reader×(Option T_convert_Converter)×(Nat→Prop)×(Nat→Prop)) (λg=>[(6,.pointer (optP b6_0 (g.2.2.2.1))),(7,pt b12_0 0),(8,Str ((g.1))),(23,iv p15.1),(24,iv (g.2.1))]) (λg=>[_,T_pack_Reader.obj (g.2.2.2.2.1) b12_0 (g.2.2.1),optR (g.2.2.2.1) (λz=>T_convert_Converter.obj (g.2.2.2.2.2) b6_0 z)]) (λn g=>m_convert_Load_L1 p15 j1 n g.1 g.2.1 g.2.2.1 g.2.2.2.1) fuel (([]:List UInt8),0,p15.2,p6,F15_p0,F6_0) sA (D18.pk [1,3,2]) Y ?_;clear Y;rintro m31 ⟨y27,y28,y29,y30,F29,F30⟩ w31 D31 Y N31;replace Y:m_convert_Load_L1 p15 j1 (m31+1) y27 y28 y29 y30=some r:=Y;rw [m_convert_Load_L1] at Y;refine gg 5 rfl ?_;refine bD Y 6 1 (λh32 Y=>?_) (λh32 Y=>?_)
 ·obtain ⟨p33,e33,Y⟩:=bindE Y;have D34:=D31.cu [0,2] [1]
  refine Rn.a1 (cK func67) (m_pack_Reader_Text_sim e33 D34.lend :) D34 λF33_p0 w33 D36=>?_
  refine gg 6 rfl ?_;obtain ⟨p37,e37,Y⟩:=bindE Y
  refine Rn.c0 (cK func68) (m_pack_Reader_Err_sim (Z0:=All) e37 (fz_all (D36.get 2 rfl)) :) D36 λw37 _ D38=>?_
  refine gg 7 rfl ?_;refine bD Y 6 4 (λh39 Y=>?_) (λh39 Y=>?_)
  ·have D41:=D38.addNone (λz=>T_convert_Converter.obj No 0 z)
   cases Y
   exact Rn.R2 func23 ⟨No,0,rfl,D41.pk [3]⟩
  obtain ⟨z42,e42,Y⟩:=bindE Y;refine Rn.s2bH D38 e42 rfl rfl rfl U9 U51 U5 rfl ?_;intro A42 c42 w42 D42;obtain ⟨p44,e44,Y⟩:=bindE Y;refine Rn.cq (cK func69) (m_point_Read_sim (Z0:=D42.Z) e44 (D42.get 3 rfl) :) ?_;rintro _ w44 ⟨A44_0_0,c44_0_0,A44_0_1,c44_0_1,A44_0_2,c44_0_2,rfl,Q44⟩;refine ⟨_,rfl,?_⟩;have D48:=D42.callZ Q44;refine gg 3 rfl (Rn.als rfl rfl rfl Tryz.zeroValue38 rfl O38 rfl rfl rfl rfl (by first|exact ones rfl|(simp [Value.oneCell'];done)) ?_);intro b49 w49 hb49 m49 e49;have D51:=(D48.addBox hb49 e49 m49).nb;refine gg 8 rfl ?_;refine Rn.jF D51 [0,99,4,5,6,7,99] Y (G:=(List UInt8)×Int×(Option T_convert_Converter)×(Nat→Prop)×(Nat→Prop)) (λg=>[(6,.pointer (optP b6_0 (g.2.2.1))),(7,pt b12_0 0),(8,Str ((g.1))),(12,iv (g.2.1)),(23,iv p15.1),(24,iv y28)]) (λg=>[_,T_pack_Reader.obj (g.2.2.2.1) b12_0 p33.2,_,_,_,_,optR (g.2.2.1) (λz=>T_convert_Converter.obj (g.2.2.2.2) b6_0 z)]) (λj g=>j g.1 g.2.1 g.2.2.1) ?_ ?_
  ·rintro ⟨y53,y54,y55,F52,F55⟩ w56 D56 Y
   try dsimp only at Y
   refine gg 5 rfl ?_;refine bD Y 6 6 (λh57 Y=>?_) (λh57 Y=>?_)
   ·have D59:=D56.addNone (λz=>T_convert_Converter.obj No 0 z)
    cases Y
    exact Rn.R2 func23 ⟨No,0,rfl,D59.pk [7]⟩
   exact N31 (y53,(W64 (y28+1)),p33.2,y55,F52,F55) _ _ sA (D56.pk [0,1,6]) Y
  intro j2 Y K2;refine bD Y 2 1 (λh60 Y=>?_) (λh60 Y=>?_)
  ·refine Rn.q rfl (V.ldBA [_,_,_,_,_,_,_,_,_,_,_,_,_,_,_,_,_] V38 O38 rfl (D51.get 7 rfl) rfl rfl) (gg 1 rfl ?_);obtain ⟨z62,e62,Y⟩:=bindE Y;have D63:=D51.optSome 1 rfl e62;refine Rn.say (t:=42) (pt b6_0 0) rfl (by rw [e62];rfl) ?_;obtain ⟨p61,e61,Y⟩:=bindE Y;have D64:=D63.know (relR T_api_Point.rep [Str (p44.1.Name),.slice A44_0_0 (p44.1.Attrs).length c44_0_0,iv p44.1.Kind,iv p44.1.Temp,.bool (p44.1.Mono),iv p44.1.Start,iv p44.1.Time,iv p44.1.Int_,u64v p44.1.Re,u64v p44.1.Im,iv p44.1.Hist.Scale,u64v p44.1.Hist.Zero,iv p44.1.Hist.Pos.Offset,.slice A44_0_1 (p44.1.Hist.Pos.Counts).length c44_0_1,iv p44.1.Hist.Neg.Offset,.slice A44_0_2 (p44.1.Hist.Neg.Counts).length c44_0_2,iv p44.1.Flags] p44.1) (λ_ h=>h) (show T_api_Point.rep.rel _ _ _ _ from (T_api_Point.relI (D63.get 4 rfl) (D63.get 5 rfl) (D63.get 6 rfl)));have D66:=D64.cu [0,2,3,4,5,6,7] [1,8]
   refine Rn.a1 (cK func70) (m_convert_Converter_load_sim e61 D66.lend :) D66 λF61_p0 w61 D68=>?_
   refine gg 6 rfl ?_;refine Rn.say (t:=6) (pt b6_0 0) rfl (by rw [e62];rfl) ?_;have D69:=D68.toSome (R:=(λz=>T_convert_Converter.obj F61_p0 b6_0 z)) 7 rfl;exact K2 (p61.1,p61.2.1,(some p61.2.2),F33_p0,F61_p0) _ _ sA (D69.pk [0,1,3,4,5,6,7]) Y
  exact K2 (y27,p44.2,y30,F33_p0,F30) _ _ sA (D51.pk [0,2,4,5,6,7,1]) Y
 exact K1 (y29,y30,F29,F30) _ _ sA (D31.pk [0,1,2]) Y
theorem m_table_Table_convert_kept_Clone_sim {x0:T_table_Table_convert_kept_} {r:T_table_Table_convert_kept_} (Y:m_table_Table_convert_kept_Clone x0=some r) (hL:Lent Z0 w [T_table_Table_convert_kept_.obj F0 b0 x0]) :
 Calls prog 74 #[pt b0 0] w λx w'=>∃ F_0 b_0 F_p0,x=.returned (pt b_0 0)∧Hp Z0 (LS [T_table_Table_convert_kept_.obj F0 b0 x0]) w w' [T_table_Table_convert_kept_.obj F_0 b_0 r,T_table_Table_convert_kept_.obj F_p0 b0 x0]:=by
 have D0:=hL.start;refine eg func74 5 ?_;refine Rn.drawH rfl D0 ?_;intro w2 D2;refine dq [0,1,2] ?_;obtain ⟨_,⟨m3_0,rfl⟩,D3⟩:=D2.unf 0 rfl;replace D3:=D3.nq;refine RH.tk 3 rfl (λw' hDr=>V.ldB V3 rfl ((D3.ext hDr).get 0 rfl) rfl) ?_;refine dq [4,5,6] ?_;refine RH.tk 7 rfl (λw' hDr=>V.ldB V3 rfl ((D3.ext hDr).get 0 rfl) rfl) ?_;refine dq [8,9,10] ?_;refine RH.ho 11 rfl (V.ldB V130 rfl (D3.get 0 rfl) rfl) ?_;refine RH.cq (cK func137) 12 (mclone_137 (Z0:=Zo Z0 (LS [T_table_Table_convert_kept_.obj F0 b0 x0]) w [boxR b0 132 [iv x0.most,iv x0.clock,.map (some m3_0)],mapR m3_0 vA T_table_slot_convert_kept_.rep x0.m]) _ _ _ (D3.get 1 rfl)) ?_;rintro _ w5 ⟨b5_0,rfl,Q5⟩;refine ⟨_,rfl,((Ext.refl _).trans Q5.fr),?_⟩;have D7:=D3.callZ Q5;refine RH.ho 13 rfl (V.bldS (cs:=[_,_,_]) st132 rfl rfl) ?_;refine RH.box 14 (by kernel_rfl) rfl rfl rfl rfl rfl ?_;intro b8 w8 hb8 m8 e8
 have hfr8:w2.heap.size≤b8:=by have hh:=(((Ext.refl _).trans Q5.fr):Ext w2 w5).size;omega
 have D10:=(D7.addBox hb8 e8 m8).nb;refine ⟨(((Ext.refl _).trans Q5.fr).trans e8),?_⟩;refine dq [15] ?_;refine RH.dn ?_;have D12:=D10.cu [0,1] [3,2];obtain ⟨F11,D11⟩:=D12.fold (T_table_Table_convert_kept_.sh b8 x0) ⟨b5_0,rfl⟩;have D14:=D11.cu [2] [0,1];obtain ⟨F13,D13⟩:=D14.fold (T_table_Table_convert_kept_.sh b0 x0) ⟨m3_0,rfl⟩
 cases Y
 exact Rn.R1 func74 ⟨F11,b8,F13,rfl,D13.pk [0,1]⟩
theorem m_convert_Converter_Clone_sim {x0:T_convert_Converter} {r:T_convert_Converter} (Y:m_convert_Converter_Clone x0=some r) (hL:Lent Z0 w [T_convert_Converter.obj F0 b0 x0]) :
 Calls prog 25 #[pt b0 0] w λx w'=>∃ F_0 b_0 F_p0,x=.returned (pt b_0 0)∧Hp Z0 (LS [T_convert_Converter.obj F0 b0 x0]) w w' [T_convert_Converter.obj F_0 b_0 r,T_convert_Converter.obj F_p0 b0 x0]:=by
 have D0:=hL.start;refine eg func25 5 ?_;obtain ⟨_,⟨F3_0,b3_0,rfl⟩,D3⟩:=D0.unf 0 rfl;replace D3:=D3.nq;have D5:=(D3.cutF [0] [1] [] rfl (by decide) trivial).nf ([_]++[_]) rfl;refine Rn.drawF rfl D5 ?_;intro w6 hmo6 D6;refine dq [0,1,2] ?_;refine RH.tk 3 rfl (λw' hDr=>V.ldBA [_,_,_,_,_,_,_] V23 O23 rfl ((hmo6.awayK hDr).get 0 rfl) rfl rfl) ?_;refine dq [4,5,6] ?_;refine RH.ho 7 rfl (V.ldB V67 rfl ((hmo6.awayK D6.fr).get 0 rfl) rfl) ?_;obtain ⟨p7,e7,Y⟩:=bindE Y;have D8:=D6.cu [] [0];refine RH.cq (cK func74) 8 (m_table_Table_convert_kept_Clone_sim e7 D8.lend :) ?_;rintro _ w7 ⟨F7_0,b7_0,F7_p0,rfl,Q7⟩;have D11:=D8.callAZ Q7;refine ⟨_,rfl,D11.fr,?_⟩;refine RH.ho 9 rfl (V.bldS (cs:=[_,_,_,_,_,_,_,_]) st74 rfl rfl) ?_;refine RH.box 10 (by kernel_rfl) rfl rfl rfl rfl rfl ?_;intro b12 w12 hb12 m12 e12;have D14:=(D11.addBox hb12 e12 m12).nb;refine ⟨D14.fr,?_⟩;refine dq [11] ?_;refine RH.dn ?_;have D15:=hmo6.callAZ D14;have D16:=(D15.pk [0,1,2,3]).nq;have D18:=D16.cu [0,2] [3,1];obtain ⟨F17,D17⟩:=D18.fold (T_convert_Converter.sh b12 (⟨x0.cfg,p7⟩:T_convert_Converter)) ⟨F7_0,b7_0,rfl⟩;have D20:=D17.cu [2] [0,1];obtain ⟨F19,D19⟩:=D20.fold (T_convert_Converter.sh b0 x0) ⟨F7_p0,b3_0,rfl⟩
 cases Y
 exact Rn.R1 func25 ⟨F17,b12,F19,rfl,D19.pk [0,1]⟩
theorem m_limnographref11_Sorted_sim {x0:(List T_api_Pair)} {r:(List T_api_Pair)} (Y:m_limnographref11_Sorted x0=some r) (f0:(slR A0 c0 T_api_Pair.rep x0).H Z0 w) :
 Calls prog 22 #[.slice A0 (x0).length c0] w λx w'=>∃ A_0_0 c_0_0,x=.returned (.slice A_0_0 (r).length c_0_0)∧Hp Z0 No w w' [ownR 116 A_0_0 c_0_0 T_api_Pair.rep r]:=by
 obtain ⟨D0,D2,hc0⟩:=knA f0;refine eg func22 13 ?_;refine Rn.jG D0 Y (G:=(List T_api_Pair)×Option Addr×Nat) (λg=>[(3,.slice (g.2.1) ((g.1)).length (g.2.2))]) (λg=>[ownR 116 (g.2.1) (g.2.2) T_api_Pair.rep (g.1)]) (λj g=>j g.1) ?_ ?_
 ·rintro ⟨y3,A4,c4⟩ w6 D6 Y
  try dsimp only at Y
  refine gg 5 rfl ?_
  cases Y
  exact Rn.R1 func22 ⟨A4,c4,rfl,D6.pk [0]⟩
 intro j1 Y K1;refine gg 1 rfl ?_;have D11:=D2.addNil 116 T_api_Pair.rep;refine Rn.lF D11 [0,99] (G:=(List T_api_Pair)×Int×Option Addr×Nat) (λg=>[(0,.slice A0 (x0).length c0),(3,.slice (g.2.2.1) ((g.1)).length (g.2.2.2)),(4,iv (g.2.1))]) (λg=>[_,ownR 116 (g.2.2.1) (g.2.2.2) T_api_Pair.rep (g.1)]) (λn g=>m_limnographref11_Sorted_L1 x0 j1 n g.1 g.2.1) fuel (([]:List T_api_Pair),0,none,0) sA (D11.pk [0,1]) Y ?_;clear Y;rintro m13 ⟨y7,y10,A8,c8⟩ w13 D13 Y N13;replace Y:m_limnographref11_Sorted_L1 x0 j1 (m13+1) y7 y10=some r:=Y;rw [m_limnographref11_Sorted_L1] at Y;refine gg 5 rfl (Rn.q rfl (V.lenV U30 rfl) (gg 2 rfl ?_));refine bD Y 6 1 (λh14 Y=>?_) (λh14 Y=>?_)
 ·refine Rn.q rfl (V.lenV U30 rfl) (gg 3 rfl ?_);refine Rn.jF D13 [0,1] Y (G:=Int) (λg=>[(0,.slice A0 (x0).length c0),(3,.slice A8 (y7).length c8),(4,iv y10),(5,iv g)]) (λg=>[_,_]) (λj g=>j g) ?_ ?_
  ·rintro y15 w16 D16 Y
   try dsimp only at Y
   refine gg 9 rfl ?_;have D19:=D16.freeze 1 rfl;obtain ⟨z17,e17,Y⟩:=bindE Y;refine Rn.cutH D19 1 rfl e17 rfl rfl rfl U30 O116 rfl rfl rfl rfl rfl ?_;intro A17 c17 D17;have D22:=D17.addNil 116 T_api_Pair.rep;obtain ⟨z21,e21,Y⟩:=bindE Y;refine Rn.appH D22 3 rfl e21 rfl rfl rfl U30 el116 rfl rfl rfl rfl (D22.src 2 rfl) ?_;intro A21 c21 w21 D21;refine gg 7 rfl ?_;obtain ⟨z25,e25,Y⟩:=bindE Y;refine Rn.ixH D21 0 rfl e25 rfl rfl rfl U30 O116 rfl rfl rfl rfl ?_;rintro b25 o25 vs25 hr25 D25;obtain rfl:=T_api_Pair.relE hr25;refine Rn.q rfl (V.ldA (vs:=[_,_]) V116 O116 rfl (Rd.pre (D25.get 4 rfl).2 2) rfl) ?_;obtain ⟨z27,e27,Y⟩:=bindE Y;refine Rn.pushH (z:=z25) (vs:=[Str (z25.Key),Str (z25.Val)]) D25 3 rfl e27 rfl rfl rfl rfl U30 el116 rfl rfl rfl rfl (λ_=>rfl) ((T_api_Pair.relI)) ?_;intro A27 c27 w27 u27 D27;refine gg 6 rfl ?_;obtain ⟨z29,e29,Y⟩:=bindE Y;refine Rn.cutH D27 1 rfl e29 rfl rfl rfl U30 O116 rfl rfl rfl rfl rfl ?_;intro A29 c29 D29;obtain ⟨z31,e31,Y⟩:=bindE Y;refine Rn.appH D29 3 rfl e31 rfl rfl rfl U30 el116 rfl rfl rfl rfl (D29.src 5 rfl) ?_;intro A31 c31 w31 D31;refine gg 8 rfl ?_;exact N13 (z31,(W64 (y10+1)),A31,c31) _ _ sA (D31.pk [0,3]) Y
  intro j2 Y K2;refine gg 1 rfl ?_;refine Rn.lF D13 [0,1] (G:=Int) (λg=>[(0,.slice A0 (x0).length c0),(3,.slice A8 (y7).length c8),(4,iv y10),(5,iv g)]) (λg=>[_,_]) (λn g=>m_limnographref11_Sorted_L2 x0 y7 y10 j2 n g) fuel (y7.length:Int) sA (D13.pk [0,1]) Y ?_;clear Y;rintro m34 y33 w34 D34 Y N34;replace Y:m_limnographref11_Sorted_L2 x0 y7 y10 j2 (m34+1) y33=some r:=Y;rw [m_limnographref11_Sorted_L2] at Y;refine gg 2 rfl ?_;refine Rn.jF D34 [0,1] Y (G:=Bool) (λg=>[(0,.slice A0 (x0).length c0),(3,.slice A8 (y7).length c8),(4,iv y10),(5,iv y33),(30,.bool (g))]) (λg=>[_,_]) (λj g=>j g) ?_ ?_
  ·rintro y35 w36 D36 Y
   try dsimp only at Y
   refine bS Y 8 1 (λh37 Y=>?_) (λh37 Y=>?_)
   ·exact N34 (W64 (y33-1)) _ _ sA (D36.pk [0,1]) Y
   exact K2 y33 _ _ sA (D36.pk [0,1]) Y
  intro j3 Y K3;refine Rn.drawP rfl D34 ?_;intro w38 D38;refine dq [0,1,2] ?_;refine askD Y (RH.partD (t:=17) rfl) (λh39 Y=>?_) (λh39 Y=>?_)
  ·refine dq [3,4,5] ?_;obtain ⟨z40,e40,Y⟩:=bindE Y;obtain ⟨kk40,ke40,kz40,kl40⟩:=idxE e40;obtain ⟨g40,vs40,hA40,hR40,hrel40⟩:=D38.ownAt 1 rfl kz40;subst hA40;obtain rfl:=T_api_Pair.relE hrel40;refine RH.tp 6 rfl (V.ixE kk40 U30 O116 rfl rfl ke40 kl40) ?_;refine dq [7] ?_;refine RH.tp 8 rfl (V.ldR0 V9 rfl hR40 rfl) ?_;refine dq [9,10] ?_;obtain ⟨z41,e41,Y⟩:=bindE Y;obtain ⟨kk41,ke41,kz41,kl41⟩:=idxE e41;obtain ⟨b41,o41,vs41,hA41,hD41,hR41,hrel41⟩:=Hp.at D38 0 rfl kz41;obtain rfl:=T_api_Pair.relE hrel41;have D43:=Hp.knowL [rdR b41 (o41+kk41*2) [Str (z41.Key),Str (z41.Val)]] _ D38 (knC (λ_ h=>h) ⟨λ_=>hD41,hR41⟩ kn0);refine RH.tp 11 rfl (V.ixA' hA41 kk41 U30 O116 rfl rfl ke41 kl41) ?_;refine dq [12] ?_;refine RH.tp 13 rfl (V.ldR0 V9 rfl (D43.get 2 rfl).2 rfl) ?_;refine RH.tp 14 rfl (V.gtrS rfl rfl) ?_;refine dq [15] ?_;refine RH.dn ?_;exact K3 (Op.bytesLess z41.Key z40.Key) _ _ sA (D43.pk [0,1]) Y
  refine dq [3,4,5,6,7,8,9,10,11,12,13,14,15] ?_;refine RH.dn ?_;exact K3 false _ _ sA (D38.pk [0,1]) Y
 exact K1 (y7,A8,c8) _ _ sA (D13.pk [1]) Y
theorem m_limnographref11_Same_sim {x0:(List T_api_Pair)} {x1:(List T_api_Pair)} {r:Bool} (Y:m_limnographref11_Same x0 x1=some r) (f0:(slR A0 c0 T_api_Pair.rep x0).H Z0 w) (f1:(slR A1 c1 T_api_Pair.rep x1).H Z0 w) :
 Calls prog 21 #[.slice A0 (x0).length c0,.slice A1 (x1).length c1] w λx w'=>x=.returned (.bool (r))∧Hp Z0 No w w' []:=by
 obtain ⟨D0,D3,hc0⟩:=knA f0;obtain ⟨D4,hc0⟩:=D3.kn hc0 f1;refine eg func21 8 ?_;refine Rn.q rfl (V.lenV U30 rfl) (gg 1 rfl (Rn.q rfl (V.lenV U30 rfl) (gg 2 rfl ?_)));refine bD Y 4 6 (λh5 Y=>?_) (λh5 Y=>?_)
 ·cases Y
  exact Rn.R1 func21 ⟨rfl,D4.pk []⟩
 refine Rn.jG D0 Y (G:=Unit) (λg=>[]) (λg=>[]) (λj g=>j ()) ?_ ?_
 ·rintro _ w6 D6 Y
  try dsimp only at Y
  refine gg 4 rfl ?_
  cases Y
  exact Rn.R1 func21 ⟨rfl,D6.pk []⟩
 intro j1 Y K1;refine gg 1 rfl ?_;refine Rn.lF D4 [0,1] (G:=Int) (λg=>[(0,.slice A0 (x0).length c0),(1,.slice A1 (x1).length c1),(5,iv g)]) (λg=>[_,_]) (λn g=>m_limnographref11_Same_L1 x0 x1 j1 n g) fuel 0 sA (D4.pk [0,1]) Y ?_;clear Y;rintro m8 y7 w8 D8 Y N8;replace Y:m_limnographref11_Same_L1 x0 x1 j1 (m8+1) y7=some r:=Y;rw [m_limnographref11_Same_L1] at Y;refine gg 5 rfl (Rn.q rfl (V.lenV U30 rfl) (gg 2 rfl ?_));refine bD Y 4 1 (λh9 Y=>?_) (λh9 Y=>?_)
 ·refine Rn.drawP rfl D8 ?_;intro w10 D10;refine dq [0,1] ?_;obtain ⟨z11,e11,Y⟩:=bindE Y;obtain ⟨kk11,ke11,kz11,kl11⟩:=idxE e11;obtain ⟨b11,o11,vs11,hA11,hD11,hR11,hrel11⟩:=Hp.at D10 0 rfl kz11;obtain rfl:=T_api_Pair.relE hrel11;have D13:=Hp.knowL [rdR b11 (o11+kk11*2) [Str (z11.Key),Str (z11.Val)]] _ D10 (knC (λ_ h=>h) ⟨λ_=>hD11,hR11⟩ kn0);refine RH.tp 2 rfl (V.ixA' hA11 kk11 U30 O116 rfl rfl ke11 kl11) ?_;refine RH.tp 3 rfl (V.ldA (vs:=[_,_]) V116 O116 rfl (Rd.pre (D13.get 2 rfl).2 2) rfl) ?_;refine dq [4,5] ?_;obtain ⟨z14,e14,Y⟩:=bindE Y;obtain ⟨kk14,ke14,kz14,kl14⟩:=idxE e14;obtain ⟨b14,o14,vs14,hA14,hD14,hR14,hrel14⟩:=Hp.at D13 1 rfl kz14;obtain rfl:=T_api_Pair.relE hrel14;have D16:=Hp.knowL [rdR b14 (o14+kk14*2) [Str (z14.Key),Str (z14.Val)]] _ D13 (knC (λ_ h=>h) ⟨λ_=>hD14,hR14⟩ kn0);refine RH.tp 6 rfl (V.ixA' hA14 kk14 U30 O116 rfl rfl ke14 kl14) ?_;refine RH.tp 7 rfl (V.ldA (vs:=[_,_]) V116 O116 rfl (Rd.pre (D16.get 3 rfl).2 2) rfl) ?_;refine RH.tp 8 rfl (V.neqT Tryz.eqGuardType116 rfl rfl (eq116 _ _)) ?_;refine RH.dn ?_;refine bD Y 4 7 (λh17 Y=>?_) (λh17 Y=>?_)
  ·cases Y
   exact Rn.R1 func21 ⟨rfl,D16.pk []⟩
  exact N8 (W64 (y7+1)) _ _ sA (D16.pk [0,1]) Y
 exact K1 () _ _ (sb trivial) (D8.pk []) Y
theorem m_limnographref08_SameSide_sim {x0:T_api_Side} {x1:T_api_Side} {r:Bool} (Y:m_limnographref08_SameSide x0 x1=some r) (h0:T_api_Side.rep.rel Z0 w cs0 x0) (h1:T_api_Side.rep.rel Z0 w cs1 x1) :
 Calls prog 86 #[.agg cs0.toArray,.agg cs1.toArray] w λx w'=>x=.returned (.bool (r))∧Hp Z0 No w w' []:=by
 have D0:=Hp.nil Z0 No w;have hc0:=Calm.nil;obtain ⟨Ar1,cr1,rfl,fs1⟩:=T_api_Side.relE h0;obtain ⟨D5,hc0⟩:=D0.kn hc0 fs1;obtain ⟨Ar3,cr3,rfl,fs3⟩:=T_api_Side.relE h1;obtain ⟨D6,hc0⟩:=D5.kn hc0 fs3;refine eg func86 2 ?_
 refine Rn.bx D6 λb7 w7 D9=>?_
 replace D9:=D9.nb
 refine Rn.bx D9 λb10 w10 D12=>?_
 replace D12:=D12.nb;refine gg 6 rfl (Rn.q rfl (V.ldB V3 rfl (D12.get 2 rfl) rfl) (gg 1 rfl (Rn.q rfl (V.ldB V3 rfl (D12.get 3 rfl) rfl) (gg 2 rfl ?_))));refine Rn.cutR [] [(2,pt b7 0),(3,pt b10 0),(19,.bool (decide ((x0.Offset≠x1.Offset)∨((x0.Counts.length:Int)≠(x1.Counts.length:Int)))))] (λK13=>?_) ?_
 ·refine Rn.partD (t:=11) rfl (λh14=>?_) (λh14=>?_)
  ·refine gg 8 rfl ?_;exact K13 _ sA
  refine gg 1 rfl (Rn.q rfl (V.ldB V32 rfl (D12.get 2 rfl) rfl) (Rn.q rfl (V.lenV U32 rfl) (gg 1 rfl (Rn.q rfl (V.ldB V32 rfl (D12.get 3 rfl) rfl) (Rn.q rfl (V.lenV U32 rfl) (gg 2 rfl ?_))))));exact K13 _ sA
 refine gg 1 rfl ?_;refine bD Y 4 6 (λh15 Y=>?_) (λh15 Y=>?_)
 ·cases Y
  exact Rn.R1 func86 ⟨rfl,D12.pk []⟩
 refine Rn.jF D12 [0,1,2,3] Y (G:=Unit) (λg=>[]) (λg=>[_,_,_,_]) (λj g=>j ()) ?_ ?_
 ·rintro _ w16 D16 Y
  try dsimp only at Y
  refine gg 4 rfl ?_
  cases Y
  exact Rn.R1 func86 ⟨rfl,D16.pk []⟩
 intro j1 Y K1;refine gg 1 rfl ?_;refine Rn.lF D12 [0,1,2,3] (G:=Int) (λg=>[(2,pt b7 0),(3,pt b10 0),(5,iv g)]) (λg=>[_,_,_,_]) (λn g=>m_limnographref08_SameSide_L1 x0 x1 j1 n g) fuel 0 sA (D12.pk [0,1,2,3]) Y ?_;clear Y;rintro m18 y17 w18 D18 Y N18;replace Y:m_limnographref08_SameSide_L1 x0 x1 j1 (m18+1) y17=some r:=Y;rw [m_limnographref08_SameSide_L1] at Y;refine gg 5 rfl (Rn.q rfl (V.ldB V32 rfl (D18.get 2 rfl) rfl) (Rn.q rfl (V.lenV U32 rfl) (gg 2 rfl ?_)));refine bD Y 4 1 (λh19 Y=>?_) (λh19 Y=>?_)
 ·refine Rn.drawP rfl D18 ?_;intro w20 D20;refine dq [0] ?_;refine RH.tp 1 rfl (V.ldB V32 rfl (D20.get 2 rfl) rfl) ?_;refine dq [2] ?_;obtain ⟨z21,e21,Y⟩:=bindE Y;obtain ⟨kk21,ke21,kz21,kl21⟩:=idxE e21;obtain ⟨b21,o21,vs21,hA21,hD21,hR21,hrel21⟩:=Hp.at D20 0 rfl kz21;obtain ⟨rfl,_⟩:=hrel21;have D23:=Hp.knowL [rdR b21 (o21+kk21*1) [u64v z21]] _ D20 (knC (λ_ h=>h) ⟨λ_=>hD21,hR21⟩ kn0);refine RH.tp 3 rfl (V.ixA' hA21 kk21 U32 O31 rfl rfl ke21 kl21) ?_;refine RH.tp 4 rfl (V.ldR0 V31 rfl (D23.get 4 rfl).2 rfl) ?_;refine dq [5] ?_;refine RH.tp 6 rfl (V.ldB V32 rfl (D23.get 3 rfl) rfl) ?_;refine dq [7] ?_;obtain ⟨z24,e24,Y⟩:=bindE Y;obtain ⟨kk24,ke24,kz24,kl24⟩:=idxE e24;obtain ⟨b24,o24,vs24,hA24,hD24,hR24,hrel24⟩:=Hp.at D23 1 rfl kz24;obtain ⟨rfl,_⟩:=hrel24;have D26:=Hp.knowL [rdR b24 (o24+kk24*1) [u64v z24]] _ D23 (knC (λ_ h=>h) ⟨λ_=>hD24,hR24⟩ kn0);refine RH.tp 8 rfl (V.ixA' hA24 kk24 U32 O31 rfl rfl ke24 kl24) ?_;refine RH.tp 9 rfl (V.ldR0 V31 rfl (D26.get 5 rfl).2 rfl) ?_;refine RH.tp 10 rfl (V.neq rfl rfl) ?_;refine RH.dn ?_;refine bD Y 4 7 (λh27 Y=>?_) (λh27 Y=>?_)
  ·cases Y
   exact Rn.R1 func86 ⟨rfl,D26.pk []⟩
  exact N18 (W64 (y17+1)) _ _ sA (D26.pk [0,1,2,3]) Y
 exact K1 () _ _ (sb trivial) (D18.pk [0,1,2,3]) Y
theorem m_limnographref08_Same_sim {x0:T_api_Hist} {x1:T_api_Hist} {r:Bool} (Y:m_limnographref08_Same x0 x1=some r) (h0:T_api_Hist.rep.rel Z0 w cs0 x0) (h1:T_api_Hist.rep.rel Z0 w cs1 x1) :
 Calls prog 36 #[.agg cs0.toArray,.agg cs1.toArray] w λx w'=>x=.returned (.bool (r))∧Hp Z0 No w w' []:=by
 have D0:=Hp.nil Z0 No w;have hc0:=Calm.nil;obtain ⟨Ar1,cr1,Ar3,cr3,rfl,fs1,fs3⟩:=T_api_Hist.relE h0;obtain ⟨D9,hc0⟩:=D0.kn hc0 fs1;obtain ⟨D10,hc0⟩:=D9.kn hc0 fs3;obtain ⟨Ar5,cr5,Ar7,cr7,rfl,fs5,fs7⟩:=T_api_Hist.relE h1;obtain ⟨D11,hc0⟩:=D10.kn hc0 fs5;obtain ⟨D12,hc0⟩:=D11.kn hc0 fs7;refine eg func36 2 ?_
 refine Rn.bx D12 λb13 w13 D15=>?_
 replace D15:=D15.nb
 refine Rn.bx D15 λb16 w16 D18=>?_
 replace D18:=D18.nb;refine gg 5 rfl (Rn.q rfl (V.ldB V3 rfl (D18.get 4 rfl) rfl) (gg 1 rfl (Rn.q rfl (V.ldB V3 rfl (D18.get 5 rfl) rfl) (gg 2 rfl ?_))));refine Rn.cutR [12,13,14,15,16,17,18,19,20,21,22,23,24,25,26] [(2,pt b13 0),(3,pt b16 0),(16,.bool (decide ((x0.Scale=x1.Scale)∧(((x0.Zero).toNat:Int)=((x1.Zero).toNat:Int)))))] (λK19=>?_) ?_
 ·refine Rn.partD (t:=10) rfl (λh20=>?_) (λh20=>?_)
  ·refine gg 1 rfl (Rn.q rfl (V.ldB V31 rfl (D18.get 4 rfl) rfl) (gg 1 rfl (Rn.q rfl (V.ldB V31 rfl (D18.get 5 rfl) rfl) (Rn.q rfl (V.eql rfl rfl) (gg 1 rfl ?_)))));exact K19 _ sA
  refine gg 6 rfl ?_;exact K19 _ sA
 refine gg 1 rfl ?_;refine Rn.jQ D18 [0,1,2,3,4,5] Y (G:=Bool) [19,20,21,22,23,24,25,26] (λg=>[(2,pt b13 0),(3,pt b16 0),(23,.bool (g))]) (λg=>[_,_,_,_,_,_]) (λj g=>j g) ?_ ?_
 ·rintro y21 w22 D22 Y
  try dsimp only at Y
  refine gg 1 rfl ?_;refine Rn.jQ D22 [0,1,2,3,4,5] Y (G:=Bool) [26] (λg=>[(30,.bool (g))]) (λg=>[_,_,_,_,_,_]) (λj g=>j g) ?_ ?_
  ·rintro y23 w24 D24 Y
   try dsimp only at Y
   refine gg 2 rfl ?_
   cases Y
   exact Rn.R1 func36 ⟨rfl,D24.pk []⟩
  intro j2 Y K2;refine askS Y (Rn.part (t:=24) rfl) (λh25 Y=>?_) (λh25 Y=>?_)
  ·refine gg 1 rfl (Rn.q rfl (V.ldBA [_,_] V34 O34 rfl (D22.get 4 rfl) rfl rfl) (gg 1 rfl (Rn.q rfl (V.ldBA [_,_] V34 O34 rfl (D22.get 5 rfl) rfl rfl) ?_)));obtain ⟨p26,e26,Y⟩:=bindE Y
   refine Rn.c0 (cK func86) (m_limnographref08_SameSide_sim (Z0:=All) e26 (T_api_Side.relA (D22.get 1 rfl)) (T_api_Side.relA (D22.get 3 rfl)) :) D22 λw26 _ D27=>?_
   refine gg 1 rfl ?_;exact K2 p26 _ _ sA (D27.pk [0,1,2,3,4,5]) Y
  refine gg 6 rfl ?_;exact K2 false _ _ sA (D22.pk [0,1,2,3,4,5]) Y
 intro j1 Y K1;refine askD Y (Rn.partD (t:=17) rfl) (λh28 Y=>?_) (λh28 Y=>?_)
 ·refine gg 1 rfl (Rn.q rfl (V.ldBA [_,_] V34 O34 rfl (D18.get 4 rfl) rfl rfl) (gg 1 rfl (Rn.q rfl (V.ldBA [_,_] V34 O34 rfl (D18.get 5 rfl) rfl rfl) ?_)));obtain ⟨p29,e29,Y⟩:=bindE Y
  refine Rn.c0 (cK func86) (m_limnographref08_SameSide_sim (Z0:=All) e29 (T_api_Side.relA (D18.get 0 rfl)) (T_api_Side.relA (D18.get 2 rfl)) :) D18 λw29 _ D30=>?_
  refine gg 1 rfl ?_;exact K1 p29 _ _ sA (D30.pk [0,1,2,3,4,5]) Y
 refine gg 6 rfl ?_;exact K1 false _ _ sA (D18.pk [0,1,2,3,4,5]) Y
theorem m_limnographref12_Same_sim {x0:T_api_Point} {x1:T_api_Point} {r:Bool} (Y:m_limnographref12_Same x0 x1=some r) (h0:T_api_Point.rep.rel Z0 w cs0 x0) (h1:T_api_Point.rep.rel Z0 w cs1 x1) :
 Calls prog 14 #[.agg cs0.toArray,.agg cs1.toArray] w λx w'=>x=.returned (.bool (r))∧Hp Z0 No w w' []:=by
 have D0:=Hp.nil Z0 No w;have hc0:=Calm.nil;obtain ⟨Ar1,cr1,Ar3,cr3,Ar5,cr5,rfl,fs1,fs3,fs5⟩:=T_api_Point.relE h0;obtain ⟨D13,hc0⟩:=D0.kn hc0 fs1;obtain ⟨D14,hc0⟩:=D13.kn hc0 fs3;obtain ⟨D15,hc0⟩:=D14.kn hc0 fs5;obtain ⟨Ar7,cr7,Ar9,cr9,Ar11,cr11,rfl,fs7,fs9,fs11⟩:=T_api_Point.relE h1;obtain ⟨D16,hc0⟩:=D15.kn hc0 fs7;obtain ⟨D17,hc0⟩:=D16.kn hc0 fs9;obtain ⟨D18,hc0⟩:=D17.kn hc0 fs11;refine eg func14 2 ?_
 refine Rn.bx D18 λb19 w19 D21=>?_
 replace D21:=D21.nb
 refine Rn.bx D21 λb22 w22 D24=>?_
 replace D24:=D24.nb;refine gg 4 rfl ?_;refine Rn.jF D24 [0,1,2,3,4,5,6,7] Y (G:=Bool) (λg=>[(2,pt b19 0),(3,pt b22 0),(19,.bool (g))]) (λg=>[_,_,_,_,_,_,_,_]) (λj g=>j g) ?_ ?_
 ·rintro y25 w26 D26 Y
  try dsimp only at Y
  refine bS Y 4 5 (λh27 Y=>?_) (λh27 Y=>?_)
  ·cases Y
   exact Rn.R1 func14 ⟨rfl,D26.pk []⟩
  refine Rn.q rfl (V.ldB V3 rfl (D26.get 6 rfl) rfl) (gg 1 rfl (Rn.q rfl (V.ldB V3 rfl (D26.get 7 rfl) rfl) (gg 2 rfl ?_)));refine Rn.cutR [12,13,14,15,16,17,18,19,20,21,22,23,24,25,26,27,28,29,30,31,32] [(2,pt b19 0),(3,pt b22 0),(31,.bool (decide ((x0.Kind≠x1.Kind)∨(x0.Temp≠x1.Temp))))] (λK28=>?_) ?_
  ·refine Rn.partD (t:=25) rfl (λh29=>?_) (λh29=>?_)
   ·refine gg 6 rfl ?_;exact K28 _ sA
   refine gg 1 rfl (Rn.q rfl (V.ldB V3 rfl (D26.get 6 rfl) rfl) (gg 1 rfl (Rn.q rfl (V.ldB V3 rfl (D26.get 7 rfl) rfl) (gg 2 rfl ?_))));exact K28 _ sA
  refine gg 1 rfl ?_;refine Rn.cutR [19,20,21,22,23,24,25,26,27,28,29,30,31,32] [(2,pt b19 0),(3,pt b22 0),(38,.bool (decide (((x0.Kind≠x1.Kind)∨(x0.Temp≠x1.Temp))∨(x0.Mono≠x1.Mono))))] (λK30=>?_) ?_
  ·refine Rn.partD (t:=32) rfl (λh31=>?_) (λh31=>?_)
   ·refine gg 6 rfl ?_;exact K30 _ sA
   refine gg 1 rfl (Rn.q rfl (V.ldB V4 rfl (D26.get 6 rfl) rfl) (gg 1 rfl (Rn.q rfl (V.ldB V4 rfl (D26.get 7 rfl) rfl) (Rn.q rfl (V.neqB U4 rfl rfl) (gg 1 rfl ?_)))));exact K30 _ sA
  refine gg 1 rfl ?_;refine Rn.cutR [26,27,28,29,30,31,32] [(2,pt b19 0),(3,pt b22 0),(45,.bool (decide ((((x0.Kind≠x1.Kind)∨(x0.Temp≠x1.Temp))∨(x0.Mono≠x1.Mono))∨(x0.Start≠x1.Start))))] (λK32=>?_) ?_
  ·refine Rn.partD (t:=39) rfl (λh33=>?_) (λh33=>?_)
   ·refine gg 6 rfl ?_;exact K32 _ sA
   refine gg 1 rfl (Rn.q rfl (V.ldB V3 rfl (D26.get 6 rfl) rfl) (gg 1 rfl (Rn.q rfl (V.ldB V3 rfl (D26.get 7 rfl) rfl) (gg 2 rfl ?_))));exact K32 _ sA
  refine gg 1 rfl ?_;refine Rn.cutR [] [(2,pt b19 0),(3,pt b22 0),(52,.bool (decide (((((x0.Kind≠x1.Kind)∨(x0.Temp≠x1.Temp))∨(x0.Mono≠x1.Mono))∨(x0.Start≠x1.Start))∨(x0.Time≠x1.Time))))] (λK34=>?_) ?_
  ·refine Rn.partD (t:=46) rfl (λh35=>?_) (λh35=>?_)
   ·refine gg 6 rfl ?_;exact K34 _ sA
   refine gg 1 rfl (Rn.q rfl (V.ldB V3 rfl (D26.get 6 rfl) rfl) (gg 1 rfl (Rn.q rfl (V.ldB V3 rfl (D26.get 7 rfl) rfl) (gg 2 rfl ?_))));exact K34 _ sA
  refine gg 1 rfl ?_;refine bD Y 4 4 (λh36 Y=>?_) (λh36 Y=>?_)
  ·cases Y
   exact Rn.R1 func14 ⟨rfl,D26.pk []⟩
  refine Rn.q rfl (V.ldB V3 rfl (D26.get 6 rfl) rfl) (gg 1 rfl (Rn.q rfl (V.ldB V3 rfl (D26.get 7 rfl) rfl) (gg 2 rfl ?_)));refine Rn.cutR [12,13,14,15,16,17,18,19,20,21,22,23,24,25,26,27,28,29,30,31,32,33] [(2,pt b19 0),(3,pt b22 0),(64,.bool (decide ((x0.Int_=x1.Int_)∧(((x0.Re).toNat:Int)=((x1.Re).toNat:Int)))))] (λK37=>?_) ?_
  ·refine Rn.partD (t:=58) rfl (λh38=>?_) (λh38=>?_)
   ·refine gg 1 rfl (Rn.q rfl (V.ldB V31 rfl (D26.get 6 rfl) rfl) (gg 1 rfl (Rn.q rfl (V.ldB V31 rfl (D26.get 7 rfl) rfl) (Rn.q rfl (V.eql rfl rfl) (gg 1 rfl ?_)))));exact K37 _ sA
   refine gg 6 rfl ?_;exact K37 _ sA
  refine gg 1 rfl ?_;refine Rn.cutR [19,20,21,22,23,24,25,26,27,28,29,30,31,32,33] [(2,pt b19 0),(3,pt b22 0),(71,.bool (decide (((x0.Int_=x1.Int_)∧(((x0.Re).toNat:Int)=((x1.Re).toNat:Int)))∧(((x0.Im).toNat:Int)=((x1.Im).toNat:Int)))))] (λK39=>?_) ?_
  ·refine Rn.partD (t:=65) rfl (λh40=>?_) (λh40=>?_)
   ·refine gg 1 rfl (Rn.q rfl (V.ldB V31 rfl (D26.get 6 rfl) rfl) (gg 1 rfl (Rn.q rfl (V.ldB V31 rfl (D26.get 7 rfl) rfl) (Rn.q rfl (V.eql rfl rfl) (gg 1 rfl ?_)))));exact K39 _ sA
   refine gg 6 rfl ?_;exact K39 _ sA
  refine gg 1 rfl ?_;refine Rn.cutR [26,27,28,29,30,31,32,33] [(2,pt b19 0),(3,pt b22 0),(78,.bool (decide ((((x0.Int_=x1.Int_)∧(((x0.Re).toNat:Int)=((x1.Re).toNat:Int)))∧(((x0.Im).toNat:Int)=((x1.Im).toNat:Int)))∧(x0.Flags=x1.Flags))))] (λK41=>?_) ?_
  ·refine Rn.partD (t:=72) rfl (λh42=>?_) (λh42=>?_)
   ·refine gg 1 rfl (Rn.q rfl (V.ldB V3 rfl (D26.get 6 rfl) rfl) (gg 1 rfl (Rn.q rfl (V.ldB V3 rfl (D26.get 7 rfl) rfl) (gg 2 rfl ?_))));exact K41 _ sA
   refine gg 6 rfl ?_;exact K41 _ sA
  refine gg 1 rfl ?_;refine Rn.jQ D26 [0,1,2,3,4,5,6,7] Y (G:=Bool) [33] (λg=>[(85,.bool (g))]) (λg=>[_,_,_,_,_,_,_,_]) (λj g=>j g) ?_ ?_
  ·rintro y43 w44 D44 Y
   try dsimp only at Y
   refine gg 2 rfl ?_
   cases Y
   exact Rn.R1 func14 ⟨rfl,D44.pk []⟩
  intro j2 Y K2;refine askD Y (Rn.partD (t:=79) rfl) (λh45 Y=>?_) (λh45 Y=>?_)
  ·refine gg 1 rfl (Rn.q rfl (V.ldBA [_,_,_,_,_,_] V36 O36 rfl (D26.get 6 rfl) rfl rfl) (gg 1 rfl (Rn.q rfl (V.ldBA [_,_,_,_,_,_] V36 O36 rfl (D26.get 7 rfl) rfl rfl) ?_)));obtain ⟨p46,e46,Y⟩:=bindE Y
   refine Rn.c0 (cK func36) (m_limnographref08_Same_sim (Z0:=All) e46 (T_api_Hist.relA (D26.get 1 rfl) (D26.get 2 rfl)) (T_api_Hist.relA (D26.get 4 rfl) (D26.get 5 rfl)) :) D26 λw46 _ D47=>?_
   refine gg 1 rfl ?_;exact K2 p46 _ _ sA (D47.pk [0,1,2,3,4,5,6,7]) Y
  refine gg 6 rfl ?_;exact K2 false _ _ sA (D26.pk [0,1,2,3,4,5,6,7]) Y
 intro j1 Y K1;refine Rn.drawH rfl D24 ?_;intro w48 D48;refine dq [0] ?_;refine RH.tk 1 rfl (λw' hDr=>V.ldB V9 rfl ((D48.ext hDr).get 6 rfl) rfl) ?_;refine dq [2] ?_;refine RH.ho 3 rfl (V.ldB V9 rfl (D48.get 7 rfl) rfl) ?_;refine RH.ho 4 rfl (V.neqS rfl rfl) ?_;refine dq [5] ?_;refine askD Y (RH.partD (t:=10) rfl) (λh49 Y=>?_) (λh49 Y=>?_)
 ·refine dq [6,7,8,9,10,11,12,13,14] ?_;refine RH.dn ?_;exact K1 true _ _ sA (D48.pk [0,1,2,3,4,5,6,7]) Y
 refine dq [6] ?_;refine RH.tk 7 rfl (λw' hDr=>V.ldB V30 rfl ((D48.ext hDr).get 6 rfl) rfl) ?_;refine dq [9] ?_;refine RH.tk 10 rfl (λw' hDr=>V.ldB V30 rfl ((D48.ext hDr).get 7 rfl) rfl) ?_;obtain ⟨p50,e50,Y⟩:=bindE Y;refine RH.cq (cK func22) 8 (m_limnographref11_Sorted_sim (Z0:=All) e50 (slR_all (D48.get 0 rfl)) :) ?_;rintro _ w50 ⟨A50_0_0,c50_0_0,rfl,Q50⟩;refine ⟨_,rfl,((Ext.refl _).trans Q50.fr),?_⟩;have D52:=D48.callF (flC (ownR_flat T_api_Pair.flat _ _ _ _) fl0) Q50;obtain ⟨p53,e53,Y⟩:=bindE Y;refine RH.cq (cK func22) 11 (m_limnographref11_Sorted_sim (Z0:=All) e53 (slR_all (D52.get 3 rfl)) :) ?_;rintro _ w53 ⟨A53_0_0,c53_0_0,rfl,Q53⟩;refine ⟨_,rfl,(((Ext.refl _).trans Q50.fr).trans Q53.fr),?_⟩;have D55:=D52.callF (flC (ownR_flat T_api_Pair.flat _ _ _ _) fl0) Q53;obtain ⟨p56,e56,Y⟩:=bindE Y;refine RH.cq (cK func21) 12 (m_limnographref11_Same_sim (Z0:=All) e56 (own_slR (D55.get 8 rfl)) (own_slR (D55.get 9 rfl)) :) ?_;rintro _ w56 ⟨rfl,Q56⟩;refine ⟨_,rfl,((((Ext.refl _).trans Q50.fr).trans Q53.fr).trans Q56.fr),?_⟩;have D57:=D55.call0 Q56;refine RH.ho 13 rfl (V.notB rfl) ?_;refine dq [14] ?_;refine RH.dn ?_;exact K1 (!p56) _ _ sA (D57.pk [0,1,2,3,4,5,6,7]) Y
theorem m_limnographlaw17_ConvertGoes_sim {x0:T_api_Config} {x1:(List T_api_Point)} {x2:Int} {r:Bool} (Y:m_limnographlaw17_ConvertGoes x0 x1 x2=some r) (f0:(slR A1 c1 T_api_Point.rep x1).H Z0 w) :
 Calls prog 7 #[.agg [iv x0.Out,iv x0.Series,iv x0.Buckets,iv x0.Points,iv x0.Bytes,iv x0.Disk,iv x0.Window].toArray,.slice A1 (x1).length c1,iv x2] w λx w'=>x=.returned (.bool (r))∧Hp Z0 No w w' []:=by
 obtain ⟨D0,D2,hc0⟩:=knA f0;refine eg func7 2 ?_
 refine Rn.bx D2 λb3 w3 D5=>?_
 replace D5:=D5.nb;refine gg 5 rfl ?_;obtain ⟨p6,e6,Y⟩:=bindE Y
 refine Rn.c0 (cK func8) (m_limnographlaw17_awake_sim (Z0:=All) e6  :) D5 λw6 _ D7=>?_
 refine Rn.q rfl (V.notB rfl) (gg 1 rfl ?_);refine bS Y 4 5 (λh8 Y=>?_) (λh8 Y=>?_)
 ·cases Y
  exact Rn.R1 func7 ⟨rfl,D7.pk []⟩
 obtain ⟨p9,e9,Y⟩:=bindE Y
 refine Rn.c0 (cK func9) (m_limnographref12_Some_sim (Z0:=All) e9 (slR_all (D7.get 0 rfl)) :) D7 λw9 _ D10=>?_
 refine Rn.q rfl (V.notB rfl) (gg 1 rfl ?_);refine bS Y 4 3 (λh11 Y=>?_) (λh11 Y=>?_)
 ·cases Y
  exact Rn.R1 func7 ⟨rfl,D10.pk []⟩
 refine Rn.q rfl (V.ldBA [_,_,_,_,_,_,_] V23 O23 rfl (D10.get 1 rfl) rfl rfl) ?_;obtain ⟨p12,e12,Y⟩:=bindE Y
 refine Rn.c2 (cK func10) (m_convert_New_sim (Z0:=D10.Z) e12  :) λF12_0 b12_0 w12 Q12=>?_
 have D14:=D10.callZ Q12;refine gg 6 rfl (Rn.q rfl (V.eqlO U27 rfl rfl) (gg 1 rfl ?_));refine bS Y 2 4 (λh15 Y=>?_) (λh15 Y=>?_)
 ·refine Rn.q rfl (V.ldBA [_,_,_,_,_,_,_] V23 O23 rfl (D14.get 1 rfl) rfl rfl) ?_;obtain ⟨p16,e16,Y⟩:=bindE Y
  refine Rn.c0 (cK func11) (m_limnographref17_Good_sim (Z0:=All) e16  :) D14 λw16 _ D17=>?_
  refine Rn.q rfl (V.notB rfl) (gg 2 rfl ?_)
  cases Y
  exact Rn.R1 func7 ⟨rfl,D17.pk []⟩
 refine Rn.q rfl (V.maxi rfl rfl) (gg 1 rfl (Rn.q rfl (V.lenV U24 rfl) (Rn.q rfl (V.mini rfl rfl) (gg 7 rfl ?_))));refine Rn.jF D14 [0,1,99] Y (G:=(Option T_convert_Converter)×(Nat→Prop)) (λg=>[(1,.slice A1 (x1).length c1),(2,iv (min (max x2 0) (x1.length:Int))),(3,pt b3 0),(7,.pointer (optP b12_0 (g.1)))]) (λg=>[_,_,optR (g.1) (λz=>T_convert_Converter.obj (g.2) b12_0 z)]) (λj g=>j g.1) ?_ ?_
 ·rintro ⟨y18,F18⟩ w19 D19 Y
  try dsimp only at Y
  refine gg 3 rfl ?_;obtain ⟨z21,e21,Y⟩:=bindE Y;have D22:=D19.optSome 2 rfl e21;refine Rn.say (t:=47) (pt b12_0 0) rfl (by rw [e21];rfl) ?_;obtain ⟨p20,e20,Y⟩:=bindE Y;have D23:=D22.cu [0,1] [2];refine Rn.cq (cK func18) (m_convert_Converter_Save_sim e20 D23.lend :) ?_;rintro _ w20 ⟨A20_0_0,c20_0_0,F20_p0,rfl,Q20⟩;refine ⟨_,rfl,?_⟩;have D26:=D23.callAZ Q20;refine gg 4 rfl (Rn.q rfl (V.ldBA [_,_,_,_,_,_,_] V23 O23 rfl (D26.get 1 rfl) rfl rfl) (gg 1 rfl ?_));have D29:=D26.freeze 2 rfl;obtain ⟨p27,e27,Y⟩:=bindE Y
  refine Rn.c2 (cK func23) (m_convert_Load_sim (Z0:=D29.Z) e27 (D29.get 2 rfl) :) λF27_0 b27_0 w27 Q27=>?_
  have D31:=D29.callZ Q27;refine gg 9 rfl ?_;refine Rn.say (t:=55) (pt b12_0 0) rfl (by rw [e21];rfl) ?_;obtain ⟨p32,e32,Y⟩:=bindE Y;have D33:=D31.cu [0,1,2,4] [3];refine Rn.cq (cK func25) (m_convert_Converter_Clone_sim e32 D33.lend :) ?_;rintro _ w32 ⟨F32_0,b32_0,F32_p0,rfl,Q32⟩;refine ⟨_,rfl,?_⟩;have D36:=D33.callAZ Q32;refine gg 6 rfl (Rn.q rfl (V.eqlO U27 rfl rfl) (gg 1 rfl ?_));refine Rn.cutR [] [(1,.slice A1 (x1).length c1),(2,iv (min (max x2 0) (x1.length:Int))),(7,.pointer (optP b12_0 y18)),(9,.slice A20_0_0 (p20).length c20_0_0),(10,.pointer (optP b27_0 p27.1)),(12,pt b32_0 0),(62,.bool (decide ((((p27.1).isNone)=true)∨(p27.2≠0))))] (λK37=>?_) ?_
  ·refine Rn.part (t:=59) rfl (λh38=>?_) (λh38=>?_)
   ·refine gg 3 rfl ?_;exact K37 _ sA
   refine gg 3 rfl ?_;exact K37 _ sA
  refine gg 1 rfl ?_;refine bD Y 4 7 (λh39 Y=>?_) (λh39 Y=>?_)
  ·cases Y
   exact Rn.R1 func7 ⟨rfl,D36.pk []⟩
  refine Rn.jF D36 [0,1,2,99,99,99] Y (G:=T_convert_Converter×(Option T_convert_Converter)×(Nat→Prop)×(Nat→Prop)×(Nat→Prop)) (λg=>[(1,.slice A1 (x1).length c1),(2,iv (min (max x2 0) (x1.length:Int))),(7,.pointer (optP b12_0 y18)),(9,.slice A20_0_0 (p20).length c20_0_0),(10,.pointer (optP b27_0 (g.2.1))),(12,pt b32_0 0)]) (λg=>[_,_,_,T_convert_Converter.obj (g.2.2.1) b32_0 p32,T_convert_Converter.obj (g.2.2.2.1) b12_0 (g.1),optR (g.2.1) (λz=>T_convert_Converter.obj (g.2.2.2.2) b27_0 z)]) (λj g=>j g.1 g.2.1) ?_ ?_
  ·rintro ⟨y41,y42,F40,F41,F42⟩ w43 D43 Y
   try dsimp only at Y
   refine gg 2 rfl ?_;refine Rn.jF D43 [0,1,99,99,99] Y (G:=Bool×(Nat→Prop)×(Nat→Prop)×(Nat→Prop)) (λg=>[(1,.slice A1 (x1).length c1),(2,iv (min (max x2 0) (x1.length:Int))),(7,.pointer (optP b12_0 y18)),(12,pt b32_0 0),(111,.bool ((g.1)))]) (λg=>[_,_,T_convert_Converter.obj (g.2.1) b32_0 p32,T_convert_Converter.obj (g.2.2.1) b12_0 y41,optR y42 (λz=>T_convert_Converter.obj (g.2.2.2) b27_0 z)]) (λj g=>j g.1) ?_ ?_
   ·rintro ⟨y47,F44,F45,F46⟩ w48 D48 Y
    try dsimp only at Y
    refine bS Y 4 7 (λh49 Y=>?_) (λh49 Y=>?_)
    ·cases Y
     exact Rn.R1 func7 ⟨rfl,D48.pk []⟩
    refine Rn.jF D48 [1,99,99,99] Y (G:=T_convert_Converter×(Nat→Prop)×(Nat→Prop)×(Nat→Prop)) (λg=>[(7,.pointer (optP b12_0 y18)),(12,pt b32_0 0)]) (λg=>[_,T_convert_Converter.obj (g.2.1) b12_0 y41,optR y42 (λz=>T_convert_Converter.obj (g.2.2.1) b27_0 z),T_convert_Converter.obj (g.2.2.2) b32_0 (g.1)]) (λj g=>j g.1) ?_ ?_
    ·rintro ⟨y52,F50,F51,F52⟩ w53 D53 Y
     try dsimp only at Y
     refine gg 1 rfl ?_;have D55:=(D53.cutF [0,2] [1,3] [] rfl (by decide) trivial).nf ([_,_]++[_,_]) rfl;refine Rn.drawF rfl D55 ?_;intro w56 hmo56 D56;refine dq [0,3] ?_;obtain ⟨p57,e57,Y⟩:=bindE Y;have D58:=D56.cu [0] [1];refine RH.cq (cK func18) 1 (m_convert_Converter_Save_sim e57 D58.lend :) ?_;rintro _ w57 ⟨A57_0_0,c57_0_0,F57_p0,rfl,Q57⟩;have D61:=D58.callAZ Q57;refine ⟨_,rfl,D61.fr,?_⟩;obtain ⟨p62,e62,Y⟩:=bindE Y;refine RH.both 2 4 (by kernel_rfl) ?_ ?_
     ·refine RB.here λhS2=>RB.one 2 rfl rfl rfl rfl (V.b2s U51 U9 U5 rfl rfl (Own.sl (D61.get 1 rfl))) hS2 ?_
      refine RH.say (t:=128) (pt b12_0 0) rfl (by rw [e21];rfl) ?_;have e69:=e62;have D70:=D61.cu [1,2] [0];refine RH.cq (cK func18) 4 (m_convert_Converter_Save_sim e69 D70.lend :) ?_;rintro _ w69 ⟨A69_0_0,c69_0_0,F69_p0,rfl,Q69⟩;have D73:=D70.callAZ Q69;refine ⟨_,rfl,D73.fr,?_⟩;refine RH.ho 5 rfl (V.b2s U51 U9 U5 rfl rfl (Own.sl (D73.get 2 rfl))) ?_;refine RH.ho 6 rfl (V.eqlS rfl rfl) ?_;refine dq [7] ?_;refine RH.dn ?_;have D74:=hmo56.callAZ D73;have D75:=(D74.pk [0,1,2,3,4,5]).nq
      cases Y
      exact Rn.R1 func7 ⟨rfl,D75.pk []⟩
     refine RB.say (t:=128) (pt b12_0 0) rfl (by rw [e21];rfl) ?_;have e76:=e62;have D77:=D61.cu [1,2] [0];refine RB.cl (cK func18) 4 rfl rfl rfl rfl (m_convert_Converter_Save_sim e76 D77.lend :) ?_;rintro _ w76 ⟨A76_0_0,c76_0_0,F76_p0,rfl,Q76⟩;have D80:=D77.callAZ Q76;refine ⟨_,rfl,D80.fr,?_⟩;refine RH.both 2 5 (by kernel_rfl) ?_ ?_
     ·refine RB.here λhS2=>RB.one 2 rfl rfl rfl rfl (V.b2s U51 U9 U5 rfl rfl (Own.sl (D80.get 0 rfl))) hS2 ?_
      refine RH.ho 5 rfl (V.b2s U51 U9 U5 rfl rfl (Own.sl (D80.get 2 rfl))) ?_;refine RH.ho 6 rfl (V.eqlS rfl rfl) ?_;refine dq [7] ?_;refine RH.dn ?_;have D81:=hmo56.callAZ D80;have D82:=(D81.pk [0,1,2,3,4,5]).nq
      cases Y
      exact Rn.R1 func7 ⟨rfl,D82.pk []⟩
     refine RB.here λhS5=>RB.one 5 rfl rfl rfl rfl (V.b2s U51 U9 U5 rfl rfl (Own.sl (D80.get 2 rfl))) hS5 ?_
     refine RH.ho 2 rfl (V.b2s U51 U9 U5 rfl rfl (Own.sl (D80.get 0 rfl))) ?_;refine RH.ho 6 rfl (V.eqlS rfl rfl) ?_;refine dq [7] ?_;refine RH.dn ?_;have D83:=hmo56.callAZ D80;have D84:=(D83.pk [0,1,2,3,4,5]).nq
     cases Y
     exact Rn.R1 func7 ⟨rfl,D84.pk []⟩
    intro j4 Y K4;refine gg 1 rfl ?_;refine Rn.lF D48 [0,1,99,99,99] (G:=Int×T_convert_Converter×(Nat→Prop)×(Nat→Prop)×(Nat→Prop)) (λg=>[(1,.slice A1 (x1).length c1),(7,.pointer (optP b12_0 y18)),(12,pt b32_0 0),(18,iv (g.1))]) (λg=>[_,_,T_convert_Converter.obj (g.2.2.1) b12_0 y41,optR y42 (λz=>T_convert_Converter.obj (g.2.2.2.1) b27_0 z),T_convert_Converter.obj (g.2.2.2.2) b32_0 (g.2.1)]) (λn g=>m_limnographlaw17_ConvertGoes_L1 x1 j4 n g.1 g.2.1) fuel ((min (max x2 0) (x1.length:Int)),p32,F45,F46,F44) sA (D48.pk [0,1,3,4,2]) Y ?_;clear Y;rintro m89 ⟨y87,y88,F85,F86,F88⟩ w89 D89 Y N89;replace Y:m_limnographlaw17_ConvertGoes_L1 x1 j4 (m89+1) y87 y88=some r:=Y;rw [m_limnographlaw17_ConvertGoes_L1] at Y;refine gg 5 rfl (Rn.q rfl (V.lenV U24 rfl) (gg 2 rfl ?_));refine bD Y 7 1 (λh90 Y=>?_) (λh90 Y=>?_)
    ·obtain ⟨z91,e91,Y⟩:=bindE Y;refine Rn.ixH D89 0 rfl e91 rfl rfl rfl U24 O38 rfl rfl rfl rfl ?_;rintro b91 o91 vs91 hr91 D91;obtain ⟨Ar92,cr92,Ar94,cr94,Ar96,cr96,rfl,fs92,fs94,fs96⟩:=T_api_Point.relE hr91;have D99:=Hp.know1 (M:=[slR Ar92 cr92 T_api_Pair.rep z91.Attrs,slR Ar94 cr94 w64R z91.Hist.Pos.Counts,slR Ar96 cr96 w64R z91.Hist.Neg.Counts]) D91 (λ_ h=>h) (knC (λ_ h=>h) fs92 (knC (λ_ h=>h) fs94 (knC (λ_ h=>h) fs96 kn0)));refine Rn.q rfl (V.ldA (vs:=[_,_,_,_,_,_,_,_,_,_,_,_,_,_,_,_,_]) V38 O38 rfl (Rd.pre (D99.get 5 rfl).2 17) rfl) ?_;obtain ⟨p100,e100,Y⟩:=bindE Y;have D101:=D99.know (relR T_api_Point.rep [Str (z91.Name),.slice Ar92 (z91.Attrs).length cr92,iv z91.Kind,iv z91.Temp,.bool (z91.Mono),iv z91.Start,iv z91.Time,iv z91.Int_,u64v z91.Re,u64v z91.Im,iv z91.Hist.Scale,u64v z91.Hist.Zero,iv z91.Hist.Pos.Offset,.slice Ar94 (z91.Hist.Pos.Counts).length cr94,iv z91.Hist.Neg.Offset,.slice Ar96 (z91.Hist.Neg.Counts).length cr96,iv z91.Flags] z91) (λ_ h=>h) (show T_api_Point.rep.rel _ _ _ _ from (T_api_Point.relI (D99.get 6 rfl) (D99.get 7 rfl) (D99.get 8 rfl)));have D103:=D101.cu [0,1,2,3,5,6,7,8] [4,9];refine Rn.cq (cK func12) (m_convert_Converter_Take_sim e100 D103.lend :) ?_;rintro _ w100 ⟨A100_0_0,c100_0_0,A100_0_1,c100_0_1,A100_0_2,c100_0_2,F100_p0,rfl,Q100⟩;refine ⟨_,rfl,?_⟩;have D108:=D103.callAZ Q100;refine gg 7 rfl ?_;exact N89 ((W64 (y87+1)),p100.2.2,F85,F86,F100_p0) _ _ sA (D108.pk [0,1,2,3,11]) Y
    exact K4 (y88,F85,F86,F88) _ _ sA (D89.pk [1,2,3,4]) Y
   intro j3 Y K3;have D112:=(D43.cutF [1] [3,4,5] [0,2] rfl (by decide) ⟨λ_ h=>h,λ_ h=>h,trivial⟩).nf ([_,_,_]++[_,_,_,_,_]) rfl;refine Rn.drawF rfl D112 ?_;intro w113 hmo113 D113;refine dq [0,3] ?_;refine RH.tk 4 rfl (λw' hDr=>V.b2s U51 U9 U5 rfl rfl ((hmo113.awayK hDr).get 2 rfl).2.2) ?_;obtain ⟨p114,e114,Y⟩:=bindE Y;have D115:=D113.cu [1,2,3,4] [0];refine RH.cq (cK func18) 1 (m_convert_Converter_Save_sim e114 D115.lend :) ?_;rintro _ w114 ⟨A114_0_0,c114_0_0,F114_p0,rfl,Q114⟩;have D118:=D115.callAZ Q114;refine ⟨_,rfl,D118.fr,?_⟩;refine RH.ho 2 rfl (V.b2s U51 U9 U5 rfl rfl (Own.sl (D118.get 4 rfl))) ?_;refine RH.ho 5 rfl (V.neqS rfl rfl) ?_;refine dq [6] ?_;refine askD Y (RH.partD (t:=103) rfl) (λh119 Y=>?_) (λh119 Y=>?_)
   ·refine dq [7,8,9,10,11,12,13,14] ?_;refine RH.dn ?_;have D120:=hmo113.callAZ D118;have D121:=(D120.pk [0,3,4,5,6,7,8]).nq;exact K3 (true,F114_p0,F41,F42) _ _ sA (D121.pk [3,0,6,1,2]) Y
   refine dq [7,10] ?_;refine RH.say (t:=104) (pt b12_0 0) rfl (by rw [e21];rfl) ?_;obtain ⟨p122,e122,Y⟩:=bindE Y;have D123:=D118.cu [1,2,3,4,5] [0];refine RH.cq (cK func18) 8 (m_convert_Converter_Save_sim e122 D123.lend :) ?_;rintro _ w122 ⟨A122_0_0,c122_0_0,F122_p0,rfl,Q122⟩;have D126:=D123.callAZ Q122;refine ⟨_,rfl,D126.fr,?_⟩;obtain ⟨z128,e128,Y⟩:=bindE Y;obtain ⟨p127,e127,Y⟩:=bindE Y;refine RH.both 9 11 (by kernel_rfl) ?_ ?_
   ·refine RB.here λhS9=>RB.one 9 rfl rfl rfl rfl (V.b2s U51 U9 U5 rfl rfl (Own.sl (D126.get 5 rfl))) hS9 ?_
    have e137:=e128;have D138:=D126.optSome 0 rfl e137;refine RH.say (t:=107) (pt b27_0 0) rfl (by rw [e137];rfl) ?_;have e136:=e127;have D139:=D138.cu [1,2,3,4,5,6] [0];refine RH.cq (cK func18) 11 (m_convert_Converter_Save_sim e136 D139.lend :) ?_;rintro _ w136 ⟨A136_0_0,c136_0_0,F136_p0,rfl,Q136⟩;have D142:=D139.callAZ Q136;refine ⟨_,rfl,D142.fr,?_⟩;refine RH.ho 12 rfl (V.b2s U51 U9 U5 rfl rfl (Own.sl (D142.get 6 rfl))) ?_;refine RH.ho 13 rfl (V.neqS rfl rfl) ?_;refine dq [14] ?_;refine RH.dn ?_;have D143:=hmo113.callAZ D142;have D144:=(D143.pk [0,3,4,5,6,7,8,9,10]).nq;have D145:=D144.toOpt (R:=(λz=>T_convert_Converter.obj F136_p0 b27_0 z)) 8 rfl e137;exact K3 ((decide (p122≠p127)),F114_p0,F122_p0,F136_p0) _ _ sA (D145.pk [1,0,4,6,8]) Y
   have e147:=e128;have D148:=D126.optSome 0 rfl e147;refine RB.say (t:=107) (pt b27_0 0) rfl (by rw [e147];rfl) ?_;have e146:=e127;have D149:=D148.cu [1,2,3,4,5,6] [0];refine RB.cl (cK func18) 11 rfl rfl rfl rfl (m_convert_Converter_Save_sim e146 D149.lend :) ?_;rintro _ w146 ⟨A146_0_0,c146_0_0,F146_p0,rfl,Q146⟩;have D152:=D149.callAZ Q146;refine ⟨_,rfl,D152.fr,?_⟩;refine RH.both 9 12 (by kernel_rfl) ?_ ?_
   ·refine RB.here λhS9=>RB.one 9 rfl rfl rfl rfl (V.b2s U51 U9 U5 rfl rfl (Own.sl (D152.get 4 rfl))) hS9 ?_
    refine RH.ho 12 rfl (V.b2s U51 U9 U5 rfl rfl (Own.sl (D152.get 6 rfl))) ?_;refine RH.ho 13 rfl (V.neqS rfl rfl) ?_;refine dq [14] ?_;refine RH.dn ?_;have D153:=hmo113.callAZ D152;have D154:=(D153.pk [0,3,4,5,6,7,8,9,10]).nq;have D155:=D154.toOpt (R:=(λz=>T_convert_Converter.obj F146_p0 b27_0 z)) 8 rfl e147;exact K3 ((decide (p122≠p127)),F114_p0,F122_p0,F146_p0) _ _ sA (D155.pk [1,0,4,6,8]) Y
   refine RB.here λhS12=>RB.one 12 rfl rfl rfl rfl (V.b2s U51 U9 U5 rfl rfl (Own.sl (D152.get 6 rfl))) hS12 ?_
   refine RH.ho 9 rfl (V.b2s U51 U9 U5 rfl rfl (Own.sl (D152.get 4 rfl))) ?_;refine RH.ho 13 rfl (V.neqS rfl rfl) ?_;refine dq [14] ?_;refine RH.dn ?_;have D156:=hmo113.callAZ D152;have D157:=(D156.pk [0,3,4,5,6,7,8,9,10]).nq;have D158:=D157.toOpt (R:=(λz=>T_convert_Converter.obj F146_p0 b27_0 z)) 8 rfl e147;exact K3 ((decide (p122≠p127)),F114_p0,F122_p0,F146_p0) _ _ sA (D158.pk [1,0,4,6,8]) Y
  intro j2 Y K2;refine gg 1 rfl ?_;refine Rn.lF D36 [0,1,2,99,99,99] (G:=Int×T_convert_Converter×(Option T_convert_Converter)×(Nat→Prop)×(Nat→Prop)×(Nat→Prop)) (λg=>[(1,.slice A1 (x1).length c1),(2,iv (min (max x2 0) (x1.length:Int))),(7,.pointer (optP b12_0 y18)),(9,.slice A20_0_0 (p20).length c20_0_0),(10,.pointer (optP b27_0 (g.2.2.1))),(12,pt b32_0 0),(13,iv (g.1))]) (λg=>[_,_,_,T_convert_Converter.obj (g.2.2.2.1) b32_0 p32,T_convert_Converter.obj (g.2.2.2.2.1) b12_0 (g.2.1),optR (g.2.2.1) (λz=>T_convert_Converter.obj (g.2.2.2.2.2) b27_0 z)]) (λn g=>m_limnographlaw17_ConvertGoes_L2 x1 j2 n g.1 g.2.1 g.2.2.1) fuel ((min (max x2 0) (x1.length:Int)),z21,p27.1,F32_0,F32_p0,F27_0) sA (D36.pk [0,1,2,4,5,3]) Y ?_;clear Y;rintro m163 ⟨y160,y161,y162,F159,F161,F162⟩ w163 D163 Y N163;replace Y:m_limnographlaw17_ConvertGoes_L2 x1 j2 (m163+1) y160 y161 y162=some r:=Y;rw [m_limnographlaw17_ConvertGoes_L2] at Y;refine gg 5 rfl (Rn.q rfl (V.lenV U24 rfl) (gg 2 rfl ?_));refine bD Y 8 1 (λh164 Y=>?_) (λh164 Y=>?_)
  ·obtain ⟨z165,e165,Y⟩:=bindE Y;refine Rn.ixH D163 0 rfl e165 rfl rfl rfl U24 O38 rfl rfl rfl rfl ?_;rintro b165 o165 vs165 hr165 D165;obtain ⟨Ar166,cr166,Ar168,cr168,Ar170,cr170,rfl,fs166,fs168,fs170⟩:=T_api_Point.relE hr165;have D173:=Hp.know1 (M:=[slR Ar166 cr166 T_api_Pair.rep z165.Attrs,slR Ar168 cr168 w64R z165.Hist.Pos.Counts,slR Ar170 cr170 w64R z165.Hist.Neg.Counts]) D165 (λ_ h=>h) (knC (λ_ h=>h) fs166 (knC (λ_ h=>h) fs168 (knC (λ_ h=>h) fs170 kn0)));refine Rn.q rfl (V.ldA (vs:=[_,_,_,_,_,_,_,_,_,_,_,_,_,_,_,_,_]) V38 O38 rfl (Rd.pre (D173.get 6 rfl).2 17) rfl) ?_;refine Rn.say (t:=71) (pt b12_0 0) rfl (by rw [e21];rfl) ?_;obtain ⟨p174,e174,Y⟩:=bindE Y;have D175:=D173.know (relR T_api_Point.rep [Str (z165.Name),.slice Ar166 (z165.Attrs).length cr166,iv z165.Kind,iv z165.Temp,.bool (z165.Mono),iv z165.Start,iv z165.Time,iv z165.Int_,u64v z165.Re,u64v z165.Im,iv z165.Hist.Scale,u64v z165.Hist.Zero,iv z165.Hist.Pos.Offset,.slice Ar168 (z165.Hist.Pos.Counts).length cr168,iv z165.Hist.Neg.Offset,.slice Ar170 (z165.Hist.Neg.Counts).length cr170,iv z165.Flags] z165) (λ_ h=>h) (show T_api_Point.rep.rel _ _ _ _ from (T_api_Point.relI (D173.get 7 rfl) (D173.get 8 rfl) (D173.get 9 rfl)));have D177:=D175.cu [0,1,2,3,5,6,7,8,9] [4,10];refine Rn.cq (cK func12) (m_convert_Converter_Take_sim e174 D177.lend :) ?_;rintro _ w174 ⟨A174_0_0,c174_0_0,A174_0_1,c174_0_1,A174_0_2,c174_0_2,F174_p0,rfl,Q174⟩;refine ⟨_,rfl,?_⟩;have D182:=D177.callAZ Q174;refine gg 3 rfl (Rn.als rfl rfl rfl Tryz.zeroValue38 rfl O38 rfl rfl rfl rfl (by first|exact ones rfl|(simp [Value.oneCell'];done)) ?_);intro b183 w183 hb183 m183 e183;have D185:=(D182.addBox hb183 e183 m183).nb;refine gg 7 rfl ?_;obtain ⟨z186,e186,Y⟩:=bindE Y;refine Rn.ixH D185 0 rfl e186 rfl rfl rfl U24 O38 rfl rfl rfl rfl ?_;rintro b186 o186 vs186 hr186 D186;obtain ⟨Ar187,cr187,Ar189,cr189,Ar191,cr191,rfl,fs187,fs189,fs191⟩:=T_api_Point.relE hr186;have D194:=Hp.know1 (M:=[slR Ar187 cr187 T_api_Pair.rep z186.Attrs,slR Ar189 cr189 w64R z186.Hist.Pos.Counts,slR Ar191 cr191 w64R z186.Hist.Neg.Counts]) D186 (λ_ h=>h) (knC (λ_ h=>h) fs187 (knC (λ_ h=>h) fs189 (knC (λ_ h=>h) fs191 kn0)));refine Rn.q rfl (V.ldA (vs:=[_,_,_,_,_,_,_,_,_,_,_,_,_,_,_,_,_]) V38 O38 rfl (Rd.pre (D194.get 14 rfl).2 17) rfl) ?_;obtain ⟨z196,e196,Y⟩:=bindE Y;have D197:=D194.optSome 4 rfl e196;refine Rn.say (t:=80) (pt b27_0 0) rfl (by rw [e196];rfl) ?_;obtain ⟨p195,e195,Y⟩:=bindE Y;have D198:=D197.know (relR T_api_Point.rep [Str (z186.Name),.slice Ar187 (z186.Attrs).length cr187,iv z186.Kind,iv z186.Temp,.bool (z186.Mono),iv z186.Start,iv z186.Time,iv z186.Int_,u64v z186.Re,u64v z186.Im,iv z186.Hist.Scale,u64v z186.Hist.Zero,iv z186.Hist.Pos.Offset,.slice Ar189 (z186.Hist.Pos.Counts).length cr189,iv z186.Hist.Neg.Offset,.slice Ar191 (z186.Hist.Neg.Counts).length cr191,iv z186.Flags] z186) (λ_ h=>h) (show T_api_Point.rep.rel _ _ _ _ from (T_api_Point.relI (D197.get 15 rfl) (D197.get 16 rfl) (D197.get 17 rfl)));have D200:=D198.cu [0,1,2,3,5,6,7,8,9,10,11,12,13,14,15,16,17] [4,18];refine Rn.cq (cK func12) (m_convert_Converter_Take_sim e195 D200.lend :) ?_;rintro _ w195 ⟨A195_0_0,c195_0_0,A195_0_1,c195_0_1,A195_0_2,c195_0_2,F195_p0,rfl,Q195⟩;refine ⟨_,rfl,?_⟩;have D205:=D200.callAZ Q195;refine gg 3 rfl (Rn.als rfl rfl rfl Tryz.zeroValue38 rfl O38 rfl rfl rfl rfl (by first|exact ones rfl|(simp [Value.oneCell'];done)) ?_);intro b206 w206 hb206 m206 e206;have D208:=(D205.addBox hb206 e206 m206).nb;refine gg 4 rfl (Rn.q rfl (V.ldBA [_,_,_,_,_,_,_,_,_,_,_,_,_,_,_,_,_] V38 O38 rfl (D208.get 12 rfl) rfl rfl) (Rn.q rfl (V.ldBA [_,_,_,_,_,_,_,_,_,_,_,_,_,_,_,_,_] V38 O38 rfl (D208.get 21 rfl) rfl rfl) ?_));obtain ⟨p209,e209,Y⟩:=bindE Y
   refine Rn.c0 (cK func14) (m_limnographref12_Same_sim (Z0:=All) e209 (T_api_Point.relA (D208.get 8 rfl) (D208.get 9 rfl) (D208.get 10 rfl)) (T_api_Point.relA (D208.get 17 rfl) (D208.get 18 rfl) (D208.get 19 rfl)) :) D208 λw209 _ D210=>?_
   replace D210:=D210.nq;refine Rn.q rfl (V.notB rfl) (gg 1 rfl ?_);refine Rn.cutR [] [(1,.slice A1 (x1).length c1),(2,iv (min (max x2 0) (x1.length:Int))),(7,.pointer (optP b12_0 y18)),(9,.slice A20_0_0 (p20).length c20_0_0),(10,.pointer (optP b27_0 y162)),(12,pt b32_0 0),(13,iv y160),(96,.bool (decide (((!p209)=true)∨(p174.2.1≠p195.2.1))))] (λK211=>?_) ?_
   ·refine Rn.part (t:=92) rfl (λh212=>?_) (λh212=>?_)
    ·refine gg 4 rfl ?_;exact K211 _ sA
    refine gg 4 rfl ?_;exact K211 _ sA
   refine gg 1 rfl ?_;refine bD Y 4 7 (λh213 Y=>?_) (λh213 Y=>?_)
   ·cases Y
    exact Rn.R1 func7 ⟨rfl,D210.pk []⟩
   refine Rn.say (t:=10) (pt b27_0 0) rfl (by rw [e196];rfl) ?_;have D214:=D210.toSome (R:=(λz=>T_convert_Converter.obj F195_p0 b27_0 z)) 20 rfl;exact N163 ((W64 (y160+1)),p174.2.2,(some p195.2.2),F159,F174_p0,F195_p0) _ _ sA (D214.pk [0,1,2,3,11,20]) Y
  exact K2 (y161,y162,F159,F161,F162) _ _ sA (D163.pk [0,1,2,3,4,5]) Y
 intro j1 Y K1;refine gg 1 rfl ?_;refine Rn.lF D14 [0,1,99] (G:=Int×(Option T_convert_Converter)×(Nat→Prop)) (λg=>[(1,.slice A1 (x1).length c1),(2,iv (min (max x2 0) (x1.length:Int))),(3,pt b3 0),(7,.pointer (optP b12_0 (g.2.1))),(8,iv (g.1))]) (λg=>[_,_,optR (g.2.1) (λz=>T_convert_Converter.obj (g.2.2) b12_0 z)]) (λn g=>m_limnographlaw17_ConvertGoes_L3 x1 x2 j1 n g.1 g.2.1) fuel (0,p12,F12_0) sA (D14.pk [0,1,2]) Y ?_;clear Y;rintro m217 ⟨y215,y216,F216⟩ w217 D217 Y N217;replace Y:m_limnographlaw17_ConvertGoes_L3 x1 x2 j1 (m217+1) y215 y216=some r:=Y;rw [m_limnographlaw17_ConvertGoes_L3] at Y;refine gg 7 rfl ?_;refine bD Y 7 1 (λh218 Y=>?_) (λh218 Y=>?_)
 ·obtain ⟨z219,e219,Y⟩:=bindE Y;refine Rn.ixH D217 0 rfl e219 rfl rfl rfl U24 O38 rfl rfl rfl rfl ?_;rintro b219 o219 vs219 hr219 D219;obtain ⟨Ar220,cr220,Ar222,cr222,Ar224,cr224,rfl,fs220,fs222,fs224⟩:=T_api_Point.relE hr219;have D227:=Hp.know1 (M:=[slR Ar220 cr220 T_api_Pair.rep z219.Attrs,slR Ar222 cr222 w64R z219.Hist.Pos.Counts,slR Ar224 cr224 w64R z219.Hist.Neg.Counts]) D219 (λ_ h=>h) (knC (λ_ h=>h) fs220 (knC (λ_ h=>h) fs222 (knC (λ_ h=>h) fs224 kn0)));refine Rn.q rfl (V.ldA (vs:=[_,_,_,_,_,_,_,_,_,_,_,_,_,_,_,_,_]) V38 O38 rfl (Rd.pre (D227.get 3 rfl).2 17) rfl) ?_;obtain ⟨z229,e229,Y⟩:=bindE Y;have D230:=D227.optSome 2 rfl e229;refine Rn.say (t:=41) (pt b12_0 0) rfl (by rw [e229];rfl) ?_;obtain ⟨p228,e228,Y⟩:=bindE Y;have D231:=D230.know (relR T_api_Point.rep [Str (z219.Name),.slice Ar220 (z219.Attrs).length cr220,iv z219.Kind,iv z219.Temp,.bool (z219.Mono),iv z219.Start,iv z219.Time,iv z219.Int_,u64v z219.Re,u64v z219.Im,iv z219.Hist.Scale,u64v z219.Hist.Zero,iv z219.Hist.Pos.Offset,.slice Ar222 (z219.Hist.Pos.Counts).length cr222,iv z219.Hist.Neg.Offset,.slice Ar224 (z219.Hist.Neg.Counts).length cr224,iv z219.Flags] z219) (λ_ h=>h) (show T_api_Point.rep.rel _ _ _ _ from (T_api_Point.relI (D230.get 4 rfl) (D230.get 5 rfl) (D230.get 6 rfl)));have D233:=D231.cu [0,1,3,4,5,6] [2,7];refine Rn.cq (cK func12) (m_convert_Converter_Take_sim e228 D233.lend :) ?_;rintro _ w228 ⟨A228_0_0,c228_0_0,A228_0_1,c228_0_1,A228_0_2,c228_0_2,F228_p0,rfl,Q228⟩;refine ⟨_,rfl,?_⟩;have D238:=D233.callAZ Q228;refine gg 7 rfl ?_;refine Rn.say (t:=7) (pt b12_0 0) rfl (by rw [e229];rfl) ?_;have D239:=D238.toSome (R:=(λz=>T_convert_Converter.obj F228_p0 b12_0 z)) 9 rfl;exact N217 ((W64 (y215+1)),(some p228.2.2),F228_p0) _ _ sA (D239.pk [0,1,9]) Y
 exact K1 (y216,F216) _ _ sA (D217.pk [0,1,2]) Y
end Go.Proofs.YtaikmpmokihciaaGreat
