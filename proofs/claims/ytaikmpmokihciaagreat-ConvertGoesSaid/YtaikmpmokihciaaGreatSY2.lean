import Derived.Test.YtaikmpmokihciaaGreatRows
import Derived.Test.YtaikmpmokihciaaGreatVY2
import Derived.Test.YtaikmpmokihciaaGreatSY1
import Derived.Test.YtaikmpmokihciaaGreatIY
set_option maxRecDepth 20000
set_option maxHeartbeats 40000000
set_option linter.unusedVariables false
set_option linter.unusedSimpArgs false
namespace Go.Proofs.YtaikmpmokihciaaGreat
open Go Go.RowKit Go.Wk _root_.Go.Proofs.Tryz
open _root_.Go.Proofs.Tryz renaming underlying3→U3,underlying4→U4,underlying9→U9,underlying31→U31,underlying32→U32,underlying130→U130,underlying132→U132,underlying274→U274,isAgg3→V3,isAgg4→V4,isAgg30→V30,isAgg31→V31,isAgg32→V32,isAgg34→V34,isAgg36→V36,isAgg38→V38,isAgg70→V70,isAgg72→V72,isAgg130→V130,isAgg206→V206,isAgg272→V272,isAgg273→V273,sizeOf3→O3,sizeOf30→O30,sizeOf31→O31,sizeOf32→O32,sizeOf34→O34,sizeOf36→O36,sizeOf38→O38,sizeOf70→O70,sizeOf72→O72,sizeOf130→O130,sizeOf136→O136,sizeOf206→O206,sizeOf273→O273
variable {Z0:Nat→Prop} {w:World} {F0:Nat→Prop} {F1:Nat→Prop} {F2:Nat→Prop} {F3:Nat→Prop} {F4:Nat→Prop} {F5:Nat→Prop} {b0:Nat} {b1:Nat} {b2:Nat} {b3:Nat} {b4:Nat} {b5:Nat} {A0:Option Addr} {A1:Option Addr} {A2:Option Addr} {A3:Option Addr} {A4:Option Addr} {A5:Option Addr} {c0:Nat} {c1:Nat} {c2:Nat} {c3:Nat} {c4:Nat} {c5:Nat} {cs0:List Value} {cs1:List Value} {cs2:List Value} {cs3:List Value}
theorem m_point_Clone_sim {x0:T_api_Point} {r:T_api_Point} (Y:m_point_Clone x0=some r) (h0:T_api_Point.rep.rel Z0 w cs0 x0) :
 Calls prog 82 #[.agg cs0.toArray] w λx w'=>∃ A_0_0 c_0_0 A_0_1 c_0_1 A_0_2 c_0_2,x=.returned (.agg [Str (r.Name),.slice A_0_0 (r.Attrs).length c_0_0,iv r.Kind,iv r.Temp,.bool (r.Mono),iv r.Start,iv r.Time,iv r.Int_,u64v r.Re,u64v r.Im,iv r.Hist.Scale,u64v r.Hist.Zero,iv r.Hist.Pos.Offset,.slice A_0_1 (r.Hist.Pos.Counts).length c_0_1,iv r.Hist.Neg.Offset,.slice A_0_2 (r.Hist.Neg.Counts).length c_0_2,iv r.Flags].toArray)∧Hp Z0 No w w' [ownR 116 A_0_0 c_0_0 T_api_Pair.rep r.Attrs,ownR 31 A_0_1 c_0_1 w64R r.Hist.Pos.Counts,ownR 31 A_0_2 c_0_2 w64R r.Hist.Neg.Counts]:=by
 have D0:=Hp.nil Z0 No w;have hc0:=Calm.nil;obtain ⟨Ar1,cr1,Ar3,cr3,Ar5,cr5,rfl,fs1,fs3,fs5⟩:=T_api_Point.relE h0;obtain ⟨D7,hc0⟩:=D0.kn hc0 fs1;obtain ⟨D8,hc0⟩:=D7.kn hc0 fs3;obtain ⟨D9,hc0⟩:=D8.kn hc0 fs5;refine eg func82 2 ?_
 refine Rn.bx D9 λb10 w10 D12=>?_
 replace D12:=D12.nb
 refine Rn.al D12 Tryz.zeroValue38 λb13 w13 D15=>?_
 replace D15:=D15.nb;refine gg 4 rfl (Rn.q rfl (V.ldB V30 rfl (D15.get 3 rfl) rfl) ?_);obtain ⟨p16,e16,Y⟩:=bindE Y
 refine Rn.c2 (cK func146) (m_slices_Clone_api_Pair_api_Pair_sim (Z0:=All) e16 (slR_all (D15.get 0 rfl)) :) λA16_0_0 c16_0_0 w16 Q16=>?_
 have D18:=D15.callF (flC (ownR_flat T_api_Pair.flat _ _ _ _) fl0) Q16;refine gg 1 rfl (Rn.sn D18 3 O30 λw19 D20=>?_);refine gg 4 rfl (Rn.q rfl (V.ldBA [_,_,_,_,_,_] V36 O36 rfl (D20.get 3 rfl) rfl rfl) ?_);obtain ⟨p21,e21,Y⟩:=bindE Y;refine Rn.cq (cK func130) (m_hist_Clone_sim (Z0:=All) e21 (T_api_Hist.relA (D20.get 1 rfl) (D20.get 2 rfl)) :) ?_;rintro _ w21 ⟨A21_0_0,c21_0_0,A21_0_1,c21_0_1,rfl,Q21⟩;refine ⟨_,rfl,?_⟩;have D24:=D20.callF (flC (ownR_flat w64_flat _ _ _ _) (flC (ownR_flat w64_flat _ _ _ _) fl0)) Q21;refine gg 1 rfl (Rn.sn D24 3 O36 λw25 D26=>?_);refine gg 3 rfl (Rn.q rfl (V.ldBA [_,_,_,_,_,_,_,_,_,_,_,_,_,_,_,_,_] V38 O38 rfl (D26.get 3 rfl) rfl rfl) (Rn.stF rfl rfl O38 rfl rfl rfl rfl (by first|exact ones rfl|(simp [Value.oneCell'];done)) (D26.get 4 rfl) rfl ?_));intro w27 m27 x27;have D28:=D26.sn 4 x27 m27;refine gg 1 rfl ?_;refine Rn.retG1 func82 rfl (rvC rfl V38 O38 (D28.get 4 rfl) rfl) ?_;obtain rfl:=someE Y;exact ⟨A16_0_0,c16_0_0,A21_0_0,c21_0_0,A21_0_1,c21_0_1,rfl,D28.pk [5,6,7]⟩
theorem m_convert_bare_sim {x0:T_api_Point} {r:T_api_Point} (Y:m_convert_bare x0=some r) (h0:T_api_Point.rep.rel Z0 w cs0 x0) :
 Calls prog 33 #[.agg cs0.toArray] w λx w'=>∃ A_0_0 c_0_0 A_0_1 c_0_1 A_0_2 c_0_2,x=.returned (.agg [Str (r.Name),.slice A_0_0 (r.Attrs).length c_0_0,iv r.Kind,iv r.Temp,.bool (r.Mono),iv r.Start,iv r.Time,iv r.Int_,u64v r.Re,u64v r.Im,iv r.Hist.Scale,u64v r.Hist.Zero,iv r.Hist.Pos.Offset,.slice A_0_1 (r.Hist.Pos.Counts).length c_0_1,iv r.Hist.Neg.Offset,.slice A_0_2 (r.Hist.Neg.Counts).length c_0_2,iv r.Flags].toArray)∧Hp Z0 No w w' [ownR 116 A_0_0 c_0_0 T_api_Pair.rep r.Attrs,ownR 31 A_0_1 c_0_1 w64R r.Hist.Pos.Counts,ownR 31 A_0_2 c_0_2 w64R r.Hist.Neg.Counts]:=by
 have D0:=Hp.nil Z0 No w;have hc0:=Calm.nil;obtain ⟨Ar1,cr1,Ar3,cr3,Ar5,cr5,rfl,fs1,fs3,fs5⟩:=T_api_Point.relE h0;obtain ⟨D7,hc0⟩:=D0.kn hc0 fs1;obtain ⟨D8,hc0⟩:=D7.kn hc0 fs3;obtain ⟨D9,hc0⟩:=D8.kn hc0 fs5;refine eg func33 2 ?_
 refine Rn.bx D9 λb10 w10 D12=>?_
 replace D12:=D12.nb
 refine Rn.al D12 Tryz.zeroValue38 λb13 w13 D15=>?_
 replace D15:=D15.nb;refine gg 3 rfl (Rn.q rfl (V.ldBA [_,_,_,_,_,_,_,_,_,_,_,_,_,_,_,_,_] V38 O38 rfl (D15.get 3 rfl) rfl rfl) ?_);obtain ⟨p16,e16,Y⟩:=bindE Y;refine Rn.cq (cK func82) (m_point_Clone_sim (Z0:=All) e16 (T_api_Point.relA (D15.get 0 rfl) (D15.get 1 rfl) (D15.get 2 rfl)) :) ?_;rintro _ w16 ⟨A16_0_0,c16_0_0,A16_0_1,c16_0_1,A16_0_2,c16_0_2,rfl,Q16⟩;refine ⟨_,rfl,?_⟩;have D20:=D15.callF (flC (ownR_flat T_api_Pair.flat _ _ _ _) (flC (ownR_flat w64_flat _ _ _ _) (flC (ownR_flat w64_flat _ _ _ _) fl0))) Q16;refine Rn.stF rfl rfl O38 rfl rfl rfl rfl (by first|exact ones rfl|(simp [Value.oneCell'];done)) (D20.get 3 rfl) rfl ?_;intro w21 m21 x21;have D22:=D20.sn 3 x21 m21;refine gg 3 rfl (Rn.q rfl (V.bldS (cs:=[_,_,_,_,_,_]) st36 rfl rfl) (gg 1 rfl (Rn.sn D22 3 O3 λw23 D24=>?_)));refine gg 1 rfl (Rn.sn D24 3 O3 λw25 D26=>?_);refine gg 1 rfl (Rn.sn D26 3 O3 λw27 D28=>?_);refine gg 1 rfl (Rn.sn D28 3 O31 λw29 D30=>?_);refine gg 1 rfl (Rn.sn D30 3 O31 λw31 D32=>?_);refine gg 1 rfl (Rn.sn D32 3 O36 λw33 D34=>?_);refine gg 1 rfl (Rn.sn D34 3 O3 λw35 D36=>?_);refine gg 3 rfl (Rn.q rfl (V.ldBA [_,_,_,_,_,_,_,_,_,_,_,_,_,_,_,_,_] V38 O38 rfl (D36.get 3 rfl) rfl rfl) (Rn.stF rfl rfl O38 rfl rfl rfl rfl (by first|exact ones rfl|(simp [Value.oneCell'];done)) (D36.get 4 rfl) rfl ?_));intro w37 m37 x37;have D38:=D36.sn 4 x37 m37;refine gg 1 rfl ?_;have D39:=D38.addNil 31 w64R;have D41:=D39.addNil 31 w64R;refine Rn.retG1 func33 rfl (rvC rfl V38 O38 (D38.get 4 rfl) rfl) ?_;obtain rfl:=someE Y;exact ⟨A16_0_0,c16_0_0,none,0,none,0,rfl,D41.pk [5,8,9]⟩
theorem m_table_Table_convert_kept_Put_sim {x0:T_table_Table_convert_kept_} {x1:(List UInt8)} {x2:T_convert_kept} {r:(Bool×T_table_Table_convert_kept_)} (Y:m_table_Table_convert_kept_Put x0 x1 x2=some r) (hL:Lent Z0 w [T_table_Table_convert_kept_.obj F0 b0 x0,relR T_convert_kept.rep cs2 x2]) :
 Calls prog 32 #[pt b0 0,Str (x1),.agg cs2.toArray] w λx w'=>∃ F_p0,x=.returned (.bool (r.1))∧Hp Z0 (LS [T_table_Table_convert_kept_.obj F0 b0 x0,relR T_convert_kept.rep cs2 x2]) w w' [T_table_Table_convert_kept_.obj F_p0 b0 r.2]:=by
 have D0:=hL.start;have h2:=D0.get 1 rfl;obtain ⟨Ar2,cr2,Ar4,cr4,Ar6,cr6,Ar8,cr8,Ar10,cr10,rfl,fs2,fs4,fs6,fs8,fs10⟩:=T_convert_kept.relE h2;have D13:=Hp.knowL [slR Ar2 cr2 w64R x2.State.Hist.Pos.Counts,slR Ar4 cr4 w64R x2.State.Hist.Neg.Counts,slR Ar6 cr6 T_api_Pair.rep x2.series.Attrs,slR Ar8 cr8 w64R x2.series.Hist.Pos.Counts,slR Ar10 cr10 w64R x2.series.Hist.Neg.Counts] _ D0 (knC (λ_ h=>h) fs2 (knC (λ_ h=>h) fs4 (knC (λ_ h=>h) fs6 (knC (λ_ h=>h) fs8 (knC (λ_ h=>h) fs10 kn0)))));refine eg func32 2 ?_
 refine Rn.bx D13 λb14 w14 D16=>?_
 replace D16:=D16.nb;refine gg 8 rfl ?_;obtain ⟨_,⟨m17_0,rfl⟩,D17⟩:=D16.unf 0 rfl;replace D17:=D17.nq;refine Rn.q rfl (V.ldB V130 rfl (D17.get 7 rfl) rfl) (gg 1 rfl ?_);obtain ⟨vs19,hl19,hr19⟩:=Map.lkp (D17.get 8 rfl) x1 (zs:=[.bool false,iv 0,iv 0,iv 0,u64v (0:UInt64),u64v (0:UInt64),iv 0,u64v (0:UInt64),iv 0,.slice none 0 0,iv 0,.slice none 0 0,Str (([]:List UInt8)),.slice none 0 0,iv 0,iv 0,.bool false,iv 0,iv 0,iv 0,u64v (0:UInt64),u64v (0:UInt64),iv 0,u64v (0:UInt64),iv 0,.slice none 0 0,iv 0,.slice none 0 0,iv 0,iv 0]) (zm:=(zl136:T_table_slot_convert_kept_)) (show T_table_slot_convert_kept_.rep.rel _ _ _ _ from (T_table_slot_convert_kept_.relI (slR_nil _ _) (slR_nil _ _) (slR_nil _ _) (slR_nil _ _) (slR_nil _ _)));obtain ⟨Ar20,cr20,Ar22,cr22,Ar24,cr24,Ar26,cr26,Ar28,cr28,rfl,fs20,fs22,fs24,fs26,fs28⟩:=T_table_slot_convert_kept_.relE hr19;have D30:=Hp.knowL [slR Ar20 cr20 w64R (((((((lookP x1 x0.m).getD zl136).v).State).Hist).Pos).Counts),slR Ar22 cr22 w64R (((((((lookP x1 x0.m).getD zl136).v).State).Hist).Neg).Counts),slR Ar24 cr24 T_api_Pair.rep (((((lookP x1 x0.m).getD zl136).v).series).Attrs),slR Ar26 cr26 w64R (((((((lookP x1 x0.m).getD zl136).v).series).Hist).Pos).Counts),slR Ar28 cr28 w64R (((((((lookP x1 x0.m).getD zl136).v).series).Hist).Neg).Counts)] _ D17 (knC (λ_ h=>h) fs20 (knC (λ_ h=>h) fs22 (knC (λ_ h=>h) fs24 (knC (λ_ h=>h) fs26 (knC (λ_ h=>h) fs28 kn0)))));refine Rn.q rfl (V.lkpHO hl19 U130 U9 Tryz.zeroValue136 rfl rfl) (gg 3 rfl (Rn.als rfl rfl rfl Tryz.zeroValue136 rfl O136 rfl rfl rfl rfl (by first|exact ones rfl|(simp [Value.oneCell'];done)) ?_));intro b31 w31 hb31 m31 e31;have D33:=(D30.addBox hb31 e31 m31).nb;refine gg 5 rfl (Rn.q rfl (V.notB rfl) (gg 1 rfl ?_));have D35:=D33.cu [0,1,2,3,4,5,6,9,10,11,12,13,14] [7,8];obtain ⟨F34,D34⟩:=D35.fold (T_table_Table_convert_kept_.sh b0 x0) ⟨m17_0,rfl⟩;refine Rn.jQ D34 [1,2,3,4,5,6,7,8,9,10,11,12,99] Y (G:=Bool×(Nat→Prop)) [] (λg=>[(0,pt b0 0),(1,Str (x1)),(5,pt b14 0),(24,.bool ((g.1)))]) (λg=>[_,_,_,_,_,_,_,_,_,_,_,_,T_table_Table_convert_kept_.obj (g.2) b0 x0]) (λj g=>j g.1) ?_ ?_
 ·rintro ⟨y37,F36⟩ w38 D38 Y
  try dsimp only at Y
  refine gg 1 rfl ?_;refine bS Y 4 6 (λh39 Y=>?_) (λh39 Y=>?_)
  ·cases Y
   exact Rn.R1 func32 ⟨F36,rfl,D38.pk [12]⟩
  obtain ⟨_,⟨m40_0,rfl⟩,D40⟩:=D38.unf 12 rfl;replace D40:=D40.nq;refine Rn.q rfl (V.ldB V3 rfl (D40.get 12 rfl) rfl) (gg 3 rfl (Rn.sn D40 12 O3 λw42 D43=>?_));refine gg 2 rfl ?_;refine Rn.drawT 11 rfl D43 (by kernel_rfl) ?_;intro w44 D44;refine RT.vv 0 rfl (V.mv rfl) ?_;refine RT.vv 1 rfl (V.nil rfl) ?_;refine RT.vv 2 rfl (V.fa U132 rfl O130 rfl rfl) ?_;refine RT.vv 3 rfl (V.ldB V130 rfl (D44.get 12 rfl) rfl) ?_;refine RT.vv 4 rfl (V.mv rfl) ?_;refine RT.vv 5 rfl (V.ldBA [_,_,_,_,_,_,_,_,_,_,_,_,_,_,_,_,_,_,_,_,_,_,_,_,_,_,_,_,_] V72 O72 rfl (D44.get 5 rfl) rfl rfl) ?_;refine RT.vv 6 rfl (V.mv rfl) ?_;refine RT.vv 7 rfl (V.nil rfl) ?_;refine RT.vv 8 rfl (V.fa U132 rfl O3 rfl rfl) ?_;refine RT.vv 9 rfl (V.ldB V3 rfl (D44.get 12 rfl) rfl) ?_;refine RT.vv 10 rfl (V.bldF (cs:=[_,_,_,_,_,_,_,_,_,_,_,_,_,_,_,_,_,_,_,_,_,_,_,_,_,_,_,_,_,_]) st136 rfl rfl rfl rfl rfl) ?_;refine RT.tail ?_;refine RH.muH (v:=(⟨x2,W64 (x0.clock+1)⟩:T_table_slot_convert_kept_)) (vs:=[.bool (x2.State.Some),iv x2.State.Start,iv x2.State.Time,iv x2.State.Int_,u64v x2.State.Re,u64v x2.State.Im,iv x2.State.Hist.Scale,u64v x2.State.Hist.Zero,iv x2.State.Hist.Pos.Offset,.slice Ar2 (x2.State.Hist.Pos.Counts).length cr2,iv x2.State.Hist.Neg.Offset,.slice Ar4 (x2.State.Hist.Neg.Counts).length cr4,Str (x2.series.Name),.slice Ar6 (x2.series.Attrs).length cr6,iv x2.series.Kind,iv x2.series.Temp,.bool (x2.series.Mono),iv x2.series.Start,iv x2.series.Time,iv x2.series.Int_,u64v x2.series.Re,u64v x2.series.Im,iv x2.series.Hist.Scale,u64v x2.series.Hist.Zero,iv x2.series.Hist.Pos.Offset,.slice Ar8 (x2.series.Hist.Pos.Counts).length cr8,iv x2.series.Hist.Neg.Offset,.slice Ar10 (x2.series.Hist.Neg.Counts).length cr10,iv x2.series.Flags,iv (W64 (x0.clock+1))]) 11 (by kernel_rfl) D44 13 rfl rfl rfl U130 U9 rfl rfl rfl ((T_table_slot_convert_kept_.relI (D44.get 0 rfl) (D44.get 1 rfl) (D44.get 2 rfl) (D44.get 3 rfl) (D44.get 4 rfl))) ?_;intro w45 D45;refine ⟨trivial,?_⟩;refine RH.dn ?_;refine gg 4 rfl ?_;have D47:=D45.cu [0,1,2,3,4,5,6,7,8,9,10,11] [12,13];obtain ⟨F46,D46⟩:=D47.fold (T_table_Table_convert_kept_.sh b0 (⟨x0.most,W64 (x0.clock+1),(putP x1 (⟨x2,W64 (x0.clock+1)⟩:T_table_slot_convert_kept_) x0.m)⟩:T_table_Table_convert_kept_)) ⟨m40_0,rfl⟩
  cases Y
  exact Rn.R1 func32 ⟨F46,rfl,D46.pk [12]⟩
 intro j1 Y K1;refine askS Y (Rn.part (t:=20) rfl) (λh48 Y=>?_) (λh48 Y=>?_)
 ·refine gg 1 rfl ?_;obtain ⟨p49,e49,Y⟩:=bindE Y
  refine Rn.c0 (cK func30) (m_table_Table_convert_kept_Room_sim (Z0:=All) e49 (fz_all (D34.get 13 rfl)) :) D34 λw49 _ D50=>?_
  replace D50:=D50.nq;refine gg 2 rfl ?_;exact K1 ((decide (p49=0)),F34) _ _ sA (D50.pk [1,2,3,4,5,6,7,8,9,10,11,12,13]) Y
 refine gg 4 rfl ?_;exact K1 (false,F34) _ _ sA (D34.pk [1,2,3,4,5,6,7,8,9,10,11,12,13]) Y
theorem m_convert_Converter_road_s2_sim {x0_cfg_Out:Int} {x0_cfg_Series:Int} {x0_cfg_Buckets:Int} {x0_cfg_Points:Int} {x0_cfg_Bytes:Int} {x0_cfg_Disk:Int} {x0_cfg_Window:Int} {v0_states:Value} {x1:T_api_Point} {r:Nat} (Y:m_convert_Converter_road_s2 x0_cfg_Out x0_cfg_Series x0_cfg_Buckets x0_cfg_Points x0_cfg_Bytes x0_cfg_Disk x0_cfg_Window x1=some r) (hL:Lent Z0 w [boxR b0 74 [iv x0_cfg_Out,iv x0_cfg_Series,iv x0_cfg_Buckets,iv x0_cfg_Points,iv x0_cfg_Bytes,iv x0_cfg_Disk,iv x0_cfg_Window,v0_states],relR T_api_Point.rep cs1 x1]) :
 Calls prog 31 #[pt b0 0,.agg cs1.toArray] w λx w'=>x=.returned (.func (.func r) #[] [].toArray)∧Hp Z0 (LS [boxR b0 74 [iv x0_cfg_Out,iv x0_cfg_Series,iv x0_cfg_Buckets,iv x0_cfg_Points,iv x0_cfg_Bytes,iv x0_cfg_Disk,iv x0_cfg_Window,v0_states],relR T_api_Point.rep cs1 x1]) w w' [boxR b0 74 [iv x0_cfg_Out,iv x0_cfg_Series,iv x0_cfg_Buckets,iv x0_cfg_Points,iv x0_cfg_Bytes,iv x0_cfg_Disk,iv x0_cfg_Window,v0_states]]:=by
 have D0:=hL.start;have h1:=D0.get 1 rfl;obtain ⟨Ar2,cr2,Ar4,cr4,Ar6,cr6,rfl,fs2,fs4,fs6⟩:=T_api_Point.relE h1;have D9:=Hp.knowL [slR Ar2 cr2 T_api_Pair.rep x1.Attrs,slR Ar4 cr4 w64R x1.Hist.Pos.Counts,slR Ar6 cr6 w64R x1.Hist.Neg.Counts] _ D0 (knC (λ_ h=>h) fs2 (knC (λ_ h=>h) fs4 (knC (λ_ h=>h) fs6 kn0)));refine eg func31 2 ?_
 refine Rn.bx D9 λb10 w10 D12=>?_
 replace D12:=D12.nb;refine gg 7 rfl (Rn.q rfl (V.ldB V3 rfl (D12.get 5 rfl) rfl) (gg 2 rfl ?_));refine Rn.cutR [11] [(0,pt b0 0),(3,pt b10 0),(16,.bool (decide ((x1.Temp=1)∧(x0_cfg_Out=2))))] (λK13=>?_) ?_
 ·refine Rn.partD (t:=9) rfl (λh14=>?_) (λh14=>?_)
  ·refine gg 4 rfl (Rn.q rfl (V.ldB V3 rfl (D12.get 0 rfl) rfl) (gg 2 rfl ?_));exact K13 _ sA
  refine gg 7 rfl ?_;exact K13 _ sA
 refine gg 2 rfl ?_;refine bD Y 4 3 (λh15 Y=>?_) (λh15 Y=>?_)
 ·cases Y
  exact Rn.R1 func31 ⟨rfl,D12.pk [0]⟩
 refine Rn.q rfl (V.ldB V3 rfl (D12.get 5 rfl) rfl) (gg 2 rfl ?_);refine Rn.cutR [11] [(28,.bool (decide ((x1.Temp=2)∧(x0_cfg_Out=1))))] (λK16=>?_) ?_
 ·refine Rn.partD (t:=21) rfl (λh17=>?_) (λh17=>?_)
  ·refine gg 4 rfl (Rn.q rfl (V.ldB V3 rfl (D12.get 0 rfl) rfl) (gg 2 rfl ?_));exact K16 _ sA
  refine gg 7 rfl ?_;exact K16 _ sA
 refine gg 2 rfl ?_;refine bD Y 4 6 (λh18 Y=>?_) (λh18 Y=>?_)
 ·cases Y
  exact Rn.R1 func31 ⟨rfl,D12.pk [0]⟩
 cases Y
 exact Rn.R1 func31 ⟨rfl,D12.pk [0]⟩
theorem m_todelta_check_sim {x0:T_api_State} {x1:T_api_Point} {r:Int} (Y:m_todelta_check x0 x1=some r) (h0:T_api_State.rep.rel Z0 w cs0 x0) (h1:T_api_Point.rep.rel Z0 w cs1 x1) :
 Calls prog 139 #[.agg cs0.toArray,.agg cs1.toArray] w λx w'=>x=.returned (iv r)∧Hp Z0 No w w' []:=by
 have D0:=Hp.nil Z0 No w;have hc0:=Calm.nil;obtain ⟨Ar1,cr1,Ar3,cr3,rfl,fs1,fs3⟩:=T_api_State.relE h0;obtain ⟨D11,hc0⟩:=D0.kn hc0 fs1;obtain ⟨D12,hc0⟩:=D11.kn hc0 fs3;obtain ⟨Ar5,cr5,Ar7,cr7,Ar9,cr9,rfl,fs5,fs7,fs9⟩:=T_api_Point.relE h1;obtain ⟨D13,hc0⟩:=D12.kn hc0 fs5;obtain ⟨D14,hc0⟩:=D13.kn hc0 fs7;obtain ⟨D15,hc0⟩:=D14.kn hc0 fs9;refine eg func139 2 ?_
 refine Rn.bx D15 λb16 w16 D18=>?_
 replace D18:=D18.nb
 refine Rn.bx D18 λb19 w19 D21=>?_
 replace D21:=D21.nb;refine gg 7 rfl (Rn.q rfl (V.ldB V4 rfl (D21.get 5 rfl) rfl) (Rn.q rfl (V.notB rfl) (gg 2 rfl ?_)));refine bS Y 4 3 (λh22 Y=>?_) (λh22 Y=>?_)
 ·cases Y
  exact Rn.R1 func139 ⟨rfl,D21.pk []⟩
 refine Rn.q rfl (V.ldB V3 rfl (D21.get 6 rfl) rfl) (gg 1 rfl (Rn.q rfl (V.ldB V3 rfl (D21.get 5 rfl) rfl) (gg 3 rfl ?_)));refine bD Y 4 4 (λh23 Y=>?_) (λh23 Y=>?_)
 ·cases Y
  exact Rn.R1 func139 ⟨rfl,D21.pk []⟩
 refine Rn.q rfl (V.ldB V3 rfl (D21.get 6 rfl) rfl) (gg 1 rfl (Rn.q rfl (V.ldB V3 rfl (D21.get 5 rfl) rfl) (gg 3 rfl ?_)));refine Rn.jF D21 [0,1,2,3,4,5,6] Y (G:=Bool) (λg=>[(15,.bool (g))]) (λg=>[_,_,_,_,_,_,_]) (λj g=>j g) ?_ ?_
 ·rintro y24 w25 D25 Y
  try dsimp only at Y
  refine bS Y 4 6 (λh26 Y=>?_) (λh26 Y=>?_)
  ·cases Y
   exact Rn.R1 func139 ⟨rfl,D25.pk []⟩
  cases Y
  exact Rn.R1 func139 ⟨rfl,D25.pk []⟩
 intro j1 Y K1;refine bD Y 1 2 (λh27 Y=>?_) (λh27 Y=>?_)
 ·exact K1 (decide (x1.Start<x0.Start)) _ _ sA (D21.pk [0,1,2,3,4,5,6]) Y
 refine Rn.q rfl (V.ldB V3 rfl (D21.get 6 rfl) rfl) (gg 1 rfl (Rn.q rfl (V.ldB V3 rfl (D21.get 5 rfl) rfl) (gg 2 rfl ?_)));refine Rn.cutR [12] [(32,.bool (decide ((x1.Start>x0.Start)∧(x1.Start<x0.Time))))] (λK28=>?_) ?_
 ·refine Rn.partD (t:=26) rfl (λh29=>?_) (λh29=>?_)
  ·refine gg 1 rfl (Rn.q rfl (V.ldB V3 rfl (D21.get 6 rfl) rfl) (gg 1 rfl (Rn.q rfl (V.ldB V3 rfl (D21.get 5 rfl) rfl) (gg 2 rfl ?_))));exact K28 _ sA
  refine gg 6 rfl ?_;exact K28 _ sA
 refine gg 2 rfl ?_;exact K1 (decide ((x1.Start>x0.Start)∧(x1.Start<x0.Time))) _ _ sA (D21.pk [0,1,2,3,4,5,6]) Y
theorem m_todelta_begins_sim {x0:T_api_State} {x1:T_api_Point} {r:Int} (Y:m_todelta_begins x0 x1=some r) (h0:T_api_State.rep.rel Z0 w cs0 x0) (h1:T_api_Point.rep.rel Z0 w cs1 x1) :
 Calls prog 140 #[.agg cs0.toArray,.agg cs1.toArray] w λx w'=>x=.returned (iv r)∧Hp Z0 No w w' []:=by
 have D0:=Hp.nil Z0 No w;have hc0:=Calm.nil;obtain ⟨Ar1,cr1,Ar3,cr3,rfl,fs1,fs3⟩:=T_api_State.relE h0;obtain ⟨D11,hc0⟩:=D0.kn hc0 fs1;obtain ⟨D12,hc0⟩:=D11.kn hc0 fs3;obtain ⟨Ar5,cr5,Ar7,cr7,Ar9,cr9,rfl,fs5,fs7,fs9⟩:=T_api_Point.relE h1;obtain ⟨D13,hc0⟩:=D12.kn hc0 fs5;obtain ⟨D14,hc0⟩:=D13.kn hc0 fs7;obtain ⟨D15,hc0⟩:=D14.kn hc0 fs9;refine eg func140 2 ?_
 refine Rn.bx D15 λb16 w16 D18=>?_
 replace D18:=D18.nb
 refine Rn.bx D18 λb19 w19 D21=>?_
 replace D21:=D21.nb;refine gg 7 rfl (Rn.q rfl (V.ldB V4 rfl (D21.get 5 rfl) rfl) (Rn.q rfl (V.notB rfl) (gg 2 rfl ?_)));refine bS Y 4 3 (λh22 Y=>?_) (λh22 Y=>?_)
 ·cases Y
  exact Rn.R1 func140 ⟨rfl,D21.pk []⟩
 refine Rn.q rfl (V.ldB V3 rfl (D21.get 6 rfl) rfl) (gg 1 rfl (Rn.q rfl (V.ldB V3 rfl (D21.get 5 rfl) rfl) (gg 3 rfl ?_)));refine bD Y 4 3 (λh23 Y=>?_) (λh23 Y=>?_)
 ·cases Y
  exact Rn.R1 func140 ⟨rfl,D21.pk []⟩
 refine Rn.q rfl (V.ldB V3 rfl (D21.get 6 rfl) rfl) (gg 1 rfl (Rn.q rfl (V.ldB V3 rfl (D21.get 5 rfl) rfl) (gg 3 rfl ?_)));refine bD Y 4 6 (λh24 Y=>?_) (λh24 Y=>?_)
 ·cases Y
  exact Rn.R1 func140 ⟨rfl,D21.pk []⟩
 cases Y
 exact Rn.R1 func140 ⟨rfl,D21.pk []⟩
theorem m_num_Odd_sim {x0:UInt64} {r:Bool} (Y:m_num_Odd x0=some r)  :
 Calls prog 249 #[u64v x0] w λx w'=>x=.returned (.bool (r))∧Hp Z0 No w w' []:=by
 have D0:=Hp.nil Z0 No w;have hc0:=Calm.nil;refine eg func249 7 ?_;refine Rn.q rfl (V.andNot64 (a:=x0) (b:=(9223372036854775808:UInt64)) rfl rfl) (Rn.q rfl (V.gtr rfl rfl) (gg 2 rfl ?_))
 cases Y
 exact Rn.R1 func249 ⟨rfl,D0.pk []⟩
theorem m_num_Canon_sim {x0:UInt64} {r:UInt64} (Y:m_num_Canon x0=some r)  :
 Calls prog 234 #[u64v x0] w λx w'=>x=.returned (u64v r)∧Hp Z0 No w w' []:=by
 have D0:=Hp.nil Z0 No w;have hc0:=Calm.nil;refine eg func234 8 ?_;obtain ⟨p1,e1,Y⟩:=bindE Y
 refine Rn.c0 (cK func249) (m_num_Odd_sim (Z0:=All) e1  :) D0 λw1 _ D2=>?_
 refine gg 1 rfl ?_;refine bS Y 4 6 (λh3 Y=>?_) (λh3 Y=>?_)
 ·cases Y
  exact Rn.R1 func234 ⟨rfl,D2.pk []⟩
 cases Y
 exact Rn.R1 func234 ⟨rfl,D2.pk []⟩
theorem m_num_bits_sim {x0:UInt64} {r:UInt64} (Y:m_num_bits x0=some r)  :
 Calls prog 213 #[.float .f64 (x0).toNat] w λx w'=>x=.returned (u64v r)∧Hp Z0 No w w' []:=by
 have D0:=Hp.nil Z0 No w;have hc0:=Calm.nil;refine eg func213 7 ?_;refine Rn.q rfl (V.bitsOf (a:=x0) func235 (by kernel_rfl) (by kernel_rfl) (by kernel_rfl) (by kernel_rfl) rfl) ?_;obtain ⟨p2,e2,Y⟩:=bindE Y
 refine Rn.c0 (cK func234) (m_num_Canon_sim (Z0:=All) e2  :) D0 λw2 _ D3=>?_
 refine gg 2 rfl ?_
 cases Y
 exact Rn.R1 func213 ⟨rfl,D3.pk []⟩
theorem m_num_Sub_sim {x0:UInt64} {x1:UInt64} {r:UInt64} (Y:m_num_Sub x0 x1=some r)  :
 Calls prog 186 #[u64v x0,u64v x1] w λx w'=>x=.returned (u64v r)∧Hp Z0 No w w' []:=by
 have D0:=Hp.nil Z0 No w;have hc0:=Calm.nil;refine eg func186 7 ?_;obtain ⟨p1,e1,Y⟩:=bindE Y
 refine Rn.c0 (cK func119) (m_num_of_sim (Z0:=All) e1  :) D0 λw1 _ D2=>?_
 refine gg 1 rfl ?_;obtain ⟨p3,e3,Y⟩:=bindE Y
 refine Rn.c0 (cK func119) (m_num_of_sim (Z0:=All) e3  :) D2 λw3 _ D4=>?_
 refine Rn.fop rfl rfl rfl (.inr rfl) rfl rfl ?_;intro z5 w5 hs5 hx5;have D6:=D4.ext hx5;obtain ⟨p7,e7,Y⟩:=bindE Y;replace e7:=(fsame hs5).trans e7
 refine Rn.c0 (cK func213) (m_num_bits_sim (Z0:=All) e7  :) D6 λw7 _ D8=>?_
 refine gg 2 rfl ?_
 cases Y
 exact Rn.R1 func186 ⟨rfl,D8.pk []⟩
theorem m_todelta_finite_sim {x0:(List UInt64)} {r:Bool} (Y:m_todelta_finite x0=some r) (f0:(slR A0 c0 w64R x0).H Z0 w) :
 Calls prog 187 #[.slice A0 (x0).length c0] w λx w'=>x=.returned (.bool (r))∧Hp Z0 No w w' []:=by
 obtain ⟨D0,D2,hc0⟩:=knA f0;refine eg func187 8 ?_;refine Rn.q rfl (V.lenV U32 rfl) (gg 2 rfl ?_);refine Rn.jG D0 Y (G:=Unit) (λg=>[]) (λg=>[]) (λj g=>j ()) ?_ ?_
 ·rintro _ w3 D3 Y
  try dsimp only at Y
  refine gg 4 rfl ?_
  cases Y
  exact Rn.R1 func187 ⟨rfl,D3.pk []⟩
 intro j1 Y K1;refine gg 1 rfl ?_;refine Rn.lF D2 [0] (G:=Int) (λg=>[(5,.slice A0 (x0).length c0),(6,iv (x0.length:Int)),(7,iv g)]) (λg=>[_]) (λn g=>m_todelta_finite_L1 x0 j1 n g) fuel 0 sA (D2.pk [0]) Y ?_;clear Y;rintro m5 y4 w5 D5 Y N5;replace Y:m_todelta_finite_L1 x0 j1 (m5+1) y4=some r:=Y;rw [m_todelta_finite_L1] at Y;refine gg 5 rfl ?_;refine bD Y 5 1 (λh6 Y=>?_) (λh6 Y=>?_)
 ·obtain ⟨z7,e7,Y⟩:=bindE Y;refine Rn.ixH D5 0 rfl e7 rfl rfl rfl U32 O31 rfl rfl rfl rfl ?_;rintro b7 o7 vs7 ⟨rfl,_⟩ D7;refine Rn.q rfl (V.ldR0 V31 rfl (D7.get 1 rfl).2 rfl) (gg 5 rfl ?_);obtain ⟨p9,e9,Y⟩:=bindE Y
  refine Rn.c0 (cK func62) (m_num_Finite_sim (Z0:=All) e9  :) D7 λw9 _ D10=>?_
  refine Rn.q rfl (V.notB rfl) (gg 1 rfl ?_);refine bS Y 4 6 (λh11 Y=>?_) (λh11 Y=>?_)
  ·cases Y
   exact Rn.R1 func187 ⟨rfl,D10.pk []⟩
  exact N5 (W64 (y4+1)) _ _ sA (D10.pk [0]) Y
 exact K1 () _ _ (sb trivial) (D5.pk []) Y
theorem m_num_phasor_sim {x0:UInt64} {x1:UInt64} {r:(UInt64×UInt64)} (Y:m_num_phasor x0 x1=some r)  :
 Calls prog 215 #[u64v x0,u64v x1] w λx w'=>x=.returned (.complex .f64 (r.1).toNat (r.2).toNat)∧Hp Z0 No w w' []:=by
 have D0:=Hp.nil Z0 No w;have hc0:=Calm.nil;refine eg func215 7 ?_;obtain ⟨p1,e1,Y⟩:=bindE Y
 refine Rn.c0 (cK func119) (m_num_of_sim (Z0:=All) e1  :) D0 λw1 _ D2=>?_
 refine gg 1 rfl ?_;obtain ⟨p3,e3,Y⟩:=bindE Y
 refine Rn.c0 (cK func119) (m_num_of_sim (Z0:=All) e3  :) D2 λw3 _ D4=>?_
 refine Rn.q rfl (V.cplx (a:=p1) (b:=p3) rfl rfl) (gg 2 rfl ?_)
 cases Y
 exact Rn.R1 func215 ⟨rfl,D4.pk []⟩
theorem m_num_parts_sim {x0:(UInt64×UInt64)} {r:(UInt64×UInt64)} (Y:m_num_parts x0=some r)  :
 Calls prog 214 #[.complex .f64 (x0.1).toNat (x0.2).toNat] w λx w'=>x=.returned (.tuple #[u64v r.1,u64v r.2])∧Hp Z0 No w w' []:=by
 have D0:=Hp.nil Z0 No w;have hc0:=Calm.nil;refine eg func214 8 ?_;refine Rn.q rfl (V.real (a:=x0.1) (b:=x0.2) rfl) ?_;obtain ⟨p1,e1,Y⟩:=bindE Y
 refine Rn.c0 (cK func213) (m_num_bits_sim (Z0:=All) e1  :) D0 λw1 _ D2=>?_
 refine gg 1 rfl (Rn.q rfl (V.imag (a:=x0.1) (b:=x0.2) rfl) ?_);obtain ⟨p3,e3,Y⟩:=bindE Y
 refine Rn.c0 (cK func213) (m_num_bits_sim (Z0:=All) e3  :) D2 λw3 _ D4=>?_
 refine gg 3 rfl ?_
 cases Y
 exact Rn.R2 func214 ⟨rfl,D4.pk []⟩
theorem m_num_SubPhasor_sim {x0:UInt64} {x1:UInt64} {x2:UInt64} {x3:UInt64} {r:(UInt64×UInt64)} (Y:m_num_SubPhasor x0 x1 x2 x3=some r)  :
 Calls prog 188 #[u64v x0,u64v x1,u64v x2,u64v x3] w λx w'=>x=.returned (.tuple #[u64v r.1,u64v r.2])∧Hp Z0 No w w' []:=by
 have D0:=Hp.nil Z0 No w;have hc0:=Calm.nil;refine eg func188 9 ?_;obtain ⟨p1,e1,Y⟩:=bindE Y
 refine Rn.c0 (cK func215) (m_num_phasor_sim (Z0:=All) e1  :) D0 λw1 _ D2=>?_
 refine gg 2 rfl ?_;obtain ⟨p3,e3,Y⟩:=bindE Y
 refine Rn.c0 (cK func215) (m_num_phasor_sim (Z0:=All) e3  :) D2 λw3 _ D4=>?_
 refine Rn.cop rfl rfl rfl (.inr rfl) rfl rfl ?_;intro z5 y5 w5 hs5 ht5 hx5;have D6:=D4.ext hx5;obtain ⟨p7,e7,Y⟩:=bindE Y;replace e7:=(csame hs5 ht5).trans e7
 refine Rn.c0 (cK func214) (m_num_parts_sim (Z0:=All) e7  :) D6 λw7 _ D8=>?_
 refine gg 5 rfl ?_
 cases Y
 exact Rn.R2 func188 ⟨rfl,D8.pk []⟩
theorem m_fold_Level_sim {x0:T_api_Hist} {x1:T_api_Hist} {r:(T_api_Hist×T_api_Hist×Int)} (Y:m_fold_Level x0 x1=some r) (h0:T_api_Hist.rep.rel Z0 w cs0 x0) (h1:T_api_Hist.rep.rel Z0 w cs1 x1) :
 Calls prog 142 #[.agg cs0.toArray,.agg cs1.toArray] w λx w'=>∃ A_0_0 c_0_0 A_0_1 c_0_1 A_1_0 c_1_0 A_1_1 c_1_1,x=.returned (.tuple #[.agg [iv r.1.Scale,u64v r.1.Zero,iv r.1.Pos.Offset,.slice A_0_0 (r.1.Pos.Counts).length c_0_0,iv r.1.Neg.Offset,.slice A_0_1 (r.1.Neg.Counts).length c_0_1].toArray,.agg [iv r.2.1.Scale,u64v r.2.1.Zero,iv r.2.1.Pos.Offset,.slice A_1_0 (r.2.1.Pos.Counts).length c_1_0,iv r.2.1.Neg.Offset,.slice A_1_1 (r.2.1.Neg.Counts).length c_1_1].toArray,iv r.2.2])∧Hp Z0 No w w' [ownR 31 A_0_0 c_0_0 w64R r.1.Pos.Counts,ownR 31 A_0_1 c_0_1 w64R r.1.Neg.Counts,ownR 31 A_1_0 c_1_0 w64R r.2.1.Pos.Counts,ownR 31 A_1_1 c_1_1 w64R r.2.1.Neg.Counts]:=by
 have D0:=Hp.nil Z0 No w;have hc0:=Calm.nil;obtain ⟨Ar1,cr1,Ar3,cr3,rfl,fs1,fs3⟩:=T_api_Hist.relE h0;obtain ⟨D9,hc0⟩:=D0.kn hc0 fs1;obtain ⟨D10,hc0⟩:=D9.kn hc0 fs3;obtain ⟨Ar5,cr5,Ar7,cr7,rfl,fs5,fs7⟩:=T_api_Hist.relE h1;obtain ⟨D11,hc0⟩:=D10.kn hc0 fs5;obtain ⟨D12,hc0⟩:=D11.kn hc0 fs7;refine eg func142 2 ?_
 refine Rn.bx D12 λb13 w13 D15=>?_
 replace D15:=D15.nb
 refine Rn.bx D15 λb16 w16 D18=>?_
 replace D18:=D18.nb
 refine Rn.al D18 Tryz.zeroValue36 λb19 w19 D21=>?_
 replace D21:=D21.nb
 refine Rn.al D21 Tryz.zeroValue36 λb22 w22 D24=>?_
 replace D24:=D24.nb;refine gg 5 rfl (Rn.q rfl (V.ldBA [_,_,_,_,_,_] V36 O36 rfl (D24.get 4 rfl) rfl rfl) (Rn.q rfl (V.ldBA [_,_,_,_,_,_] V36 O36 rfl (D24.get 5 rfl) rfl rfl) (Rn.q rfl (V.bldA (cs:=[_,_,_,_,_,_,_,_,_,_,_,_]) _ ar238 (offs_range 2 6) rfl rfl) (gg 2 rfl ?_))));refine Rn.jF D24 [0,1,2,3,4,5,6,7] Y (G:=Unit) (λg=>[(2,pt b13 0),(3,pt b16 0),(4,pt b19 0),(5,pt b22 0)]) (λg=>[_,_,_,_,_,_,_,_]) (λj g=>j ()) ?_ ?_
 ·rintro _ w25 D25 Y
  try dsimp only at Y
  refine gg 3 rfl (Rn.q rfl (V.ldB V3 rfl (D25.get 4 rfl) rfl) (gg 1 rfl (Rn.q rfl (V.ldB V3 rfl (D25.get 5 rfl) rfl) (Rn.q rfl (V.mini rfl rfl) (gg 4 rfl (Rn.q rfl (V.ldBA [_,_,_,_,_,_] V36 O36 rfl (D25.get 4 rfl) rfl rfl) (gg 1 rfl (Rn.q rfl (V.ldB V3 rfl (D25.get 4 rfl) rfl) (gg 2 rfl ?_)))))))));obtain ⟨p26,e26,Y⟩:=bindE Y;refine Rn.cq (cK func78) (m_hist_Down_sim (Z0:=All) e26 (T_api_Hist.relA (D25.get 0 rfl) (D25.get 1 rfl)) :) ?_;rintro _ w26 ⟨A26_0_0,c26_0_0,A26_0_1,c26_0_1,rfl,Q26⟩;refine ⟨_,rfl,?_⟩;have D29:=D25.callF (flC (ownR_flat w64_flat _ _ _ _) (flC (ownR_flat w64_flat _ _ _ _) fl0)) Q26;replace D29:=D29.nq;refine gg 3 rfl (Rn.sn D29 6 O36 λw30 D31=>?_);refine gg 3 rfl (Rn.q rfl (V.ldBA [_,_,_,_,_,_] V36 O36 rfl (D31.get 5 rfl) rfl rfl) (gg 1 rfl (Rn.q rfl (V.ldB V3 rfl (D31.get 5 rfl) rfl) (gg 2 rfl ?_))));obtain ⟨p32,e32,Y⟩:=bindE Y;refine Rn.cq (cK func78) (m_hist_Down_sim (Z0:=All) e32 (T_api_Hist.relA (D31.get 2 rfl) (D31.get 3 rfl)) :) ?_;rintro _ w32 ⟨A32_0_0,c32_0_0,A32_0_1,c32_0_1,rfl,Q32⟩;refine ⟨_,rfl,?_⟩;have D35:=D31.callF (flC (ownR_flat w64_flat _ _ _ _) (flC (ownR_flat w64_flat _ _ _ _) fl0)) Q32;replace D35:=D35.nq;refine gg 3 rfl (Rn.sn D35 7 O36 λw36 D37=>?_);refine gg 2 rfl ?_;have D43:=(D37.cutF [4,5,8,9,10,11] [6,7] [0,1,2,3] rfl (by decide) ⟨λ_ h=>h,λ_ h=>h,λ_ h=>h,λ_ h=>h,trivial⟩).nf ([_,_,_,_,_,_,_,_,_,_]++[_,_,_,_,_,_]) rfl;refine Rn.drawF rfl D43 ?_;intro w44 hmo44 D44;refine RH.both 0 1 (by kernel_rfl) ?_ ?_
  ·refine RB.here λhS0=>RB.one 0 rfl rfl rfl rfl (V.ldBA [_,_,_,_,_,_] V36 O36 rfl (D44.get 0 rfl) rfl rfl) hS0 ?_
   refine RH.both 1 2 (by kernel_rfl) ?_ ?_
   ·refine RB.here λhS1=>RB.one 1 rfl rfl rfl rfl (V.ldBA [_,_,_,_,_,_] V36 O36 rfl (D44.get 1 rfl) rfl rfl) hS1 ?_
    refine RH.sn 2 D44 0 O36 λw51 D52=>?_
    refine ⟨D52.fr,?_⟩
    refine RH.sn 3 D52 1 O36 λw53 D54=>?_
    refine ⟨D54.fr,?_⟩;refine dq [4] ?_;refine RH.dn ?_;have D55:=hmo44.callAZ D54;have D56:=(D55.pk [0,1,2,3,4,5,10,11,12,13,14,15]).nq;refine Rn.retG3 func142 rfl (rvC rfl V36 O36 (D56.get 6 rfl) rfl) (rvC rfl V36 O36 (D56.get 7 rfl) rfl) (rvT rfl) ?_;obtain rfl:=someE Y;exact ⟨A26_0_0,c26_0_0,A26_0_1,c26_0_1,A32_0_0,c32_0_0,A32_0_1,c32_0_1,rfl,D56.pk [2,3,4,5]⟩
   refine RB.sn 2 D44 0 O36 λw57 D58=>?_
   refine ⟨D58.fr,?_⟩;refine RH.ho 1 rfl (V.ldBA [_,_,_,_,_,_] V36 O36 rfl (D58.get 1 rfl) rfl rfl) ?_
   refine RH.sn 3 D58 1 O36 λw59 D60=>?_
   refine ⟨D60.fr,?_⟩;refine dq [4] ?_;refine RH.dn ?_;have D61:=hmo44.callAZ D60;have D62:=(D61.pk [0,1,2,3,4,5,10,11,12,13,14,15]).nq;refine Rn.retG3 func142 rfl (rvC rfl V36 O36 (D62.get 6 rfl) rfl) (rvC rfl V36 O36 (D62.get 7 rfl) rfl) (rvT rfl) ?_;obtain rfl:=someE Y;exact ⟨A26_0_0,c26_0_0,A26_0_1,c26_0_1,A32_0_0,c32_0_0,A32_0_1,c32_0_1,rfl,D62.pk [2,3,4,5]⟩
  refine RB.here λhS1=>RB.one 1 rfl rfl rfl rfl (V.ldBA [_,_,_,_,_,_] V36 O36 rfl (D44.get 1 rfl) rfl rfl) hS1 ?_
  refine RH.ho 0 rfl (V.ldBA [_,_,_,_,_,_] V36 O36 rfl (D44.get 0 rfl) rfl rfl) ?_
  refine RH.sn 2 D44 0 O36 λw63 D64=>?_
  refine ⟨D64.fr,?_⟩
  refine RH.sn 3 D64 1 O36 λw65 D66=>?_
  refine ⟨D66.fr,?_⟩;refine dq [4] ?_;refine RH.dn ?_;have D67:=hmo44.callAZ D66;have D68:=(D67.pk [0,1,2,3,4,5,10,11,12,13,14,15]).nq;refine Rn.retG3 func142 rfl (rvC rfl V36 O36 (D68.get 6 rfl) rfl) (rvC rfl V36 O36 (D68.get 7 rfl) rfl) (rvT rfl) ?_;obtain rfl:=someE Y;exact ⟨A26_0_0,c26_0_0,A26_0_1,c26_0_1,A32_0_0,c32_0_0,A32_0_1,c32_0_1,rfl,D68.pk [2,3,4,5]⟩
 intro j1 Y K1;refine gg 1 rfl ?_;refine Rn.lF D24 [0,1,2,3,4,5,6,7] (G:=Int) (λg=>[(2,pt b13 0),(3,pt b16 0),(4,pt b19 0),(5,pt b22 0),(13,.agg [iv x0.Scale,u64v x0.Zero,iv x0.Pos.Offset,.slice Ar1 (x0.Pos.Counts).length cr1,iv x0.Neg.Offset,.slice Ar3 (x0.Neg.Counts).length cr3,iv x1.Scale,u64v x1.Zero,iv x1.Pos.Offset,.slice Ar5 (x1.Pos.Counts).length cr5,iv x1.Neg.Offset,.slice Ar7 (x1.Neg.Counts).length cr7].toArray),(14,iv g)]) (λg=>[_,_,_,_,_,_,_,_]) (λn g=>m_fold_Level_L1 x0 x1 j1 n g) fuel 0 sA (D24.pk [0,1,2,3,4,5,6,7]) Y ?_;clear Y;rintro m70 y69 w70 D70 Y N70;replace Y:m_fold_Level_L1 x0 x1 j1 (m70+1) y69=some r:=Y;rw [m_fold_Level_L1] at Y;refine gg 5 rfl ?_;refine bD Y 5 1 (λh71 Y=>?_) (λh71 Y=>?_)
 ·obtain ⟨z72,e72,Y⟩:=bindE Y;obtain ⟨A73,c73,D73,Q73⟩:=Hp.idx2 (λx:T_api_Hist=>x.Pos.Counts) e72 D70 0 2 rfl rfl;obtain ⟨A75,c75,D75,Q75⟩:=Hp.idx2 (λx:T_api_Hist=>x.Neg.Counts) e72 D73 1 3 rfl rfl;refine Rn.q rfl (V.arE (v:=.agg [iv z72.Scale,u64v z72.Zero,iv z72.Pos.Offset,.slice A73 (z72.Pos.Counts).length c73,iv z72.Neg.Offset,.slice A75 (z72.Neg.Counts).length c75].toArray) ar238 V36 rfl rfl (idx_bd e72 rfl) (by rcases Q73 with ⟨g1,g2,g3,g4⟩|⟨g1,g2,g3,g4⟩<;>rcases Q75 with ⟨k1,k2,k3,k4⟩|⟨k1,k2,k3,k4⟩<;>first|(simp only [g1,g2,g3,g4,k2,k3,k4];rfl)|(exfalso;omega))) (Rn.als rfl rfl rfl Tryz.zeroValue36 rfl O36 rfl rfl rfl rfl (by first|exact ones rfl|(simp [Value.oneCell'];done)) ?_);intro b77 w77 hb77 m77 e77;have D79:=(D75.addBox hb77 e77 m77).nb;refine gg 3 rfl (Rn.q rfl (V.ldBA [_,_,_,_,_,_] V36 O36 rfl (D79.get 10 rfl) rfl rfl) ?_);obtain ⟨p80,e80,Y⟩:=bindE Y
  refine Rn.c0 (cK func64) (m_hist_Check_sim (Z0:=All) e80 (T_api_Hist.relA (D79.get 8 rfl) (D79.get 9 rfl)) :) D79 λw80 _ D81=>?_
  replace D81:=D81.nq;refine gg 7 rfl ?_;refine bD Y 2 6 (λh82 Y=>?_) (λh82 Y=>?_)
  ·refine Rn.q rfl (V.bldS (cs:=[_,_,_,_,_,_]) st36 rfl rfl) (Rn.q rfl (V.bldS (cs:=[_,_,_,_,_,_]) st36 rfl rfl) (gg 1 rfl (Rn.sn D81 6 O36 λw83 D84=>?_)))
   refine Rn.sn D84 7 O36 λw85 D86=>?_
   refine gg 2 rfl ?_;have D87:=D86.addNil 31 w64R;have D89:=D87.addNil 31 w64R;have D91:=D89.addNil 31 w64R;have D93:=D91.addNil 31 w64R;refine Rn.retG3 func142 rfl (rvC rfl V36 O36 (D86.get 6 rfl) rfl) (rvC rfl V36 O36 (D86.get 7 rfl) rfl) (rvT rfl) ?_;obtain rfl:=someE Y;exact ⟨none,0,none,0,none,0,none,0,rfl,D93.pk [11,12,13,14]⟩
  exact N70 (W64 (y69+1)) _ _ sA (D81.pk [0,1,2,3,4,5,6,7]) Y
 exact K1 () _ _ sA (D70.pk [0,1,2,3,4,5,6,7]) Y
theorem m_hist_At_sim {x0:T_api_Side} {x1:Int} {r:UInt64} (Y:m_hist_At x0 x1=some r) (h0:T_api_Side.rep.rel Z0 w cs0 x0) :
 Calls prog 236 #[.agg cs0.toArray,iv x1] w λx w'=>x=.returned (u64v r)∧Hp Z0 No w w' []:=by
 have D0:=Hp.nil Z0 No w;have hc0:=Calm.nil;obtain ⟨Ar1,cr1,rfl,fs1⟩:=T_api_Side.relE h0;obtain ⟨D3,hc0⟩:=D0.kn hc0 fs1;refine eg func236 2 ?_
 refine Rn.bx D3 λb4 w4 D6=>?_
 replace D6:=D6.nb;refine gg 7 rfl (Rn.q rfl (V.ldB V3 rfl (D6.get 1 rfl) rfl) (gg 2 rfl ?_));refine Rn.jQ D6 [0,1] Y (G:=Bool) [] (λg=>[(1,iv x1),(2,pt b4 0),(21,.bool (g))]) (λg=>[_,_]) (λj g=>j g) ?_ ?_
 ·rintro y7 w8 D8 Y
  try dsimp only at Y
  refine gg 1 rfl ?_;refine bS Y 4 4 (λh9 Y=>?_) (λh9 Y=>?_)
  ·cases Y
   exact Rn.R1 func236 ⟨rfl,D8.pk []⟩
  refine Rn.q rfl (V.ldB V32 rfl (D8.get 1 rfl) rfl) (gg 2 rfl (Rn.q rfl (V.ldB V3 rfl (D8.get 1 rfl) rfl) (gg 1 rfl ?_)));obtain ⟨z10,e10,Y⟩:=bindE Y;refine Rn.ixH D8 0 rfl e10 rfl rfl rfl U32 O31 rfl rfl rfl rfl ?_;rintro b10 o10 vs10 ⟨rfl,_⟩ D10;refine Rn.q rfl (V.ldR0 V31 rfl (D10.get 2 rfl).2 rfl) (gg 2 rfl ?_)
  cases Y
  exact Rn.R1 func236 ⟨rfl,D10.pk []⟩
 intro j1 Y K1;refine askD Y (Rn.partD (t:=9) rfl) (λh12 Y=>?_) (λh12 Y=>?_)
 ·refine gg 12 rfl ?_;exact K1 true _ _ sA (D6.pk [0,1]) Y
 refine gg 1 rfl (Rn.q rfl (V.cv64 U3 U31 rfl) (gg 1 rfl (Rn.q rfl (V.ldB V3 rfl (D6.get 1 rfl) rfl) (Rn.q rfl (V.cv64 U3 U31 rfl) (Rn.q rfl (V.ari64 (a:=toU64 x1) (b:=toU64 x0.Offset) rfl rfl _ rfl (toU64_sub _ _)) (gg 1 rfl (Rn.q rfl (V.ldB V32 rfl (D6.get 1 rfl) rfl) (Rn.q rfl (V.lenV U32 rfl) (Rn.q rfl (V.cv64 U3 U31 rfl) (Rn.q rfl (V.geq rfl rfl) (gg 1 rfl ?_)))))))))));exact K1 (decide ((((toU64 x1)-(toU64 x0.Offset)).toNat:Int)≥((toU64 (x0.Counts.length:Int)).toNat:Int))) _ _ sA (D6.pk [0,1]) Y
theorem m_hist_Trim_sim {x0:T_api_Side} {r:T_api_Side} (Y:m_hist_Trim x0=some r) (h0:T_api_Side.rep.rel Z0 w cs0 x0) :
 Calls prog 237 #[.agg cs0.toArray] w λx w'=>∃ A_0_0 c_0_0,x=.returned (.agg [iv r.Offset,.slice A_0_0 (r.Counts).length c_0_0].toArray)∧Hp Z0 No w w' [ownR 31 A_0_0 c_0_0 w64R r.Counts]:=by
 have D0:=Hp.nil Z0 No w;have hc0:=Calm.nil;obtain ⟨Ar1,cr1,rfl,fs1⟩:=T_api_Side.relE h0;obtain ⟨D3,hc0⟩:=D0.kn hc0 fs1;refine eg func237 2 ?_
 refine Rn.bx D3 λb4 w4 D6=>?_
 replace D6:=D6.nb
 refine Rn.al D6 Tryz.zeroValue34 λb7 w7 D9=>?_
 replace D9:=D9.nb;refine gg 2 rfl ?_;refine Rn.drawP rfl D9 ?_;intro w10 D10;refine dq [0] ?_;refine RH.tp 1 rfl (V.ldB V32 rfl (D10.get 1 rfl) rfl) ?_;refine RH.tp 2 rfl (V.lenV U32 rfl) ?_;refine dq [3,4] ?_;refine RH.dn ?_;refine gg 1 rfl ?_;refine Rn.jF D10 [0,1,2] Y (G:=Int) (λg=>[(1,pt b4 0),(2,pt b7 0),(3,iv g),(4,iv (x0.Counts.length:Int))]) (λg=>[_,_,_]) (λj g=>j g) ?_ ?_
 ·rintro y11 w12 D12 Y
  try dsimp only at Y
  refine gg 1 rfl ?_;refine Rn.jF D12 [0,1,2] Y (G:=Int) (λg=>[(1,pt b4 0),(2,pt b7 0),(3,iv y11),(4,iv g)]) (λg=>[_,_,_]) (λj g=>j g) ?_ ?_
  ·rintro y13 w14 D14 Y
   try dsimp only at Y
   refine gg 7 rfl ?_;refine bD Y 2 2 (λh15 Y=>?_) (λh15 Y=>?_)
   ·refine Rn.q rfl (V.bldS (cs:=[_,_]) st34 rfl rfl) (Rn.sn D14 2 O34 λw16 D17=>?_);refine gg 1 rfl ?_;have D18:=D17.addNil 31 w64R;refine Rn.retG1 func237 rfl (rvC rfl V34 O34 (D17.get 2 rfl) rfl) ?_;obtain rfl:=someE Y;exact ⟨none,0,rfl,D18.pk [3]⟩
   refine Rn.drawK 11 rfl D14 (by kernel_rfl) ?_;intro w20 D20;refine dq [0] ?_;refine RH.tk 1 rfl (λw' hDr=>V.ldB V3 rfl ((D20.ext hDr).get 1 rfl) rfl) ?_;refine dq [2,3,4] ?_;refine RH.tk 5 rfl (λw' hDr=>V.ldB V32 rfl ((D20.ext hDr).get 1 rfl) rfl) ?_;refine dq [6,7] ?_;obtain ⟨z21,e21,Y⟩:=bindE Y;refine RH.cutH 8 (by kernel_rfl) D20 0 rfl e21 rfl rfl rfl U32 O31 rfl rfl rfl rfl rfl ?_;intro A21 c21 D21;obtain ⟨p23,e23,Y⟩:=bindE Y;refine RH.cq (cK func180) 9 (m_slices_Clone_uint64_uint64_sim (Z0:=All) e23 (slR_all (D21.get 3 rfl)) :) ?_;rintro _ w23 ⟨A23_0_0,c23_0_0,rfl,Q23⟩;refine ⟨_,rfl,((Ext.refl _).trans Q23.fr),?_⟩;have D25:=D21.callF (flC (ownR_flat w64_flat _ _ _ _) fl0) Q23;refine RH.ho 10 rfl (V.bldS (cs:=[_,_]) st34 rfl rfl) ?_;refine RG.tailK (by kernel_rfl) ?_
   refine RH.sn 11 D25 2 O34 λw26 D27=>?_
   refine ⟨trivial,?_⟩;refine RH.dn ?_;refine Rn.retG1 func237 rfl (rvC rfl V34 O34 (D27.get 2 rfl) rfl) ?_;obtain rfl:=someE Y;exact ⟨A23_0_0,c23_0_0,rfl,D27.pk [4]⟩
  intro j2 Y K2;refine gg 1 rfl ?_;refine Rn.lF D12 [0,1,2] (G:=Int) (λg=>[(1,pt b4 0),(2,pt b7 0),(3,iv y11),(4,iv g)]) (λg=>[_,_,_]) (λn g=>m_hist_Trim_L1 x0 y11 j2 n g) fuel (x0.Counts.length:Int) sA (D12.pk [0,1,2]) Y ?_;clear Y;rintro m29 y28 w29 D29 Y N29;replace Y:m_hist_Trim_L1 x0 y11 j2 (m29+1) y28=some r:=Y;rw [m_hist_Trim_L1] at Y;refine gg 7 rfl ?_;refine Rn.jQ D29 [0,1,2] Y (G:=Bool) [] (λg=>[(1,pt b4 0),(2,pt b7 0),(3,iv y11),(4,iv y28),(32,.bool (g))]) (λg=>[_,_,_]) (λj g=>j g) ?_ ?_
  ·rintro y30 w31 D31 Y
   try dsimp only at Y
   refine gg 1 rfl ?_;refine bS Y 8 1 (λh32 Y=>?_) (λh32 Y=>?_)
   ·exact N29 (W64 (y28-1)) _ _ sA (D31.pk [0,1,2]) Y
   exact K2 y28 _ _ sA (D31.pk [0,1,2]) Y
  intro j3 Y K3;refine askD Y (Rn.partD (t:=24) rfl) (λh33 Y=>?_) (λh33 Y=>?_)
  ·refine gg 1 rfl (Rn.q rfl (V.ldB V32 rfl (D29.get 1 rfl) rfl) (gg 2 rfl ?_));obtain ⟨z34,e34,Y⟩:=bindE Y;refine Rn.ixH D29 0 rfl e34 rfl rfl rfl U32 O31 rfl rfl rfl rfl ?_;rintro b34 o34 vs34 ⟨rfl,_⟩ D34;refine Rn.q rfl (V.ldR0 V31 rfl (D34.get 3 rfl).2 rfl) (Rn.q rfl (V.eql rfl rfl) (gg 1 rfl ?_));exact K3 (decide (((z34).toNat:Int)=0)) _ _ sA (D34.pk [0,1,2]) Y
  refine gg 8 rfl ?_;exact K3 false _ _ sA (D29.pk [0,1,2]) Y
 intro j1 Y K1;refine gg 1 rfl ?_;refine Rn.lF D10 [0,1,2] (G:=Int) (λg=>[(1,pt b4 0),(2,pt b7 0),(3,iv g),(4,iv (x0.Counts.length:Int))]) (λg=>[_,_,_]) (λn g=>m_hist_Trim_L2 x0 j1 n g) fuel 0 sA (D10.pk [0,1,2]) Y ?_;clear Y;rintro m37 y36 w37 D37 Y N37;replace Y:m_hist_Trim_L2 x0 j1 (m37+1) y36=some r:=Y;rw [m_hist_Trim_L2] at Y;refine gg 7 rfl ?_;refine Rn.jQ D37 [0,1,2] Y (G:=Bool) [] (λg=>[(1,pt b4 0),(2,pt b7 0),(3,iv y36),(4,iv (x0.Counts.length:Int)),(18,.bool (g))]) (λg=>[_,_,_]) (λj g=>j g) ?_ ?_
 ·rintro y38 w39 D39 Y
  try dsimp only at Y
  refine gg 1 rfl ?_;refine bS Y 8 1 (λh40 Y=>?_) (λh40 Y=>?_)
  ·exact N37 (W64 (y36+1)) _ _ sA (D39.pk [0,1,2]) Y
  exact K1 y36 _ _ sA (D39.pk [0,1,2]) Y
 intro j4 Y K4;refine askD Y (Rn.partD (t:=11) rfl) (λh41 Y=>?_) (λh41 Y=>?_)
 ·refine gg 1 rfl (Rn.q rfl (V.ldB V32 rfl (D37.get 1 rfl) rfl) (gg 1 rfl ?_));obtain ⟨z42,e42,Y⟩:=bindE Y;refine Rn.ixH D37 0 rfl e42 rfl rfl rfl U32 O31 rfl rfl rfl rfl ?_;rintro b42 o42 vs42 ⟨rfl,_⟩ D42;refine Rn.q rfl (V.ldR0 V31 rfl (D42.get 3 rfl).2 rfl) (Rn.q rfl (V.eql rfl rfl) (gg 1 rfl ?_));exact K4 (decide (((z42).toNat:Int)=0)) _ _ sA (D42.pk [0,1,2]) Y
 refine gg 7 rfl ?_;exact K4 false _ _ sA (D37.pk [0,1,2]) Y
theorem m_fold_left_sim {x0:T_api_Side} {x1:T_api_Side} {r:(T_api_Side×Bool)} (Y:m_fold_left x0 x1=some r) (h0:T_api_Side.rep.rel Z0 w cs0 x0) (h1:T_api_Side.rep.rel Z0 w cs1 x1) :
 Calls prog 216 #[.agg cs0.toArray,.agg cs1.toArray] w λx w'=>∃ A_0_0 c_0_0,x=.returned (.tuple #[.agg [iv r.1.Offset,.slice A_0_0 (r.1.Counts).length c_0_0].toArray,.bool (r.2)])∧Hp Z0 No w w' [ownR 31 A_0_0 c_0_0 w64R r.1.Counts]:=by
 have D0:=Hp.nil Z0 No w;have hc0:=Calm.nil;obtain ⟨Ar1,cr1,rfl,fs1⟩:=T_api_Side.relE h0;obtain ⟨D5,hc0⟩:=D0.kn hc0 fs1;obtain ⟨Ar3,cr3,rfl,fs3⟩:=T_api_Side.relE h1;obtain ⟨D6,hc0⟩:=D5.kn hc0 fs3;refine eg func216 2 ?_
 refine Rn.bx D6 λb7 w7 D9=>?_
 replace D9:=D9.nb
 refine Rn.bx D9 λb10 w10 D12=>?_
 replace D12:=D12.nb
 refine Rn.al D12 Tryz.zeroValue34 λb13 w13 D15=>?_
 replace D15:=D15.nb;refine gg 6 rfl (Rn.q rfl (V.ldB V32 rfl (D15.get 3 rfl) rfl) (Rn.q rfl (V.lenV U32 rfl) (gg 2 rfl ?_)));refine Rn.jF D15 [0,1,2,3,4] Y (G:=Unit) (λg=>[(2,pt b7 0),(3,pt b10 0),(4,pt b13 0)]) (λg=>[_,_,_,_,_]) (λj g=>j ()) ?_ ?_
 ·rintro _ w16 D16 Y
  try dsimp only at Y
  refine gg 3 rfl (Rn.q rfl (V.ldB V3 rfl (D16.get 2 rfl) rfl) (Rn.q rfl (V.bldS (cs:=[_,_]) st34 rfl rfl) (Rn.als rfl rfl rfl Tryz.zeroValue34 rfl O34 rfl rfl rfl rfl (by first|exact ones rfl|(simp [Value.oneCell'];done)) ?_)));intro b17 w17 hb17 m17 e17;have D19:=(D16.addBox hb17 e17 m17).nb;refine gg 5 rfl (Rn.q rfl (V.ldB V32 rfl (D19.get 2 rfl) rfl) (Rn.q rfl (V.lenV U32 rfl) (gg 2 rfl ?_)));refine Rn.jF D19 [0,1,2,3,4,99,99] Y (G:=T_api_Side×Option Addr×Nat) (λg=>[(4,pt b13 0),(8,pt b17 0)]) (λg=>[_,_,_,_,_,ownR 31 (g.2.1) (g.2.2) w64R (g.1).Counts,boxR b17 34 [iv (g.1).Offset,.slice (g.2.1) ((g.1).Counts).length (g.2.2)]]) (λj g=>j g.1) ?_ ?_
  ·rintro ⟨y20,A21,c21⟩ w23 D23 Y
   try dsimp only at Y
   refine gg 2 rfl (Rn.q rfl (V.ldBA [_,_] V34 O34 rfl (D23.get 6 rfl) rfl rfl) ?_);obtain ⟨p24,e24,Y⟩:=bindE Y
   refine Rn.c2 (cK func237) (m_hist_Trim_sim (Z0:=All) e24 (T_api_Side.relA (own_slR (D23.get 5 rfl))) :) λA24_0_0 c24_0_0 w24 Q24=>?_
   have D26:=D23.callF (flC (ownR_flat w64_flat _ _ _ _) fl0) Q24
   refine Rn.sn D26 4 O34 λw27 D28=>?_
   refine gg 2 rfl ?_;refine Rn.retG2 func216 rfl (rvC rfl V34 O34 (D28.get 4 rfl) rfl) (rvT rfl) ?_;obtain rfl:=someE Y;exact ⟨A24_0_0,c24_0_0,rfl,D28.pk [7]⟩
  intro j2 Y K2;refine gg 1 rfl ?_;have D33:=D19.addNil 31 w64R;refine Rn.lF D33 [0,1,2,3,4,99,99] (G:=Int×T_api_Side×Option Addr×Nat) (λg=>[(2,pt b7 0),(3,pt b10 0),(4,pt b13 0),(8,pt b17 0),(33,.slice Ar1 (x0.Counts).length cr1),(34,iv (x0.Counts.length:Int)),(35,iv (g.1))]) (λg=>[_,_,_,_,_,ownR 31 (g.2.2.1) (g.2.2.2) w64R (g.2.1).Counts,boxR b17 34 [iv (g.2.1).Offset,.slice (g.2.2.1) ((g.2.1).Counts).length (g.2.2.2)]]) (λn g=>m_fold_left_L1 x0 x1 j2 n g.1 g.2.1) fuel (0,(⟨x0.Offset,([]:List UInt64)⟩:T_api_Side),none,0) sA (D33.pk [0,1,2,3,4,6,5]) Y ?_;clear Y;rintro m35 ⟨y29,y30,A31,c31⟩ w35 D35 Y N35;replace Y:m_fold_left_L1 x0 x1 j2 (m35+1) y29 y30=some r:=Y;rw [m_fold_left_L1] at Y;refine gg 5 rfl ?_;refine bD Y 6 1 (λh36 Y=>?_) (λh36 Y=>?_)
  ·obtain ⟨z37,e37,Y⟩:=bindE Y;refine Rn.ixH D35 0 rfl e37 rfl rfl rfl U32 O31 rfl rfl rfl rfl ?_;rintro b37 o37 vs37 ⟨rfl,_⟩ D37;refine Rn.q rfl (V.ldR0 V31 rfl (D37.get 7 rfl).2 rfl) (gg 3 rfl ?_);refine Rn.drawK 11 rfl D37 (by kernel_rfl) ?_;intro w39 D39;refine dq [0] ?_;refine RH.tk 1 rfl (λw' hDr=>V.ldB V32 rfl ((D39.ext hDr).get 6 rfl) rfl) ?_;refine dq [2] ?_;refine RH.tk 3 rfl (λw' hDr=>V.ldBA [_,_] V34 O34 rfl ((D39.ext hDr).get 3 rfl) rfl rfl) ?_;refine dq [4] ?_;refine RH.tk 5 rfl (λw' hDr=>V.ldB V3 rfl ((D39.ext hDr).get 2 rfl) rfl) ?_;refine dq [6,7] ?_;obtain ⟨p40,e40,Y⟩:=bindE Y;refine RH.cq (cK func236) 8 (m_hist_At_sim (Z0:=All) e40 (T_api_Side.relA (D39.get 1 rfl)) :) ?_;rintro _ w40 ⟨rfl,Q40⟩;refine ⟨_,rfl,((Ext.refl _).trans Q40.fr),?_⟩;have D41:=D39.call0 Q40;refine RH.ho 9 rfl (V.ari64 (a:=z37) (b:=p40) rfl rfl _ rfl (toU64_sub _ _)) ?_;refine RH.bslS 10 (by kernel_rfl) rfl rfl rfl U32 el31 rfl rfl rfl rfl (by first|exact szs rfl|(simp [Value.cells];done)) (by decide) ?_;intro b42 w42 hb42 m42 e42;have D43:=D41.addLit (rep:=w64R) (xs:=([z37-p40]:List UInt64)) (vss:=[[u64v (z37-p40)]]) hb42 e42 m42 rfl rfl rfl ((rels_cons (λ_ _=>⟨rfl,trivial⟩) rels0));refine ⟨(((Ext.refl _).trans Q40.fr).trans e42),?_⟩;refine RG.tailK (by kernel_rfl) ?_;obtain ⟨z45,e45,Y⟩:=bindE Y;refine RH.appH 11 (by kernel_rfl) D43 5 rfl e45 rfl rfl rfl U32 el31 rfl rfl rfl rfl (D43.srcO 8 rfl) ?_;intro A45 c45 w45 D45;replace D45:=D45.nq;refine ⟨trivial,?_⟩;refine dq [12] ?_
   refine RH.sn 13 D45 6 O32 λw47 D48=>?_
   refine ⟨trivial,?_⟩;refine RH.dn ?_;refine gg 5 rfl ?_;exact N35 ((W64 (y29+1)),(⟨y30.Offset,z45⟩:T_api_Side),A45,c45) _ _ sA (D48.pk [0,1,2,3,4,5,6]) Y
  exact K2 (y30,A31,c31) _ _ sA (D35.pk [0,1,2,3,4,5,6]) Y
 intro j1 Y K1;refine gg 1 rfl ?_;refine Rn.lF D15 [0,1,2,3,4] (G:=Int) (λg=>[(2,pt b7 0),(3,pt b10 0),(4,pt b13 0),(12,.slice Ar3 (x1.Counts).length cr3),(13,iv (x1.Counts.length:Int)),(14,iv g)]) (λg=>[_,_,_,_,_]) (λn g=>m_fold_left_L2 x0 x1 j1 n g) fuel 0 sA (D15.pk [0,1,2,3,4]) Y ?_;clear Y;rintro m50 y49 w50 D50 Y N50;replace Y:m_fold_left_L2 x0 x1 j1 (m50+1) y49=some r:=Y;rw [m_fold_left_L2] at Y;refine gg 5 rfl ?_;refine bD Y 6 1 (λh51 Y=>?_) (λh51 Y=>?_)
 ·obtain ⟨z52,e52,Y⟩:=bindE Y;refine Rn.ixH D50 1 rfl e52 rfl rfl rfl U32 O31 rfl rfl rfl rfl ?_;rintro b52 o52 vs52 ⟨rfl,_⟩ D52;refine Rn.q rfl (V.ldR0 V31 rfl (D52.get 5 rfl).2 rfl) (gg 6 rfl (Rn.q rfl (V.ldBA [_,_] V34 O34 rfl (D52.get 2 rfl) rfl rfl) (gg 1 rfl (Rn.q rfl (V.ldB V3 rfl (D52.get 3 rfl) rfl) (gg 2 rfl ?_)))));obtain ⟨p54,e54,Y⟩:=bindE Y
  refine Rn.c0 (cK func236) (m_hist_At_sim (Z0:=All) e54 (T_api_Side.relA (D52.get 0 rfl)) :) D52 λw54 _ D55=>?_
  refine Rn.q rfl (V.gtr rfl rfl) (gg 1 rfl ?_);refine bD Y 2 6 (λh56 Y=>?_) (λh56 Y=>?_)
  ·refine Rn.q rfl (V.bldS (cs:=[_,_]) st34 rfl rfl) (Rn.sn D55 4 O34 λw57 D58=>?_);refine gg 2 rfl ?_;have D59:=D58.addNil 31 w64R;refine Rn.retG2 func216 rfl (rvC rfl V34 O34 (D58.get 4 rfl) rfl) (rvT rfl) ?_;obtain rfl:=someE Y;exact ⟨none,0,rfl,D59.pk [6]⟩
  exact N50 (W64 (y49+1)) _ _ sA (D55.pk [0,1,2,3,4]) Y
 exact K1 () _ _ sA (D50.pk [0,1,2,3,4]) Y
theorem m_fold_Sub_sim {x0:T_api_Hist} {x1:T_api_Hist} {r:(T_api_Hist×Int)} (Y:m_fold_Sub x0 x1=some r) (h0:T_api_Hist.rep.rel Z0 w cs0 x0) (h1:T_api_Hist.rep.rel Z0 w cs1 x1) :
 Calls prog 189 #[.agg cs0.toArray,.agg cs1.toArray] w λx w'=>∃ A_0_0 c_0_0 A_0_1 c_0_1,x=.returned (.tuple #[.agg [iv r.1.Scale,u64v r.1.Zero,iv r.1.Pos.Offset,.slice A_0_0 (r.1.Pos.Counts).length c_0_0,iv r.1.Neg.Offset,.slice A_0_1 (r.1.Neg.Counts).length c_0_1].toArray,iv r.2])∧Hp Z0 No w w' [ownR 31 A_0_0 c_0_0 w64R r.1.Pos.Counts,ownR 31 A_0_1 c_0_1 w64R r.1.Neg.Counts]:=by
 have D0:=Hp.nil Z0 No w;have hc0:=Calm.nil;obtain ⟨Ar1,cr1,Ar3,cr3,rfl,fs1,fs3⟩:=T_api_Hist.relE h0;obtain ⟨D9,hc0⟩:=D0.kn hc0 fs1;obtain ⟨D10,hc0⟩:=D9.kn hc0 fs3;obtain ⟨Ar5,cr5,Ar7,cr7,rfl,fs5,fs7⟩:=T_api_Hist.relE h1;obtain ⟨D11,hc0⟩:=D10.kn hc0 fs5;obtain ⟨D12,hc0⟩:=D11.kn hc0 fs7;refine eg func189 2 ?_
 refine Rn.bx D12 λb13 w13 D15=>?_
 replace D15:=D15.nb
 refine Rn.bx D15 λb16 w16 D18=>?_
 replace D18:=D18.nb
 refine Rn.al D18 Tryz.zeroValue36 λb19 w19 D21=>?_
 replace D21:=D21.nb;refine gg 4 rfl (Rn.q rfl (V.ldBA [_,_,_,_,_,_] V36 O36 rfl (D21.get 4 rfl) rfl rfl) (Rn.q rfl (V.ldBA [_,_,_,_,_,_] V36 O36 rfl (D21.get 5 rfl) rfl rfl) ?_));obtain ⟨p22,e22,Y⟩:=bindE Y;refine Rn.cq (cK func142) (m_fold_Level_sim (Z0:=All) e22 (T_api_Hist.relA (D21.get 0 rfl) (D21.get 1 rfl)) (T_api_Hist.relA (D21.get 2 rfl) (D21.get 3 rfl)) :) ?_;rintro _ w22 ⟨A22_0_0,c22_0_0,A22_0_1,c22_0_1,A22_1_0,c22_1_0,A22_1_1,c22_1_1,rfl,Q22⟩;refine ⟨_,rfl,?_⟩;have D27:=D21.callF (flC (ownR_flat w64_flat _ _ _ _) (flC (ownR_flat w64_flat _ _ _ _) (flC (ownR_flat w64_flat _ _ _ _) (flC (ownR_flat w64_flat _ _ _ _) fl0)))) Q22;replace D27:=D27.nq;refine gg 4 rfl (Rn.al D27 Tryz.zeroValue36 λb28 w28 D30=>?_);replace D30:=D30.nb
 refine Rn.al D30 Tryz.zeroValue36 λb31 w31 D33=>?_
 replace D33:=D33.nb
 refine Rn.sn D33 11 O36 λw34 D35=>?_
 refine Rn.sn D35 12 O36 λw36 D37=>?_
 refine gg 8 rfl ?_;refine bD Y 2 4 (λh38 Y=>?_) (λh38 Y=>?_)
 ·refine Rn.q rfl (V.bldS (cs:=[_,_,_,_,_,_]) st36 rfl rfl) (gg 1 rfl (Rn.sn D37 6 O36 λw39 D40=>?_));refine gg 2 rfl ?_;have D41:=D40.addNil 31 w64R;have D43:=D41.addNil 31 w64R;refine Rn.retG2 func189 rfl (rvC rfl V36 O36 (D40.get 6 rfl) rfl) (rvT rfl) ?_;obtain rfl:=someE Y;exact ⟨none,0,none,0,rfl,D43.pk [13,14]⟩
 refine Rn.q rfl (V.ldBA [_,_] V34 O34 rfl (D37.get 11 rfl) rfl rfl) (gg 1 rfl (Rn.q rfl (V.ldBA [_,_] V34 O34 rfl (D37.get 12 rfl) rfl rfl) ?_));obtain ⟨p45,e45,Y⟩:=bindE Y
 refine Rn.c2 (cK func216) (m_fold_left_sim (Z0:=All) e45 (T_api_Side.relA (own_slR (D37.get 7 rfl))) (T_api_Side.relA (own_slR (D37.get 9 rfl))) :) λA45_0_0 c45_0_0 w45 Q45=>?_
 have D47:=D37.callF (flC (ownR_flat w64_flat _ _ _ _) fl0) Q45;replace D47:=D47.nq;refine gg 3 rfl (Rn.als rfl rfl rfl Tryz.zeroValue34 rfl O34 rfl rfl rfl rfl (by first|exact ones rfl|(simp [Value.oneCell'];done)) ?_);intro b48 w48 hb48 m48 e48;have D50:=(D47.addBox hb48 e48 m48).nb;refine gg 5 rfl (Rn.q rfl (V.ldBA [_,_] V34 O34 rfl (D50.get 11 rfl) rfl rfl) (gg 1 rfl (Rn.q rfl (V.ldBA [_,_] V34 O34 rfl (D50.get 12 rfl) rfl rfl) ?_)));obtain ⟨p51,e51,Y⟩:=bindE Y
 refine Rn.c2 (cK func216) (m_fold_left_sim (Z0:=All) e51 (T_api_Side.relA (own_slR (D50.get 8 rfl))) (T_api_Side.relA (own_slR (D50.get 10 rfl))) :) λA51_0_0 c51_0_0 w51 Q51=>?_
 have D53:=D50.callF (flC (ownR_flat w64_flat _ _ _ _) fl0) Q51;replace D53:=D53.nq;refine gg 3 rfl (Rn.als rfl rfl rfl Tryz.zeroValue34 rfl O34 rfl rfl rfl rfl (by first|exact ones rfl|(simp [Value.oneCell'];done)) ?_);intro b54 w54 hb54 m54 e54;have D56:=(D53.addBox hb54 e54 m54).nb;refine gg 6 rfl (Rn.q rfl (V.ldB V31 rfl (D56.get 12 rfl) rfl) (gg 1 rfl (Rn.q rfl (V.ldB V31 rfl (D56.get 11 rfl) rfl) (Rn.q rfl (V.gtr rfl rfl) (gg 1 rfl ?_)))));refine Rn.cutR [9,10,11,12] [(4,pt b19 0),(6,pt b28 0),(7,pt b31 0),(9,pt b48 0),(11,pt b54 0),(12,.bool (p51.2)),(48,.bool (decide ((((p22.2.1.Zero).toNat:Int)>((p22.1.Zero).toNat:Int))∨((!p45.2)=true))))] (λK57=>?_) ?_
 ·refine Rn.partD (t:=45) rfl (λh58=>?_) (λh58=>?_)
  ·refine gg 3 rfl ?_;exact K57 _ sA
  refine gg 1 rfl (Rn.q rfl (V.notB rfl) (gg 1 rfl ?_));exact K57 _ sA
 refine gg 1 rfl ?_;refine Rn.cutR [] [(4,pt b19 0),(6,pt b28 0),(7,pt b31 0),(9,pt b48 0),(11,pt b54 0),(52,.bool (decide (((((p22.2.1.Zero).toNat:Int)>((p22.1.Zero).toNat:Int))∨((!p45.2)=true))∨((!p51.2)=true))))] (λK59=>?_) ?_
 ·refine Rn.partD (t:=49) rfl (λh60=>?_) (λh60=>?_)
  ·refine gg 3 rfl ?_;exact K59 _ sA
  refine gg 1 rfl (Rn.q rfl (V.notB rfl) (gg 1 rfl ?_));exact K59 _ sA
 refine gg 1 rfl ?_;refine bD Y 2 4 (λh61 Y=>?_) (λh61 Y=>?_)
 ·refine Rn.q rfl (V.bldS (cs:=[_,_,_,_,_,_]) st36 rfl rfl) (Rn.sn D56 6 O36 λw62 D63=>?_);refine gg 2 rfl ?_;have D64:=D63.addNil 31 w64R;have D66:=D64.addNil 31 w64R;refine Rn.retG2 func189 rfl (rvC rfl V36 O36 (D63.get 6 rfl) rfl) (rvT rfl) ?_;obtain rfl:=someE Y;exact ⟨none,0,none,0,rfl,D66.pk [17,18]⟩
 refine Rn.q rfl (V.ldB V3 rfl (D56.get 11 rfl) rfl) (gg 1 rfl (Rn.q rfl (V.ldB V31 rfl (D56.get 11 rfl) rfl) (gg 1 rfl (Rn.q rfl (V.ldB V31 rfl (D56.get 12 rfl) rfl) (Rn.q rfl (V.ari64 (a:=p22.1.Zero) (b:=p22.2.1.Zero) rfl rfl _ rfl (toU64_sub _ _)) (Rn.q rfl (V.ldBA [_,_] V34 O34 rfl (D56.get 14 rfl) rfl rfl) (Rn.q rfl (V.ldBA [_,_] V34 O34 rfl (D56.get 16 rfl) rfl rfl) (Rn.q rfl (V.bldS (cs:=[_,_,_,_,_,_]) st36 rfl rfl) (Rn.sn D56 6 O36 λw68 D69=>?_)))))))));refine gg 2 rfl ?_;refine Rn.retG2 func189 rfl (rvC rfl V36 O36 (D69.get 6 rfl) rfl) (rvT rfl) ?_;obtain rfl:=someE Y;exact ⟨A45_0_0,c45_0_0,A51_0_0,c51_0_0,rfl,D69.pk [13,15]⟩
theorem m_todelta_less_sim {x0:T_api_Point} {x1:T_todelta_value} {r:(T_todelta_value×Int)} (Y:m_todelta_less x0 x1=some r) (h0:T_api_Point.rep.rel Z0 w cs0 x0) (h1:T_todelta_value.rep.rel Z0 w cs1 x1) :
 Calls prog 141 #[.agg cs0.toArray,.agg cs1.toArray] w λx w'=>∃ A_0_0 c_0_0 A_0_1 c_0_1,x=.returned (.tuple #[.agg [iv r.1.i,u64v r.1.re,u64v r.1.im,iv r.1.h.Scale,u64v r.1.h.Zero,iv r.1.h.Pos.Offset,.slice A_0_0 (r.1.h.Pos.Counts).length c_0_0,iv r.1.h.Neg.Offset,.slice A_0_1 (r.1.h.Neg.Counts).length c_0_1].toArray,iv r.2])∧Hp Z0 No w w' [ownR 31 A_0_0 c_0_0 w64R r.1.h.Pos.Counts,ownR 31 A_0_1 c_0_1 w64R r.1.h.Neg.Counts]:=by
 have D0:=Hp.nil Z0 No w;have hc0:=Calm.nil;obtain ⟨Ar1,cr1,Ar3,cr3,Ar5,cr5,rfl,fs1,fs3,fs5⟩:=T_api_Point.relE h0;obtain ⟨D11,hc0⟩:=D0.kn hc0 fs1;obtain ⟨D12,hc0⟩:=D11.kn hc0 fs3;obtain ⟨D13,hc0⟩:=D12.kn hc0 fs5;obtain ⟨Ar7,cr7,Ar9,cr9,rfl,fs7,fs9⟩:=T_todelta_value.relE h1;obtain ⟨D14,hc0⟩:=D13.kn hc0 fs7;obtain ⟨D15,hc0⟩:=D14.kn hc0 fs9;refine eg func141 2 ?_
 refine Rn.bx D15 λb16 w16 D18=>?_
 replace D18:=D18.nb
 refine Rn.bx D18 λb19 w19 D21=>?_
 replace D21:=D21.nb
 refine Rn.al D21 Tryz.zeroValue206 λb22 w22 D24=>?_
 replace D24:=D24.nb;refine gg 6 rfl (Rn.q rfl (V.ldB V3 rfl (D24.get 5 rfl) rfl) (gg 7 rfl ?_));refine bD Y 3 5 (λh25 Y=>?_) (λh25 Y=>?_)
 ·refine Rn.q rfl (V.ldB V3 rfl (D24.get 5 rfl) rfl) (gg 1 rfl (Rn.q rfl (V.ldB V3 rfl (D24.get 6 rfl) rfl) (gg 7 rfl (Rn.q rfl (V.ldB V4 rfl (D24.get 5 rfl) rfl) (gg 1 rfl ?_)))));refine Rn.cutR [] [(2,pt b16 0),(3,pt b19 0),(4,pt b22 0),(6,iv (W64 (x0.Int_-x1.i))),(29,.bool (decide ((x0.Mono=true)∧(x0.Int_<x1.i))))] (λK26=>?_) ?_
  ·refine Rn.part (t:=23) rfl (λh27=>?_) (λh27=>?_)
   ·refine gg 1 rfl (Rn.q rfl (V.ldB V3 rfl (D24.get 5 rfl) rfl) (gg 1 rfl (Rn.q rfl (V.ldB V3 rfl (D24.get 6 rfl) rfl) (gg 2 rfl ?_))));exact K26 _ sA
   refine gg 6 rfl ?_;exact K26 _ sA
  refine gg 1 rfl ?_;refine bD Y 2 6 (λh28 Y=>?_) (λh28 Y=>?_)
  ·refine Rn.q rfl (V.bldS (cs:=[_,_,_,_,_,_,_,_,_]) st206 rfl rfl) (Rn.sn D24 7 O206 λw29 D30=>?_);refine gg 2 rfl ?_;have D31:=D30.addNil 31 w64R;have D33:=D31.addNil 31 w64R;refine Rn.retG2 func141 rfl (rvC rfl V206 O206 (D30.get 7 rfl) rfl) (rvT rfl) ?_;obtain rfl:=someE Y;exact ⟨none,0,none,0,rfl,D33.pk [8,9]⟩
  refine Rn.q rfl (V.ldB V3 rfl (D24.get 5 rfl) rfl) (gg 2 rfl (Rn.q rfl (V.ldB V3 rfl (D24.get 6 rfl) rfl) (gg 1 rfl (Rn.q rfl (V.neqB U4 rfl rfl) (gg 1 rfl ?_)))));refine bD Y 2 4 (λh35 Y=>?_) (λh35 Y=>?_)
  ·refine Rn.q rfl (V.bldS (cs:=[_,_,_,_,_,_,_,_,_]) st206 rfl rfl) (Rn.sn D24 7 O206 λw36 D37=>?_);refine gg 2 rfl ?_;have D38:=D37.addNil 31 w64R;have D40:=D38.addNil 31 w64R;refine Rn.retG2 func141 rfl (rvC rfl V206 O206 (D37.get 7 rfl) rfl) (rvT rfl) ?_;obtain rfl:=someE Y;exact ⟨none,0,none,0,rfl,D40.pk [8,9]⟩
  refine Rn.q rfl (V.bldS (cs:=[_,_,_,_,_,_,_,_,_]) st206 rfl rfl) (Rn.sn D24 7 O206 λw42 D43=>?_);refine gg 2 rfl ?_;have D44:=D43.addNil 31 w64R;have D46:=D44.addNil 31 w64R;refine Rn.retG2 func141 rfl (rvC rfl V206 O206 (D43.get 7 rfl) rfl) (rvT rfl) ?_;obtain rfl:=someE Y;exact ⟨none,0,none,0,rfl,D46.pk [8,9]⟩
 refine bD Y 3 5 (λh48 Y=>?_) (λh48 Y=>?_)
 ·refine Rn.q rfl (V.ldB V31 rfl (D24.get 5 rfl) rfl) (gg 1 rfl (Rn.q rfl (V.ldB V31 rfl (D24.get 6 rfl) rfl) ?_));obtain ⟨p49,e49,Y⟩:=bindE Y
  refine Rn.c0 (cK func186) (m_num_Sub_sim (Z0:=All) e49  :) D24 λw49 _ D50=>?_
  refine gg 6 rfl (Rn.q rfl (V.ldB V4 rfl (D50.get 5 rfl) rfl) (gg 1 rfl ?_));refine Rn.jQ D50 [0,1,2,3,4,5,6,7] Y (G:=Bool) [] (λg=>[(2,pt b16 0),(3,pt b19 0),(4,pt b22 0),(7,u64v p49),(57,.bool (g))]) (λg=>[_,_,_,_,_,_,_,_]) (λj g=>j g) ?_ ?_
  ·rintro y51 w52 D52 Y
   try dsimp only at Y
   refine gg 1 rfl ?_;refine bS Y 2 5 (λh53 Y=>?_) (λh53 Y=>?_)
   ·refine Rn.q rfl (V.bldS (cs:=[_,_,_,_,_,_,_,_,_]) st206 rfl rfl) (Rn.sn D52 7 O206 λw54 D55=>?_);refine gg 2 rfl ?_;have D56:=D55.addNil 31 w64R;have D58:=D56.addNil 31 w64R;refine Rn.retG2 func141 rfl (rvC rfl V206 O206 (D55.get 7 rfl) rfl) (rvT rfl) ?_;obtain rfl:=someE Y;exact ⟨none,0,none,0,rfl,D58.pk [8,9]⟩
   refine Rn.bslS rfl rfl rfl U32 el31 rfl rfl rfl rfl (by first|exact szs rfl|(simp [Value.cells];done)) (by decide) ?_;intro b60 w60 hb60 m60 e60;have D61:=D52.addLit (rep:=w64R) (xs:=([p49]:List UInt64)) (vss:=[[u64v p49]]) hb60 e60 m60 rfl rfl rfl ((rels_cons (λ_ _=>⟨rfl,trivial⟩) rels0));obtain ⟨p63,e63,Y⟩:=bindE Y
   refine Rn.c0 (cK func187) (m_todelta_finite_sim (Z0:=All) e63 (own_slR (D61.get 8 rfl)) :) D61 λw63 _ D64=>?_
   replace D64:=D64.nq;refine Rn.q rfl (V.notB rfl) (gg 1 rfl ?_);refine Rn.jQ D64 [0,1,2,3,4,5,6,7,8] Y (G:=Bool) [] (λg=>[(4,pt b22 0),(7,u64v p49),(70,.bool (g))]) (λg=>[_,_,_,_,_,_,_,_,_]) (λj g=>j g) ?_ ?_
   ·rintro y65 w66 D66 Y
    try dsimp only at Y
    refine gg 1 rfl ?_;refine bS Y 2 4 (λh67 Y=>?_) (λh67 Y=>?_)
    ·refine Rn.q rfl (V.bldS (cs:=[_,_,_,_,_,_,_,_,_]) st206 rfl rfl) (Rn.sn D66 7 O206 λw68 D69=>?_);refine gg 2 rfl ?_;have D70:=D69.addNil 31 w64R;have D72:=D70.addNil 31 w64R;refine Rn.retG2 func141 rfl (rvC rfl V206 O206 (D69.get 7 rfl) rfl) (rvT rfl) ?_;obtain rfl:=someE Y;exact ⟨none,0,none,0,rfl,D72.pk [9,10]⟩
    refine Rn.q rfl (V.bldS (cs:=[_,_,_,_,_,_,_,_,_]) st206 rfl rfl) (Rn.sn D66 7 O206 λw74 D75=>?_);refine gg 2 rfl ?_;have D76:=D75.addNil 31 w64R;have D78:=D76.addNil 31 w64R;refine Rn.retG2 func141 rfl (rvC rfl V206 O206 (D75.get 7 rfl) rfl) (rvT rfl) ?_;obtain rfl:=someE Y;exact ⟨none,0,none,0,rfl,D78.pk [9,10]⟩
   intro j2 Y K2;refine askS Y (Rn.part (t:=63) rfl) (λh80 Y=>?_) (λh80 Y=>?_)
   ·refine gg 1 rfl (Rn.q rfl (V.ldB V31 rfl (D64.get 5 rfl) rfl) (gg 1 rfl (Rn.q rfl (V.ldB V31 rfl (D64.get 6 rfl) rfl) (Rn.bslS rfl rfl rfl U32 el31 rfl rfl rfl rfl (by first|exact szs rfl|(simp [Value.cells];done)) (by decide) ?_))));intro b81 w81 hb81 m81 e81;have D82:=D64.addLit (rep:=w64R) (xs:=([x0.Re,x1.re]:List UInt64)) (vss:=[[u64v x0.Re],[u64v x1.re]]) hb81 e81 m81 rfl rfl rfl ((rels_cons (λ_ _=>⟨rfl,trivial⟩) (rels_cons (λ_ _=>⟨rfl,trivial⟩) rels0)));obtain ⟨p84,e84,Y⟩:=bindE Y
    refine Rn.c0 (cK func187) (m_todelta_finite_sim (Z0:=All) e84 (own_slR (D82.get 9 rfl)) :) D82 λw84 _ D85=>?_
    replace D85:=D85.nq;refine gg 1 rfl ?_;exact K2 p84 _ _ sA (D85.pk [0,1,2,3,4,5,6,7,8]) Y
   refine gg 7 rfl ?_;exact K2 false _ _ sA (D64.pk [0,1,2,3,4,5,6,7,8]) Y
  intro j1 Y K1;refine askS Y (Rn.part (t:=51) rfl) (λh86 Y=>?_) (λh86 Y=>?_)
  ·refine gg 1 rfl (Rn.q rfl (V.ldB V31 rfl (D50.get 5 rfl) rfl) (gg 1 rfl (Rn.q rfl (V.ldB V31 rfl (D50.get 6 rfl) rfl) ?_)));obtain ⟨p87,e87,Y⟩:=bindE Y
   refine Rn.c0 (cK func63) (m_num_Less_sim (Z0:=All) e87  :) D50 λw87 _ D88=>?_
   refine gg 1 rfl ?_;exact K1 p87 _ _ sA (D88.pk [0,1,2,3,4,5,6,7]) Y
  refine gg 6 rfl ?_;exact K1 false _ _ sA (D50.pk [0,1,2,3,4,5,6,7]) Y
 refine bD Y 3 5 (λh89 Y=>?_) (λh89 Y=>?_)
 ·refine Rn.q rfl (V.ldB V31 rfl (D24.get 5 rfl) rfl) (gg 1 rfl (Rn.q rfl (V.ldB V31 rfl (D24.get 5 rfl) rfl) (gg 1 rfl (Rn.q rfl (V.ldB V31 rfl (D24.get 6 rfl) rfl) (gg 1 rfl (Rn.q rfl (V.ldB V31 rfl (D24.get 6 rfl) rfl) ?_))))));obtain ⟨p90,e90,Y⟩:=bindE Y
  refine Rn.c0 (cK func188) (m_num_SubPhasor_sim (Z0:=All) e90  :) D24 λw90 _ D91=>?_
  refine gg 11 rfl (Rn.bslS rfl rfl rfl U32 el31 rfl rfl rfl rfl (by first|exact szs rfl|(simp [Value.cells];done)) (by decide) ?_);intro b92 w92 hb92 m92 e92;have D93:=D91.addLit (rep:=w64R) (xs:=([p90.1,p90.2]:List UInt64)) (vss:=[[u64v p90.1],[u64v p90.2]]) hb92 e92 m92 rfl rfl rfl ((rels_cons (λ_ _=>⟨rfl,trivial⟩) (rels_cons (λ_ _=>⟨rfl,trivial⟩) rels0)));obtain ⟨p95,e95,Y⟩:=bindE Y
  refine Rn.c0 (cK func187) (m_todelta_finite_sim (Z0:=All) e95 (own_slR (D93.get 8 rfl)) :) D93 λw95 _ D96=>?_
  replace D96:=D96.nq;refine Rn.q rfl (V.notB rfl) (gg 1 rfl ?_);refine Rn.jQ D96 [0,1,2,3,4,5,6,7,8] Y (G:=Bool) [] (λg=>[(4,pt b22 0),(8,u64v p90.1),(9,u64v p90.2),(104,.bool (g))]) (λg=>[_,_,_,_,_,_,_,_,_]) (λj g=>j g) ?_ ?_
  ·rintro y97 w98 D98 Y
   try dsimp only at Y
   refine gg 1 rfl ?_;refine bS Y 2 5 (λh99 Y=>?_) (λh99 Y=>?_)
   ·refine Rn.q rfl (V.bldS (cs:=[_,_,_,_,_,_,_,_,_]) st206 rfl rfl) (Rn.sn D98 7 O206 λw100 D101=>?_);refine gg 2 rfl ?_;have D102:=D101.addNil 31 w64R;have D104:=D102.addNil 31 w64R;refine Rn.retG2 func141 rfl (rvC rfl V206 O206 (D101.get 7 rfl) rfl) (rvT rfl) ?_;obtain rfl:=someE Y;exact ⟨none,0,none,0,rfl,D104.pk [9,10]⟩
   refine Rn.q rfl (V.bldS (cs:=[_,_,_,_,_,_,_,_,_]) st206 rfl rfl) (Rn.sn D98 7 O206 λw106 D107=>?_);refine gg 2 rfl ?_;have D108:=D107.addNil 31 w64R;have D110:=D108.addNil 31 w64R;refine Rn.retG2 func141 rfl (rvC rfl V206 O206 (D107.get 7 rfl) rfl) (rvT rfl) ?_;obtain rfl:=someE Y;exact ⟨none,0,none,0,rfl,D110.pk [9,10]⟩
  intro j3 Y K3;refine askS Y (Rn.part (t:=93) rfl) (λh112 Y=>?_) (λh112 Y=>?_)
  ·refine gg 1 rfl (Rn.q rfl (V.ldB V31 rfl (D96.get 5 rfl) rfl) (gg 1 rfl (Rn.q rfl (V.ldB V31 rfl (D96.get 5 rfl) rfl) (gg 1 rfl (Rn.q rfl (V.ldB V31 rfl (D96.get 6 rfl) rfl) (gg 1 rfl (Rn.q rfl (V.ldB V31 rfl (D96.get 6 rfl) rfl) (Rn.bslS rfl rfl rfl U32 el31 rfl rfl rfl rfl (by first|exact szs rfl|(simp [Value.cells];done)) (by decide) ?_))))))));intro b113 w113 hb113 m113 e113;have D114:=D96.addLit (rep:=w64R) (xs:=([x0.Re,x0.Im,x1.re,x1.im]:List UInt64)) (vss:=[[u64v x0.Re],[u64v x0.Im],[u64v x1.re],[u64v x1.im]]) hb113 e113 m113 rfl rfl rfl ((rels_cons (λ_ _=>⟨rfl,trivial⟩) (rels_cons (λ_ _=>⟨rfl,trivial⟩) (rels_cons (λ_ _=>⟨rfl,trivial⟩) (rels_cons (λ_ _=>⟨rfl,trivial⟩) rels0)))));obtain ⟨p116,e116,Y⟩:=bindE Y
   refine Rn.c0 (cK func187) (m_todelta_finite_sim (Z0:=All) e116 (own_slR (D114.get 9 rfl)) :) D114 λw116 _ D117=>?_
   replace D117:=D117.nq;refine gg 1 rfl ?_;exact K3 p116 _ _ sA (D117.pk [0,1,2,3,4,5,6,7,8]) Y
  refine gg 11 rfl ?_;exact K3 false _ _ sA (D96.pk [0,1,2,3,4,5,6,7,8]) Y
 refine Rn.q rfl (V.ldBA [_,_,_,_,_,_] V36 O36 rfl (D24.get 5 rfl) rfl rfl) (gg 1 rfl (Rn.q rfl (V.ldBA [_,_,_,_,_,_] V36 O36 rfl (D24.get 6 rfl) rfl rfl) ?_));obtain ⟨p118,e118,Y⟩:=bindE Y;refine Rn.cq (cK func189) (m_fold_Sub_sim (Z0:=All) e118 (T_api_Hist.relA (D24.get 1 rfl) (D24.get 2 rfl)) (T_api_Hist.relA (D24.get 3 rfl) (D24.get 4 rfl)) :) ?_;rintro _ w118 ⟨A118_0_0,c118_0_0,A118_0_1,c118_0_1,rfl,Q118⟩;refine ⟨_,rfl,?_⟩;have D121:=D24.callF (flC (ownR_flat w64_flat _ _ _ _) (flC (ownR_flat w64_flat _ _ _ _) fl0)) Q118;replace D121:=D121.nq;refine gg 3 rfl (Rn.als rfl rfl rfl Tryz.zeroValue36 rfl O36 rfl rfl rfl rfl (by first|exact ones rfl|(simp [Value.oneCell'];done)) ?_);intro b122 w122 hb122 m122 e122;have D124:=(D121.addBox hb122 e122 m122).nb;refine gg 8 rfl ?_;refine bD Y 2 3 (λh125 Y=>?_) (λh125 Y=>?_)
 ·refine Rn.q rfl (V.bldS (cs:=[_,_,_,_,_,_,_,_,_]) st206 rfl rfl) (Rn.sn D124 7 O206 λw126 D127=>?_);refine gg 2 rfl ?_;have D128:=D127.addNil 31 w64R;have D130:=D128.addNil 31 w64R;refine Rn.retG2 func141 rfl (rvC rfl V206 O206 (D127.get 7 rfl) rfl) (rvT rfl) ?_;obtain rfl:=someE Y;exact ⟨none,0,none,0,rfl,D130.pk [11,12]⟩
 refine Rn.q rfl (V.ldBA [_,_,_,_,_,_] V36 O36 rfl (D124.get 10 rfl) rfl rfl) (Rn.q rfl (V.bldS (cs:=[_,_,_,_,_,_,_,_,_]) st206 rfl rfl) (Rn.sn D124 7 O206 λw132 D133=>?_));refine gg 2 rfl ?_;refine Rn.retG2 func141 rfl (rvC rfl V206 O206 (D133.get 7 rfl) rfl) (rvT rfl) ?_;obtain rfl:=someE Y;exact ⟨A118_0_0,c118_0_0,A118_0_1,c118_0_1,rfl,D133.pk [8,9]⟩
theorem m_todelta_Next_sim {x0:T_api_State} {x1:T_api_Point} {x2:Int} {r:(T_api_State×T_api_Point×Int)} (Y:m_todelta_Next x0 x1 x2=some r) (h0:T_api_State.rep.rel Z0 w cs0 x0) (h1:T_api_Point.rep.rel Z0 w cs1 x1) :
 Calls prog 79 #[.agg cs0.toArray,.agg cs1.toArray,iv x2] w λx w'=>∃ A_0_0 c_0_0 A_0_1 c_0_1 A_1_0 c_1_0 A_1_1 c_1_1 A_1_2 c_1_2,x=.returned (.tuple #[.agg [.bool (r.1.Some),iv r.1.Start,iv r.1.Time,iv r.1.Int_,u64v r.1.Re,u64v r.1.Im,iv r.1.Hist.Scale,u64v r.1.Hist.Zero,iv r.1.Hist.Pos.Offset,.slice A_0_0 (r.1.Hist.Pos.Counts).length c_0_0,iv r.1.Hist.Neg.Offset,.slice A_0_1 (r.1.Hist.Neg.Counts).length c_0_1].toArray,.agg [Str (r.2.1.Name),.slice A_1_0 (r.2.1.Attrs).length c_1_0,iv r.2.1.Kind,iv r.2.1.Temp,.bool (r.2.1.Mono),iv r.2.1.Start,iv r.2.1.Time,iv r.2.1.Int_,u64v r.2.1.Re,u64v r.2.1.Im,iv r.2.1.Hist.Scale,u64v r.2.1.Hist.Zero,iv r.2.1.Hist.Pos.Offset,.slice A_1_1 (r.2.1.Hist.Pos.Counts).length c_1_1,iv r.2.1.Hist.Neg.Offset,.slice A_1_2 (r.2.1.Hist.Neg.Counts).length c_1_2,iv r.2.1.Flags].toArray,iv r.2.2])∧Hp Z0 No w w' [slR A_0_0 c_0_0 w64R r.1.Hist.Pos.Counts,slR A_0_1 c_0_1 w64R r.1.Hist.Neg.Counts,slR A_1_0 c_1_0 T_api_Pair.rep r.2.1.Attrs,slR A_1_1 c_1_1 w64R r.2.1.Hist.Pos.Counts,slR A_1_2 c_1_2 w64R r.2.1.Hist.Neg.Counts]:=by
 have D0:=Hp.nil Z0 No w;have hc0:=Calm.nil;obtain ⟨Ar1,cr1,Ar3,cr3,rfl,fs1,fs3⟩:=T_api_State.relE h0;obtain ⟨D11,hc0⟩:=D0.kn hc0 fs1;obtain ⟨D12,hc0⟩:=D11.kn hc0 fs3;obtain ⟨Ar5,cr5,Ar7,cr7,Ar9,cr9,rfl,fs5,fs7,fs9⟩:=T_api_Point.relE h1;obtain ⟨D13,hc0⟩:=D12.kn hc0 fs5;obtain ⟨D14,hc0⟩:=D13.kn hc0 fs7;obtain ⟨D15,hc0⟩:=D14.kn hc0 fs9;refine eg func79 2 ?_
 refine Rn.bx D15 λb16 w16 D18=>?_
 replace D18:=D18.nb
 refine Rn.bx D18 λb19 w19 D21=>?_
 replace D21:=D21.nb
 refine Rn.al D21 Tryz.zeroValue70 λb22 w22 D24=>?_
 replace D24:=D24.nb
 refine Rn.al D24 Tryz.zeroValue38 λb25 w25 D27=>?_
 replace D27:=D27.nb;refine gg 4 rfl (Rn.q rfl (V.ldBA [_,_,_,_,_,_,_,_,_,_,_,_,_,_,_,_,_] V38 O38 rfl (D27.get 6 rfl) rfl rfl) ?_);obtain ⟨p28,e28,Y⟩:=bindE Y
 refine Rn.c0 (cK func20) (m_point_Check_sim (Z0:=All) e28 (T_api_Point.relA (D27.get 2 rfl) (D27.get 3 rfl) (D27.get 4 rfl)) :) D27 λw28 _ D29=>?_
 replace D29:=D29.nq;refine gg 3 rfl ?_;refine Rn.jF D29 [0,1,2,3,4,5,7,8,99,99,99,99] Y (G:=Int×T_api_Point×Option Addr×Nat×Option Addr×Nat×Option Addr×Nat) (λg=>[(3,pt b16 0),(4,pt b19 0),(6,pt b22 0),(7,pt b25 0),(9,iv (g.1))]) (λg=>[_,_,_,_,_,_,_,_,slR (g.2.2.1) (g.2.2.2.1) T_api_Pair.rep (g.2.1).Attrs,slR (g.2.2.2.2.1) (g.2.2.2.2.2.1) w64R (g.2.1).Hist.Pos.Counts,slR (g.2.2.2.2.2.2.1) (g.2.2.2.2.2.2.2) w64R (g.2.1).Hist.Neg.Counts,boxR b19 38 [Str ((g.2.1).Name),.slice (g.2.2.1) ((g.2.1).Attrs).length (g.2.2.2.1),iv (g.2.1).Kind,iv (g.2.1).Temp,.bool ((g.2.1).Mono),iv (g.2.1).Start,iv (g.2.1).Time,iv (g.2.1).Int_,u64v (g.2.1).Re,u64v (g.2.1).Im,iv (g.2.1).Hist.Scale,u64v (g.2.1).Hist.Zero,iv (g.2.1).Hist.Pos.Offset,.slice (g.2.2.2.2.1) ((g.2.1).Hist.Pos.Counts).length (g.2.2.2.2.2.1),iv (g.2.1).Hist.Neg.Offset,.slice (g.2.2.2.2.2.2.1) ((g.2.1).Hist.Neg.Counts).length (g.2.2.2.2.2.2.2),iv (g.2.1).Flags]]) (λj g=>j g.1 g.2.1) ?_ ?_
 ·rintro ⟨y30,y31,A32,c32,A34,c34,A36,c36⟩ w38 D38 Y
  try dsimp only at Y
  refine gg 6 rfl ?_;refine Rn.jF D38 [0,1,5,6,7,8,9,10,11] Y (G:=Int) (λg=>[(3,pt b16 0),(4,pt b19 0),(6,pt b22 0),(7,pt b25 0),(9,iv g)]) (λg=>[_,_,_,_,_,_,_,_,_]) (λj g=>j g) ?_ ?_
  ·rintro y39 w40 D40 Y
   try dsimp only at Y
   refine gg 6 rfl ?_;refine bD Y 2 3 (λh41 Y=>?_) (λh41 Y=>?_)
   ·refine Rn.q rfl (V.bldS (cs:=[_,_,_,_,_,_,_,_,_,_,_,_]) st70 rfl rfl) (Rn.q rfl (V.bldS (cs:=[_,_,_,_,_,_,_,_,_,_,_,_,_,_,_,_,_]) st38 rfl rfl) (gg 1 rfl (Rn.sn D40 3 O70 λw42 D43=>?_)));refine Rn.stF rfl rfl O38 rfl rfl rfl rfl (by first|exact ones rfl|(simp [Value.oneCell'];done)) (D43.get 4 rfl) rfl ?_;intro w44 m44 x44;have D45:=D43.sn 4 x44 m44;refine gg 2 rfl ?_;have D46:=D45.addNil 31 w64R;have D49:=D46.freeze 9 rfl;have D50:=D49.addNil 31 w64R;have D53:=D50.freeze 10 rfl;have D54:=D53.addNil 116 T_api_Pair.rep;have D57:=D54.freeze 11 rfl;have D58:=D57.addNil 31 w64R;have D61:=D58.freeze 12 rfl;have D62:=D61.addNil 31 w64R;have D65:=D62.freeze 13 rfl;refine Rn.retG3 func79 rfl (rvC rfl V70 O70 (D45.get 3 rfl) rfl) (rvC rfl V38 O38 (D45.get 4 rfl) rfl) (rvT rfl) ?_;obtain rfl:=someE Y;exact ⟨none,0,none,0,none,0,none,0,none,0,rfl,D65.pk [9,10,11,12,13]⟩
   refine Rn.q rfl (V.ldBA [_,_,_,_,_,_,_,_,_,_,_,_,_,_,_,_,_] V38 O38 rfl (D40.get 8 rfl) rfl rfl) ?_;obtain ⟨p66,e66,Y⟩:=bindE Y;refine Rn.cq (cK func82) (m_point_Clone_sim (Z0:=All) e66 (T_api_Point.relA (D40.get 5 rfl) (D40.get 6 rfl) (D40.get 7 rfl)) :) ?_;rintro _ w66 ⟨A66_0_0,c66_0_0,A66_0_1,c66_0_1,A66_0_2,c66_0_2,rfl,Q66⟩;refine ⟨_,rfl,?_⟩;have D70:=D40.callF (flC (ownR_flat T_api_Pair.flat _ _ _ _) (flC (ownR_flat w64_flat _ _ _ _) (flC (ownR_flat w64_flat _ _ _ _) fl0))) Q66;replace D70:=D70.nq;refine Rn.als rfl rfl rfl Tryz.zeroValue38 rfl O38 rfl rfl rfl rfl (by first|exact ones rfl|(simp [Value.oneCell'];done)) ?_;intro b71 w71 hb71 m71 e71;have D73:=(D70.addBox hb71 e71 m71).nb;refine gg 4 rfl (Rn.sn D73 12 O3 λw74 D75=>?_);refine gg 2 rfl ?_;refine Rn.jF D75 [0,1,2,3,4,5,6,7,8,9,10,11,12,99] Y (G:=T_api_State×(Nat→Prop)×Nat) (λg=>[(3,pt b16 0),(4,pt b19 0),(6,pt b22 0),(7,pt b25 0),(10,pt b71 0),(11,pt (g.2.2) 0)]) (λg=>[_,_,_,_,_,_,_,_,_,_,_,_,_,T_api_State.obj (g.2.1) (g.2.2) (g.1)]) (λj g=>j g.1) ?_ ?_
   ·rintro ⟨y76,F76,b76⟩ w78 D78 Y
    try dsimp only at Y
    refine gg 3 rfl (Rn.q rfl (V.ldBA [_,_,_,_,_,_,_,_,_,_,_,_] V70 O70 rfl (D78.get 2 rfl) rfl rfl) (Rn.q rfl (V.ldBA [_,_,_,_,_,_,_,_,_,_,_,_,_,_,_,_,_] V38 O38 rfl (D78.get 8 rfl) rfl rfl) ?_));obtain ⟨p79,e79,Y⟩:=bindE Y
    refine Rn.c0 (cK func140) (m_todelta_begins_sim (Z0:=All) e79 (T_api_State.relA (D78.get 0 rfl) (D78.get 1 rfl)) (T_api_Point.relA (D78.get 5 rfl) (D78.get 6 rfl) (D78.get 7 rfl)) :) D78 λw79 _ D80=>?_
    replace D80:=D80.nq;refine gg 1 rfl (Rn.sn D80 12 O3 λw81 D82=>?_);refine gg 4 rfl (Rn.q rfl (V.ldB V3 rfl (D82.get 12 rfl) rfl) (gg 2 rfl ?_));refine bD Y 1 3 (λh83 Y=>?_) (λh83 Y=>?_)
    ·obtain ⟨_,⟨A85_0,c85_0,A85_1,c85_1,rfl⟩,D85⟩:=D82.unf 13 rfl;replace D85:=D85.nq;have D89:=D85.freeze 9 rfl;have D91:=D89.freeze 10 rfl;have D93:=D91.freeze 11 rfl;have D104:=(D93.cutF [2,8,12,13] [3,4] [0,1,5,6,7,9,10,11,14,15] rfl (by decide) ⟨λ_ h=>h,λ_ h=>h,λ_ h=>h,λ_ h=>h,λ_ h=>h,λ_ h=>h,λ_ h=>h,λ_ h=>h,λ_ h=>h,λ_ h=>h,trivial⟩).nf ([_,_,_,_,_,_,_,_,_,_,_,_,_,_]++[_,_,_,_,_,_,_,_,_,_,_,_]) rfl;refine Rn.drawF rfl D104 ?_;intro w105 hmo105 D105;refine RH.tk 0 rfl (λw' hDr=>V.ldBA [_,_,_,_,_,_,_,_,_,_,_,_] V70 O70 rfl ((hmo105.awayK hDr).get 3 rfl) rfl rfl) ?_;refine RH.tk 1 rfl (λw' hDr=>V.ldBA [_,_,_,_,_,_,_,_,_,_,_,_,_,_,_,_,_] V38 O38 rfl ((hmo105.awayK hDr).get 2 rfl) rfl rfl) ?_
     refine RH.sn 2 D105 0 O70 λw106 D107=>?_
     refine ⟨D107.fr,?_⟩;refine RH.stF 3 (by kernel_rfl) rfl rfl O38 rfl rfl rfl rfl (by first|exact ones rfl|(simp [Value.oneCell'];done)) (D107.get 1 rfl) rfl ?_;intro w108 m108 x108;have D109:=D107.sn 1 x108 m108;refine ⟨D109.fr,?_⟩;refine dq [4] ?_;refine RH.dn ?_;have D110:=hmo105.callAZ D109;have D111:=(D110.pk [0,1,2,3,14,15,16,17,18,19,20,21,22,23,24,25]).nq;refine Rn.retG3 func79 rfl (rvC rfl V70 O70 (D111.get 4 rfl) rfl) (rvC rfl V38 O38 (D111.get 5 rfl) rfl) (rvT rfl) ?_;obtain rfl:=someE Y;exact ⟨A85_0,c85_0,A85_1,c85_1,A66_0_0,c66_0_0,A66_0_1,c66_0_1,A66_0_2,c66_0_2,rfl,D111.pk [14,15,11,12,13]⟩
    refine Rn.q rfl (V.ldBA [_,_,_,_,_,_,_,_,_,_,_,_,_,_,_,_,_] V38 O38 rfl (D82.get 8 rfl) rfl rfl) (gg 1 rfl (Rn.q rfl (V.ldB V3 rfl (D82.get 2 rfl) rfl) (gg 1 rfl (Rn.q rfl (V.ldB V31 rfl (D82.get 2 rfl) rfl) (gg 1 rfl (Rn.q rfl (V.ldB V31 rfl (D82.get 2 rfl) rfl) (gg 1 rfl (Rn.q rfl (V.ldBA [_,_,_,_,_,_] V36 O36 rfl (D82.get 2 rfl) rfl rfl) (Rn.q rfl (V.bldS (cs:=[_,_,_,_,_,_,_,_,_]) st206 rfl rfl) ?_)))))))));obtain ⟨p112,e112,Y⟩:=bindE Y;refine Rn.cq (cK func141) (m_todelta_less_sim (Z0:=All) e112 (T_api_Point.relA (D82.get 5 rfl) (D82.get 6 rfl) (D82.get 7 rfl)) (T_todelta_value.relA (D82.get 0 rfl) (D82.get 1 rfl)) :) ?_;rintro _ w112 ⟨A112_0_0,c112_0_0,A112_0_1,c112_0_1,rfl,Q112⟩;refine ⟨_,rfl,?_⟩;have D115:=D82.callF (flC (ownR_flat w64_flat _ _ _ _) (flC (ownR_flat w64_flat _ _ _ _) fl0)) Q112;replace D115:=D115.nq;refine gg 3 rfl (Rn.als rfl rfl rfl Tryz.zeroValue206 rfl O206 rfl rfl rfl rfl (by first|exact ones rfl|(simp [Value.oneCell'];done)) ?_);intro b116 w116 hb116 m116 e116;have D118:=(D115.addBox hb116 e116 m116).nb;refine gg 5 rfl (Rn.q rfl (V.ldB V3 rfl (D118.get 2 rfl) rfl) (gg 2 rfl (Rn.sn D118 12 O3 λw119 D120=>?_)));refine gg 1 rfl (Rn.sn D120 12 O3 λw121 D122=>?_);refine gg 7 rfl ?_;have D124:=D122.freeze 14 rfl;have D126:=D124.freeze 15 rfl;refine Rn.jF D126 [0,1,2,3,4,5,6,7,8,14,15,16,99,99,99,99,99] Y (G:=T_api_State×T_api_Point×(Nat→Prop)×Option Addr×Nat×Option Addr×Nat×Option Addr×Nat) (λg=>[(6,pt b22 0),(7,pt b25 0),(10,pt b71 0),(11,pt b76 0)]) (λg=>[_,_,_,_,_,_,_,_,_,_,_,_,T_api_State.obj (g.2.2.1) b76 (g.1),ownR 116 (g.2.2.2.1) (g.2.2.2.2.1) T_api_Pair.rep (g.2.1).Attrs,slR (g.2.2.2.2.2.1) (g.2.2.2.2.2.2.1) w64R (g.2.1).Hist.Pos.Counts,slR (g.2.2.2.2.2.2.2.1) (g.2.2.2.2.2.2.2.2) w64R (g.2.1).Hist.Neg.Counts,boxR b71 38 [Str ((g.2.1).Name),.slice (g.2.2.2.1) ((g.2.1).Attrs).length (g.2.2.2.2.1),iv (g.2.1).Kind,iv (g.2.1).Temp,.bool ((g.2.1).Mono),iv (g.2.1).Start,iv (g.2.1).Time,iv (g.2.1).Int_,u64v (g.2.1).Re,u64v (g.2.1).Im,iv (g.2.1).Hist.Scale,u64v (g.2.1).Hist.Zero,iv (g.2.1).Hist.Pos.Offset,.slice (g.2.2.2.2.2.1) ((g.2.1).Hist.Pos.Counts).length (g.2.2.2.2.2.2.1),iv (g.2.1).Hist.Neg.Offset,.slice (g.2.2.2.2.2.2.2.1) ((g.2.1).Hist.Neg.Counts).length (g.2.2.2.2.2.2.2.2),iv (g.2.1).Flags]]) (λj g=>j g.1 g.2.1) ?_ ?_
    ·rintro ⟨y127,y128,F127,A129,c129,A131,c131,A133,c133⟩ w135 D135 Y
     try dsimp only at Y
     refine gg 1 rfl ?_;obtain ⟨_,⟨A137_0,c137_0,A137_1,c137_1,rfl⟩,D137⟩:=D135.unf 12 rfl;replace D137:=D137.nq;have D141:=D137.freeze 12 rfl;have D154:=(D141.cutF [2,8,11,15,16] [3,4] [0,1,5,6,7,9,10,12,13,14,17,18] rfl (by decide) ⟨λ_ h=>h,λ_ h=>h,λ_ h=>h,λ_ h=>h,λ_ h=>h,λ_ h=>h,λ_ h=>h,λ_ h=>h,λ_ h=>h,λ_ h=>h,λ_ h=>h,λ_ h=>h,trivial⟩).nf ([_,_,_,_,_,_,_,_,_,_,_,_,_,_,_,_,_]++[_,_,_,_,_,_,_,_,_,_,_,_,_,_]) rfl;refine Rn.drawF rfl D154 ?_;intro w155 hmo155 D155;refine RH.tk 0 rfl (λw' hDr=>V.ldBA [_,_,_,_,_,_,_,_,_,_,_,_] V70 O70 rfl ((hmo155.awayK hDr).get 4 rfl) rfl rfl) ?_;refine RH.tk 1 rfl (λw' hDr=>V.ldBA [_,_,_,_,_,_,_,_,_,_,_,_,_,_,_,_,_] V38 O38 rfl ((hmo155.awayK hDr).get 3 rfl) rfl rfl) ?_
     refine RH.sn 2 D155 0 O70 λw156 D157=>?_
     refine ⟨D157.fr,?_⟩;refine RH.stF 3 (by kernel_rfl) rfl rfl O38 rfl rfl rfl rfl (by first|exact ones rfl|(simp [Value.oneCell'];done)) (D157.get 1 rfl) rfl ?_;intro w158 m158 x158;have D159:=D157.sn 1 x158 m158;refine ⟨D159.fr,?_⟩;refine dq [4] ?_;refine RH.dn ?_;have D160:=hmo155.callAZ D159;have D161:=(D160.pk [0,1,2,3,4,17,18,19,20,21,22,23,24,25,26,27,28,29,30]).nq;refine Rn.retG3 func79 rfl (rvC rfl V70 O70 (D161.get 5 rfl) rfl) (rvC rfl V38 O38 (D161.get 6 rfl) rfl) (rvT rfl) ?_;obtain rfl:=someE Y;exact ⟨A137_0,c137_0,A137_1,c137_1,A129,c129,A131,c131,A133,c133,rfl,D161.pk [17,18,14,15,16]⟩
    intro j4 Y K4;refine bD Y 1 1 (λh162 Y=>?_) (λh162 Y=>?_)
    ·have D171:=(D126.cutF [2,3,4,8,9,10,11,13,16] [12] [0,1,5,6,7,14,15] rfl (by decide) ⟨λ_ h=>h,λ_ h=>h,λ_ h=>h,λ_ h=>h,λ_ h=>h,λ_ h=>h,λ_ h=>h,trivial⟩).nf ([_,_,_,_,_,_,_,_,_,_,_,_,_,_,_,_]++[_,_,_,_,_,_,_,_]) rfl;refine Rn.drawF rfl D171 ?_;intro w172 hmo172 D172;refine dq [0] ?_;refine RH.tk 1 rfl (λw' hDr=>V.ldB V3 rfl ((hmo172.awayK hDr).get 8 rfl) rfl) ?_;refine dq [2] ?_;refine RH.tk 3 rfl (λw' hDr=>V.ldB V31 rfl ((hmo172.awayK hDr).get 8 rfl) rfl) ?_;refine dq [4] ?_;refine RH.tk 5 rfl (λw' hDr=>V.ldB V31 rfl ((hmo172.awayK hDr).get 8 rfl) rfl) ?_;refine dq [6] ?_;refine RH.tk 7 rfl (λw' hDr=>V.ldBA [_,_,_,_,_,_] V36 O36 rfl ((hmo172.awayK hDr).get 8 rfl) rfl rfl) ?_;refine dq [8] ?_
     refine RH.sn 9 D172 0 O3 λw173 D174=>?_
     refine ⟨D174.fr,?_⟩;refine dq [10] ?_
     refine RH.sn 11 D174 0 O31 λw175 D176=>?_
     refine ⟨D176.fr,?_⟩;refine dq [12] ?_
     refine RH.sn 13 D176 0 O31 λw177 D178=>?_
     refine ⟨D178.fr,?_⟩;refine dq [14] ?_
     refine RH.sn 15 D178 0 O36 λw179 D180=>?_
     refine ⟨D180.fr,?_⟩;refine RH.dn ?_;have D181:=hmo172.callAZ D180;have D182:=(D181.pk [0,1,2,3,4,5,6,7,8,16,17,18,19,20,21,22,23]).nq;refine gg 3 rfl (Rn.q rfl (V.ldB V3 rfl (D182.get 3 rfl) rfl) (gg 2 rfl ?_));refine bD Y 2 1 (λh183 Y=>?_) (λh183 Y=>?_)
     ·refine Rn.q rfl (V.ldBA [_,_,_,_,_,_] V36 O36 rfl (D182.get 3 rfl) rfl rfl) (gg 1 rfl (Rn.q rfl (V.ldBA [_,_,_,_,_,_] V36 O36 rfl (D182.get 0 rfl) rfl rfl) ?_));obtain ⟨p184,e184,Y⟩:=bindE Y;refine Rn.cq (cK func142) (m_fold_Level_sim (Z0:=All) e184 (T_api_Hist.relA (D182.get 13 rfl) (D182.get 14 rfl)) (T_api_Hist.relA (D182.get 10 rfl) (D182.get 11 rfl)) :) ?_;rintro _ w184 ⟨A184_0_0,c184_0_0,A184_0_1,c184_0_1,A184_1_0,c184_1_0,A184_1_1,c184_1_1,rfl,Q184⟩;refine ⟨_,rfl,?_⟩;have D189:=D182.callF (flC (ownR_flat w64_flat _ _ _ _) (flC (ownR_flat w64_flat _ _ _ _) (flC (ownR_flat w64_flat _ _ _ _) (flC (ownR_flat w64_flat _ _ _ _) fl0)))) Q184;replace D189:=D189.nq;refine gg 5 rfl ?_;obtain ⟨_,⟨A190_0,c190_0,A190_1,c190_1,rfl⟩,D190⟩:=D189.unf 7 rfl;replace D190:=D190.nq
      refine Rn.sn D190 20 O36 λw193 D194=>?_
      refine gg 1 rfl ?_;have D196:=D194.freeze 16 rfl;have D197:=D196.dup 16 rfl (λ_ h=>h);have D200:=D197.freeze 17 rfl;have D201:=D200.dup 17 rfl (λ_ h=>h);have D204:=D201.cu [0,1,2,3,4,5,6,7,8,9,10,11,12,13,14,15,16,17,18,19,21,22] [20,23,24];obtain ⟨F203,D203⟩:=D204.fold (T_api_State.sh b76 (⟨y76.Some,y76.Start,y76.Time,y76.Int_,y76.Re,y76.Im,p184.1⟩:T_api_State)) ⟨A184_0_0,c184_0_0,A184_0_1,c184_0_1,rfl⟩;have D205:=D203.dup 14 rfl (λ_ h=>h);have D207:=D205.dup 15 rfl (λ_ h=>h);exact K4 ((⟨y76.Some,y76.Start,y76.Time,y76.Int_,y76.Re,y76.Im,p184.1⟩:T_api_State),(⟨p66.Name,p66.Attrs,p66.Kind,2,p66.Mono,x0.Time,p66.Time,p112.1.i,p112.1.re,p112.1.im,p112.1.h,p112.2⟩:T_api_Point),F203,A66_0_0,c66_0_0,A112_0_0,c112_0_0,A112_0_1,c112_0_1) _ _ sA (D207.pk [9,10,0,1,2,11,12,13,3,14,15,7,22,4,23,24,8]) Y
     have D209:=D182.dup 15 rfl (λ_ h=>h);have D211:=D209.dup 16 rfl (λ_ h=>h);exact K4 (y76,(⟨p66.Name,p66.Attrs,p66.Kind,2,p66.Mono,x0.Time,p66.Time,p112.1.i,p112.1.re,p112.1.im,p112.1.h,p112.2⟩:T_api_Point),F76,A66_0_0,c66_0_0,A112_0_0,c112_0_0,A112_0_1,c112_0_1) _ _ sA (D211.pk [10,11,0,1,2,12,13,14,3,15,16,8,7,4,17,18,9]) Y
    have D214:=D126.freeze 10 rfl;have D216:=D214.freeze 11 rfl;exact K4 (y76,(⟨p66.Name,p66.Attrs,p66.Kind,2,p66.Mono,x0.Time,p66.Time,p66.Int_,p66.Re,p66.Im,p66.Hist,p112.2⟩:T_api_Point),F76,A66_0_0,c66_0_0,A66_0_1,c66_0_1,A66_0_2,c66_0_2) _ _ sA (D216.pk [0,1,2,3,4,5,6,7,8,14,15,16,13,9,10,11,12]) Y
   intro j3 Y K3;refine Rn.drawH rfl D75 ?_;intro w217 D217;refine dq [0] ?_;refine RH.tk 1 rfl (λw' hDr=>V.ldB V3 rfl ((D217.ext hDr).get 8 rfl) rfl) ?_;refine dq [2] ?_;refine RH.tk 3 rfl (λw' hDr=>V.ldB V3 rfl ((D217.ext hDr).get 8 rfl) rfl) ?_;refine dq [4] ?_;refine RH.tk 5 rfl (λw' hDr=>V.ldB V3 rfl ((D217.ext hDr).get 8 rfl) rfl) ?_;refine dq [6] ?_;refine RH.tk 7 rfl (λw' hDr=>V.ldB V31 rfl ((D217.ext hDr).get 8 rfl) rfl) ?_;refine dq [8] ?_;refine RH.tk 9 rfl (λw' hDr=>V.ldB V31 rfl ((D217.ext hDr).get 8 rfl) rfl) ?_;refine dq [10] ?_;refine RH.tk 11 rfl (λw' hDr=>V.ldBA [_,_,_,_,_,_] V36 O36 rfl ((D217.ext hDr).get 8 rfl) rfl rfl) ?_;obtain ⟨p218,e218,Y⟩:=bindE Y;refine RH.both 12 14 (by kernel_rfl) ?_ ?_
   ·have e227:=e218;refine RB.cl (cK func130) 12 rfl rfl rfl rfl (m_hist_Clone_sim (Z0:=All) e227 (T_api_Hist.relA (D217.get 6 rfl) (D217.get 7 rfl)) :) ?_;rintro _ w227 ⟨A227_0_0,c227_0_0,A227_0_1,c227_0_1,rfl,Q227⟩;refine ⟨_,rfl,((Ext.refl _).trans Q227.fr),?_⟩;have D230:=D217.callF (flC (ownR_flat w64_flat _ _ _ _) (flC (ownR_flat w64_flat _ _ _ _) fl0)) Q227;refine RH.tk 13 rfl (λw' hDr=>V.bldS (cs:=[_,_,_,_,_,_,_,_,_,_,_,_]) st70 rfl rfl) ?_;refine RH.alloc 14 (by kernel_rfl) rfl rfl rfl Tryz.zeroValue70 rfl ?_;intro b231 w231 hb231 m231 e231
    have hfr231:w217.heap.size≤b231:=by have hh:=(((Ext.refl _).trans Q227.fr):Ext w217 w227).size;omega
    have D233:=(D230.addBox hb231 e231 m231).nb;refine ⟨(((Ext.refl _).trans Q227.fr).trans e231),?_⟩;refine RH.st 15 (by kernel_rfl) rfl rfl O70 rfl rfl rfl rfl (by first|exact ones rfl|(simp [Value.oneCell'];done)) (D233.get 15 rfl) (by first|exact nbl rfl|(simp;done)) ?_;intro w234 m234 x234;have D235:=D233.sn 15 x234 m234;refine ⟨(ext_st (((Ext.refl _).trans Q227.fr).trans e231) x234 hfr231),?_⟩;refine RH.dn ?_;have D237:=D235.freeze 13 rfl;have D238:=D237.dup 13 rfl (λ_ h=>h);have D241:=D238.freeze 14 rfl;have D242:=D241.dup 14 rfl (λ_ h=>h);have D245:=D242.cu [0,1,2,3,4,5,6,7,8,9,10,11,12,13,14] [15,16,17];obtain ⟨F244,D244⟩:=D245.fold (T_api_State.sh b231 (⟨true,y31.Start,y31.Time,y31.Int_,y31.Re,y31.Im,p218⟩:T_api_State)) ⟨A227_0_0,c227_0_0,A227_0_1,c227_0_1,rfl⟩;exact K3 ((⟨true,y31.Start,y31.Time,y31.Int_,y31.Re,y31.Im,p218⟩:T_api_State),F244,b231) _ _ sA (D244.pk [0,1,2,3,4,5,6,7,8,9,10,11,12,15]) Y
   refine RB.alloc 14 rfl rfl rfl Tryz.zeroValue70 rfl ?_;intro b246 w246 hb246 m246 e246
   have hfr246:w217.heap.size≤b246:=by have hh:=((Ext.refl _):Ext w217 w217).size;omega
   have D248:=(D217.addBox hb246 e246 m246).nb;refine ⟨((Ext.refl _).trans e246),?_⟩;have e249:=e218;refine RH.cq (cK func130) 12 (m_hist_Clone_sim (Z0:=All) e249 (T_api_Hist.relA (D248.get 6 rfl) (D248.get 7 rfl)) :) ?_;rintro _ w249 ⟨A249_0_0,c249_0_0,A249_0_1,c249_0_1,rfl,Q249⟩;refine ⟨_,rfl,(((Ext.refl _).trans e246).trans Q249.fr),?_⟩;have D252:=D248.callF (flC (ownR_flat w64_flat _ _ _ _) (flC (ownR_flat w64_flat _ _ _ _) fl0)) Q249;refine RH.ho 13 rfl (V.bldS (cs:=[_,_,_,_,_,_,_,_,_,_,_,_]) st70 rfl rfl) ?_;refine RH.st 15 (by kernel_rfl) rfl rfl O70 rfl rfl rfl rfl (by first|exact ones rfl|(simp [Value.oneCell'];done)) (D252.get 13 rfl) (by first|exact nbl rfl|(simp;done)) ?_;intro w253 m253 x253;have D254:=D252.sn 13 x253 m253;refine ⟨(ext_st (((Ext.refl _).trans e246).trans Q249.fr) x253 hfr246),?_⟩;refine RH.dn ?_;have D256:=D254.freeze 14 rfl;have D257:=D256.dup 14 rfl (λ_ h=>h);have D260:=D257.freeze 15 rfl;have D261:=D260.dup 15 rfl (λ_ h=>h);have D264:=D261.cu [0,1,2,3,4,5,6,7,8,9,10,11,12,14,15] [13,16,17];obtain ⟨F263,D263⟩:=D264.fold (T_api_State.sh b246 (⟨true,y31.Start,y31.Time,y31.Int_,y31.Re,y31.Im,p218⟩:T_api_State)) ⟨A249_0_0,c249_0_0,A249_0_1,c249_0_1,rfl⟩;exact K3 ((⟨true,y31.Start,y31.Time,y31.Int_,y31.Re,y31.Im,p218⟩:T_api_State),F263,b246) _ _ sA (D263.pk [0,1,2,3,4,5,6,7,8,9,10,11,12,15]) Y
  intro j2 Y K2;refine bD Y 1 1 (λh265 Y=>?_) (λh265 Y=>?_)
  ·refine Rn.q rfl (V.ldBA [_,_,_,_,_,_,_,_,_,_,_,_] V70 O70 rfl (D38.get 5 rfl) rfl rfl) (Rn.q rfl (V.ldBA [_,_,_,_,_,_,_,_,_,_,_,_,_,_,_,_,_] V38 O38 rfl (D38.get 11 rfl) rfl rfl) ?_);obtain ⟨p266,e266,Y⟩:=bindE Y
   refine Rn.c0 (cK func139) (m_todelta_check_sim (Z0:=All) e266 (T_api_State.relA (D38.get 0 rfl) (D38.get 1 rfl)) (T_api_Point.relA (D38.get 8 rfl) (D38.get 9 rfl) (D38.get 10 rfl)) :) D38 λw266 _ D267=>?_
   replace D267:=D267.nq;refine gg 2 rfl ?_;exact K2 p266 _ _ sA (D267.pk [0,1,5,6,7,8,9,10,11]) Y
  exact K2 y30 _ _ sA (D38.pk [0,1,5,6,7,8,9,10,11]) Y
 intro j1 Y K1;refine gg 7 rfl ?_;refine bD Y 2 3 (λh268 Y=>?_) (λh268 Y=>?_)
 ·have D269:=D29.dup 2 rfl (λ_ h=>h);have D271:=D269.dup 3 rfl (λ_ h=>h);have D273:=D271.dup 4 rfl (λ_ h=>h);exact K1 (p28,x1,Ar5,cr5,Ar7,cr7,Ar9,cr9) _ _ sA (D273.pk [0,1,2,3,4,5,7,8,9,10,11,6]) Y
 refine Rn.q rfl (V.ldB V3 rfl (D29.get 6 rfl) rfl) (gg 3 rfl ?_);refine bD Y 4 3 (λh275 Y=>?_) (λh275 Y=>?_)
 ·have D276:=D29.dup 2 rfl (λ_ h=>h);have D278:=D276.dup 3 rfl (λ_ h=>h);have D280:=D278.dup 4 rfl (λ_ h=>h);exact K1 (14,x1,Ar5,cr5,Ar7,cr7,Ar9,cr9) _ _ sA (D280.pk [0,1,2,3,4,5,7,8,9,10,11,6]) Y
 refine Rn.q rfl (V.ldB V3 rfl (D29.get 6 rfl) rfl) (gg 3 rfl ?_);refine bD Y 4 3 (λh282 Y=>?_) (λh282 Y=>?_)
 ·have D283:=D29.dup 2 rfl (λ_ h=>h);have D285:=D283.dup 3 rfl (λ_ h=>h);have D287:=D285.dup 4 rfl (λ_ h=>h);exact K1 (3,x1,Ar5,cr5,Ar7,cr7,Ar9,cr9) _ _ sA (D287.pk [0,1,2,3,4,5,7,8,9,10,11,6]) Y
 refine Rn.q rfl (V.ldB V3 rfl (D29.get 6 rfl) rfl) (gg 3 rfl ?_);refine bD Y 2 2 (λh289 Y=>?_) (λh289 Y=>?_)
 ·refine Rn.q rfl (V.ldBA [_,_,_,_,_,_] V36 O36 rfl (D29.get 6 rfl) rfl rfl) (gg 1 rfl ?_);obtain ⟨p290,e290,Y⟩:=bindE Y;refine Rn.cq (cK func28) (m_hist_Fit_sim (Z0:=All) e290 (T_api_Hist.relA (D29.get 3 rfl) (D29.get 4 rfl)) :) ?_;rintro _ w290 ⟨A290_0_0,c290_0_0,A290_0_1,c290_0_1,rfl,Q290⟩;refine ⟨_,rfl,?_⟩;have D293:=D29.callF (flC (ownR_flat w64_flat _ _ _ _) (flC (ownR_flat w64_flat _ _ _ _) fl0)) Q290;replace D293:=D293.nq;refine gg 4 rfl (Rn.sn D293 6 O36 λw294 D295=>?_);refine gg 3 rfl ?_;have D297:=D295.freeze 9 rfl;have D299:=D297.freeze 10 rfl;have D300:=D299.dup 2 rfl (λ_ h=>h);exact K1 (p290.2,(⟨x1.Name,x1.Attrs,x1.Kind,x1.Temp,x1.Mono,x1.Start,x1.Time,x1.Int_,x1.Re,x1.Im,p290.1,x1.Flags⟩:T_api_Point),Ar5,cr5,A290_0_0,c290_0_0,A290_0_1,c290_0_1) _ _ sA (D300.pk [0,1,2,3,4,5,7,8,11,9,10,6]) Y
 have D302:=D29.dup 2 rfl (λ_ h=>h);have D304:=D302.dup 3 rfl (λ_ h=>h);have D306:=D304.dup 4 rfl (λ_ h=>h);exact K1 (p28,x1,Ar5,cr5,Ar7,cr7,Ar9,cr9) _ _ sA (D306.pk [0,1,2,3,4,5,7,8,9,10,11,6]) Y
theorem m_tocum_check_sim {x0:T_api_State} {x1:T_api_Point} {r:Int} (Y:m_tocum_check x0 x1=some r) (h0:T_api_State.rep.rel Z0 w cs0 x0) (h1:T_api_Point.rep.rel Z0 w cs1 x1) :
 Calls prog 143 #[.agg cs0.toArray,.agg cs1.toArray] w λx w'=>x=.returned (iv r)∧Hp Z0 No w w' []:=by
 have D0:=Hp.nil Z0 No w;have hc0:=Calm.nil;obtain ⟨Ar1,cr1,Ar3,cr3,rfl,fs1,fs3⟩:=T_api_State.relE h0;obtain ⟨D11,hc0⟩:=D0.kn hc0 fs1;obtain ⟨D12,hc0⟩:=D11.kn hc0 fs3;obtain ⟨Ar5,cr5,Ar7,cr7,Ar9,cr9,rfl,fs5,fs7,fs9⟩:=T_api_Point.relE h1;obtain ⟨D13,hc0⟩:=D12.kn hc0 fs5;obtain ⟨D14,hc0⟩:=D13.kn hc0 fs7;obtain ⟨D15,hc0⟩:=D14.kn hc0 fs9;refine eg func143 2 ?_
 refine Rn.bx D15 λb16 w16 D18=>?_
 replace D18:=D18.nb
 refine Rn.bx D18 λb19 w19 D21=>?_
 replace D21:=D21.nb;refine gg 3 rfl ?_;refine Rn.jF D21 [0,1,2,3,4,5,6] Y (G:=Unit) (λg=>[]) (λg=>[_,_,_,_,_,_,_]) (λj g=>j ()) ?_ ?_
 ·rintro _ w22 D22 Y
  try dsimp only at Y
  refine gg 4 rfl ?_
  cases Y
  exact Rn.R1 func143 ⟨rfl,D22.pk []⟩
 intro j1 Y K1;refine gg 4 rfl (Rn.q rfl (V.ldB V4 rfl (D21.get 5 rfl) rfl) (Rn.q rfl (V.notB rfl) (gg 2 rfl ?_)));refine bS Y 2 3 (λh23 Y=>?_) (λh23 Y=>?_)
 ·exact K1 () _ _ (sb trivial) (D21.pk [0,1,2,3,4,5,6]) Y
 refine Rn.q rfl (V.ldB V3 rfl (D21.get 6 rfl) rfl) (gg 1 rfl (Rn.q rfl (V.ldB V3 rfl (D21.get 5 rfl) rfl) (gg 3 rfl ?_)));refine bD Y 4 3 (λh24 Y=>?_) (λh24 Y=>?_)
 ·cases Y
  exact Rn.R1 func143 ⟨rfl,D21.pk []⟩
 refine Rn.q rfl (V.ldB V3 rfl (D21.get 6 rfl) rfl) (gg 1 rfl (Rn.q rfl (V.ldB V3 rfl (D21.get 5 rfl) rfl) (gg 3 rfl ?_)));refine bD Y 4 2 (λh25 Y=>?_) (λh25 Y=>?_)
 ·cases Y
  exact Rn.R1 func143 ⟨rfl,D21.pk []⟩
 exact K1 () _ _ (sb trivial) (D21.pk [0,1,2,3,4,5,6]) Y
theorem m_fold_ends_sim {x0:T_api_Side} {r:(Int×Int)} (Y:m_fold_ends x0=some r) (h0:T_api_Side.rep.rel Z0 w cs0 x0) :
 Calls prog 250 #[.agg cs0.toArray] w λx w'=>x=.returned (.tuple #[iv r.1,iv r.2])∧Hp Z0 No w w' []:=by
 have D0:=Hp.nil Z0 No w;have hc0:=Calm.nil;obtain ⟨Ar1,cr1,rfl,fs1⟩:=T_api_Side.relE h0;obtain ⟨D3,hc0⟩:=D0.kn hc0 fs1;refine eg func250 2 ?_
 refine Rn.bx D3 λb4 w4 D6=>?_
 replace D6:=D6.nb;refine gg 4 rfl ?_;refine Rn.drawP rfl D6 ?_;intro w7 D7;refine dq [0] ?_;refine RH.tp 1 rfl (V.ldB V3 rfl (D7.get 1 rfl) rfl) ?_;refine dq [2] ?_;refine RH.tp 3 rfl (V.ldB V3 rfl (D7.get 1 rfl) rfl) ?_;refine dq [4] ?_;refine RH.tp 5 rfl (V.ldB V32 rfl (D7.get 1 rfl) rfl) ?_;refine RH.tp 6 rfl (V.lenV U32 rfl) ?_;refine dq [7,8,9] ?_;refine RH.dn ?_
 cases Y
 exact Rn.R2 func250 ⟨rfl,D7.pk []⟩
theorem m_fold_cover_sim {x0:T_api_Side} {x1:T_api_Side} {r:(Int×Int)} (Y:m_fold_cover x0 x1=some r) (h0:T_api_Side.rep.rel Z0 w cs0 x0) (h1:T_api_Side.rep.rel Z0 w cs1 x1) :
 Calls prog 238 #[.agg cs0.toArray,.agg cs1.toArray] w λx w'=>x=.returned (.tuple #[iv r.1,iv r.2])∧Hp Z0 No w w' []:=by
 have D0:=Hp.nil Z0 No w;have hc0:=Calm.nil;obtain ⟨Ar1,cr1,rfl,fs1⟩:=T_api_Side.relE h0;obtain ⟨D5,hc0⟩:=D0.kn hc0 fs1;obtain ⟨Ar3,cr3,rfl,fs3⟩:=T_api_Side.relE h1;obtain ⟨D6,hc0⟩:=D5.kn hc0 fs3;refine eg func238 2 ?_
 refine Rn.bx D6 λb7 w7 D9=>?_
 replace D9:=D9.nb
 refine Rn.bx D9 λb10 w10 D12=>?_
 replace D12:=D12.nb;refine gg 7 rfl (Rn.q rfl (V.ldB V32 rfl (D12.get 2 rfl) rfl) (Rn.q rfl (V.lenV U32 rfl) (gg 2 rfl ?_)));refine bD Y 1 5 (λh13 Y=>?_) (λh13 Y=>?_)
 ·refine Rn.drawP rfl D12 ?_;intro w14 D14;refine dq [0] ?_;refine RH.tp 1 rfl (V.ldB V3 rfl (D14.get 3 rfl) rfl) ?_;refine dq [2] ?_;refine RH.tp 3 rfl (V.ldB V32 rfl (D14.get 3 rfl) rfl) ?_;refine RH.tp 4 rfl (V.lenV U32 rfl) ?_;refine dq [5,6] ?_;refine RH.dn ?_
  cases Y
  exact Rn.R2 func238 ⟨rfl,D14.pk []⟩
 refine Rn.q rfl (V.ldB V32 rfl (D12.get 3 rfl) rfl) (Rn.q rfl (V.lenV U32 rfl) (gg 2 rfl ?_));refine bD Y 1 3 (λh15 Y=>?_) (λh15 Y=>?_)
 ·refine Rn.drawP rfl D12 ?_;intro w16 D16;refine dq [0] ?_;refine RH.tp 1 rfl (V.ldB V3 rfl (D16.get 2 rfl) rfl) ?_;refine dq [2] ?_;refine RH.tp 3 rfl (V.ldB V32 rfl (D16.get 2 rfl) rfl) ?_;refine RH.tp 4 rfl (V.lenV U32 rfl) ?_;refine dq [5,6] ?_;refine RH.dn ?_
  cases Y
  exact Rn.R2 func238 ⟨rfl,D16.pk []⟩
 refine Rn.q rfl (V.ldBA [_,_] V34 O34 rfl (D12.get 2 rfl) rfl rfl) ?_;obtain ⟨p17,e17,Y⟩:=bindE Y
 refine Rn.c0 (cK func250) (m_fold_ends_sim (Z0:=All) e17 (T_api_Side.relA (D12.get 0 rfl)) :) D12 λw17 _ D18=>?_
 refine gg 8 rfl (Rn.q rfl (V.ldBA [_,_] V34 O34 rfl (D18.get 3 rfl) rfl rfl) ?_);obtain ⟨p19,e19,Y⟩:=bindE Y
 refine Rn.c0 (cK func250) (m_fold_ends_sim (Z0:=All) e19 (T_api_Side.relA (D18.get 1 rfl)) :) D18 λw19 _ D20=>?_
 refine gg 10 rfl (Rn.q rfl (V.mini rfl rfl) (gg 2 rfl (Rn.q rfl (V.maxi rfl rfl) (gg 12 rfl ?_))))
 cases Y
 exact Rn.R2 func238 ⟨rfl,D20.pk []⟩
theorem m_fold_Merge_sim {x0:T_api_Hist} {x1:T_api_Hist} {r:(T_api_Hist×Int)} (Y:m_fold_Merge x0 x1=some r) (h0:T_api_Hist.rep.rel Z0 w cs0 x0) (h1:T_api_Hist.rep.rel Z0 w cs1 x1) :
 Calls prog 217 #[.agg cs0.toArray,.agg cs1.toArray] w λx w'=>∃ A_0_0 c_0_0 A_0_1 c_0_1,x=.returned (.tuple #[.agg [iv r.1.Scale,u64v r.1.Zero,iv r.1.Pos.Offset,.slice A_0_0 (r.1.Pos.Counts).length c_0_0,iv r.1.Neg.Offset,.slice A_0_1 (r.1.Neg.Counts).length c_0_1].toArray,iv r.2])∧Hp Z0 No w w' [slR A_0_0 c_0_0 w64R r.1.Pos.Counts,slR A_0_1 c_0_1 w64R r.1.Neg.Counts]:=by
 have D0:=Hp.nil Z0 No w;have hc0:=Calm.nil;obtain ⟨Ar1,cr1,Ar3,cr3,rfl,fs1,fs3⟩:=T_api_Hist.relE h0;obtain ⟨D9,hc0⟩:=D0.kn hc0 fs1;obtain ⟨D10,hc0⟩:=D9.kn hc0 fs3;obtain ⟨Ar5,cr5,Ar7,cr7,rfl,fs5,fs7⟩:=T_api_Hist.relE h1;obtain ⟨D11,hc0⟩:=D10.kn hc0 fs5;obtain ⟨D12,hc0⟩:=D11.kn hc0 fs7;refine eg func217 2 ?_
 refine Rn.bx D12 λb13 w13 D15=>?_
 replace D15:=D15.nb
 refine Rn.bx D15 λb16 w16 D18=>?_
 replace D18:=D18.nb
 refine Rn.al D18 Tryz.zeroValue36 λb19 w19 D21=>?_
 replace D21:=D21.nb;refine gg 4 rfl (Rn.q rfl (V.ldBA [_,_,_,_,_,_] V36 O36 rfl (D21.get 4 rfl) rfl rfl) (Rn.q rfl (V.ldBA [_,_,_,_,_,_] V36 O36 rfl (D21.get 5 rfl) rfl rfl) ?_));obtain ⟨p22,e22,Y⟩:=bindE Y;refine Rn.cq (cK func142) (m_fold_Level_sim (Z0:=All) e22 (T_api_Hist.relA (D21.get 0 rfl) (D21.get 1 rfl)) (T_api_Hist.relA (D21.get 2 rfl) (D21.get 3 rfl)) :) ?_;rintro _ w22 ⟨A22_0_0,c22_0_0,A22_0_1,c22_0_1,A22_1_0,c22_1_0,A22_1_1,c22_1_1,rfl,Q22⟩;refine ⟨_,rfl,?_⟩;have D27:=D21.callF (flC (ownR_flat w64_flat _ _ _ _) (flC (ownR_flat w64_flat _ _ _ _) (flC (ownR_flat w64_flat _ _ _ _) (flC (ownR_flat w64_flat _ _ _ _) fl0)))) Q22;replace D27:=D27.nq;refine gg 4 rfl (Rn.al D27 Tryz.zeroValue36 λb28 w28 D30=>?_);replace D30:=D30.nb
 refine Rn.al D30 Tryz.zeroValue36 λb31 w31 D33=>?_
 replace D33:=D33.nb
 refine Rn.sn D33 11 O36 λw34 D35=>?_
 refine Rn.sn D35 12 O36 λw36 D37=>?_
 refine gg 8 rfl ?_;refine bD Y 2 3 (λh38 Y=>?_) (λh38 Y=>?_)
 ·refine Rn.q rfl (V.bldS (cs:=[_,_,_,_,_,_]) st36 rfl rfl) (gg 1 rfl (Rn.sn D37 6 O36 λw39 D40=>?_));refine gg 2 rfl ?_;have D41:=D40.addNil 31 w64R;have D44:=D41.freeze 13 rfl;have D45:=D44.addNil 31 w64R;have D48:=D45.freeze 14 rfl;refine Rn.retG2 func217 rfl (rvC rfl V36 O36 (D40.get 6 rfl) rfl) (rvT rfl) ?_;obtain rfl:=someE Y;exact ⟨none,0,none,0,rfl,D48.pk [13,14]⟩
 refine Rn.q rfl (V.ldBA [_,_,_,_,_,_] V36 O36 rfl (D37.get 11 rfl) rfl rfl) ?_;obtain ⟨p49,e49,Y⟩:=bindE Y
 refine Rn.c0 (cK func122) (m_hist_Total_sim (Z0:=All) e49 (T_api_Hist.relA (own_slR (D37.get 7 rfl)) (own_slR (D37.get 8 rfl))) :) D37 λw49 _ D50=>?_
 replace D50:=D50.nq;refine gg 8 rfl (Rn.q rfl (V.ldBA [_,_,_,_,_,_] V36 O36 rfl (D50.get 12 rfl) rfl rfl) ?_);obtain ⟨p51,e51,Y⟩:=bindE Y
 refine Rn.c0 (cK func122) (m_hist_Total_sim (Z0:=All) e51 (T_api_Hist.relA (own_slR (D50.get 9 rfl)) (own_slR (D50.get 10 rfl))) :) D50 λw51 _ D52=>?_
 replace D52:=D52.nq;refine gg 11 rfl (Rn.q rfl (V.add64 (a:=p49.1) (b:=p51.1) func170 (by kernel_rfl) (by kernel_rfl) (by kernel_rfl) (by kernel_rfl) rfl) (gg 9 rfl (Rn.q rfl (V.neq rfl rfl) (gg 1 rfl ?_))));refine bD Y 2 4 (λh54 Y=>?_) (λh54 Y=>?_)
 ·refine Rn.q rfl (V.bldS (cs:=[_,_,_,_,_,_]) st36 rfl rfl) (Rn.sn D52 6 O36 λw55 D56=>?_);refine gg 2 rfl ?_;have D57:=D56.addNil 31 w64R;have D60:=D57.freeze 13 rfl;have D61:=D60.addNil 31 w64R;have D64:=D61.freeze 14 rfl;refine Rn.retG2 func217 rfl (rvC rfl V36 O36 (D56.get 6 rfl) rfl) (rvT rfl) ?_;obtain rfl:=someE Y;exact ⟨none,0,none,0,rfl,D64.pk [13,14]⟩
 refine Rn.q rfl (V.ldB V3 rfl (D52.get 11 rfl) rfl) (gg 1 rfl (Rn.q rfl (V.ldB V31 rfl (D52.get 11 rfl) rfl) (gg 1 rfl (Rn.q rfl (V.ldB V31 rfl (D52.get 12 rfl) rfl) (Rn.q rfl (V.ari64 (a:=p22.1.Zero) (b:=p22.2.1.Zero) rfl rfl _ rfl (toU64_add _ _)) (Rn.q rfl (V.bldS (cs:=[_,_,_,_,_,_]) st36 rfl rfl) (Rn.als rfl rfl rfl Tryz.zeroValue36 rfl O36 rfl rfl rfl rfl (by first|exact ones rfl|(simp [Value.oneCell'];done)) ?_)))))));intro b65 w65 hb65 m65 e65;have D67:=(D52.addBox hb65 e65 m65).nb;refine gg 6 rfl (Rn.q rfl (V.ldBA [_,_] V34 O34 rfl (D67.get 11 rfl) rfl rfl) (gg 1 rfl (Rn.q rfl (V.ldBA [_,_] V34 O34 rfl (D67.get 12 rfl) rfl rfl) (Rn.q rfl (V.bldS (cs:=[_,_,_,_,_]) st273 rfl rfl) (gg 2 rfl (Rn.q rfl (V.ldBA [_,_] V34 O34 rfl (D67.get 11 rfl) rfl rfl) (gg 1 rfl (Rn.q rfl (V.ldBA [_,_] V34 O34 rfl (D67.get 12 rfl) rfl rfl) (Rn.q rfl (V.bldS (cs:=[_,_,_,_,_]) st273 rfl rfl) ?_)))))))));have D70:=D67.freeze 7 rfl;have D72:=D70.freeze 9 rfl;have D74:=D72.freeze 8 rfl;have D76:=D74.freeze 10 rfl;refine Rn.bslS rfl rfl rfl U274 el273 rfl rfl rfl rfl (by first|exact szs rfl|(simp [Value.cells];done)) (by decide) ?_;intro b68 w68 hb68 m68 e68;have D78:=(D76.addBox hb68 e68 m68).nb;refine Rn.q rfl (V.lenV U274 rfl) (gg 2 rfl ?_);refine Rn.jF D78 [0,1,2,3,4,5,6,7,8,9,10,11,12,14,99,99,99] Y (G:=T_api_Hist×Option Addr×Nat×Option Addr×Nat) (λg=>[(4,pt b19 0),(15,pt b65 0)]) (λg=>[_,_,_,_,_,_,_,_,_,_,_,_,_,_,ownR 31 (g.2.1) (g.2.2.1) w64R (g.1).Pos.Counts,ownR 31 (g.2.2.2.1) (g.2.2.2.2) w64R (g.1).Neg.Counts,boxR b65 36 [iv (g.1).Scale,u64v (g.1).Zero,iv (g.1).Pos.Offset,.slice (g.2.1) ((g.1).Pos.Counts).length (g.2.2.1),iv (g.1).Neg.Offset,.slice (g.2.2.2.1) ((g.1).Neg.Counts).length (g.2.2.2.2)]]) (λj g=>j g.1) ?_ ?_
 ·rintro ⟨y79,A80,c80,A82,c82⟩ w84 D84 Y
  try dsimp only at Y
  refine gg 2 rfl (Rn.q rfl (V.ldBA [_,_,_,_,_,_] V36 O36 rfl (D84.get 16 rfl) rfl rfl) ?_);have D87:=D84.freeze 14 rfl;have D89:=D87.freeze 15 rfl
  refine Rn.sn D89 6 O36 λw85 D90=>?_
  refine gg 2 rfl ?_;refine Rn.retG2 func217 rfl (rvC rfl V36 O36 (D90.get 6 rfl) rfl) (rvT rfl) ?_;obtain rfl:=someE Y;exact ⟨A80,c80,A82,c82,rfl,D90.pk [14,15]⟩
 intro j1 Y K1;refine gg 1 rfl (Rn.loop (gg 3 rfl ?_));refine Rn.say (t:=74) (.bool true) rfl (congrArg Value.bool (by decide)) ?_;refine gg 5 rfl ?_;refine Rn.jF D78 [0,1,2,3,4,5,6,7,8,9,10,11,12,14,99,99,99] Y (G:=T_api_Hist×Option Addr×Nat×Option Addr×Nat) (λg=>[(4,pt b19 0),(15,pt b65 0),(71,.slice (some ⟨b68,0,none⟩) 2 2),(72,iv 2),(73,iv 0)]) (λg=>[_,_,_,_,_,_,_,_,_,_,_,_,_,_,ownR 31 (g.2.1) (g.2.2.1) w64R (g.1).Pos.Counts,ownR 31 (g.2.2.2.1) (g.2.2.2.2) w64R (g.1).Neg.Counts,boxR b65 36 [iv (g.1).Scale,u64v (g.1).Zero,iv (g.1).Pos.Offset,.slice (g.2.1) ((g.1).Pos.Counts).length (g.2.2.1),iv (g.1).Neg.Offset,.slice (g.2.2.2.1) ((g.1).Neg.Counts).length (g.2.2.2.2)]]) (λj g=>j g.1) ?_ ?_
 ·rintro ⟨y91,A92,c92,A94,c94⟩ w96 D96 Y
  try dsimp only at Y
  refine gg 2 rfl ?_;refine Rn.say (t:=131) (iv 1) rfl (congrArg (Value.int .i64) (by decide)) ?_;refine gg 2 rfl (Rn.inLoop (gg 3 rfl ?_));refine Rn.say (t:=74) (.bool true) rfl (congrArg Value.bool (by decide)) ?_;refine gg 5 rfl ?_;refine Rn.jF D96 [0,1,2,3,4,5,6,7,8,9,10,11,12,13,99,99,99] Y (G:=T_api_Hist×Option Addr×Nat×Option Addr×Nat) (λg=>[(4,pt b19 0),(15,pt b65 0),(71,.slice (some ⟨b68,0,none⟩) 2 2),(72,iv 2),(73,iv 1)]) (λg=>[_,_,_,_,_,_,_,_,_,_,_,_,_,_,ownR 31 (g.2.1) (g.2.2.1) w64R (g.1).Pos.Counts,ownR 31 (g.2.2.2.1) (g.2.2.2.2) w64R (g.1).Neg.Counts,boxR b65 36 [iv (g.1).Scale,u64v (g.1).Zero,iv (g.1).Pos.Offset,.slice (g.2.1) ((g.1).Pos.Counts).length (g.2.2.1),iv (g.1).Neg.Offset,.slice (g.2.2.2.1) ((g.1).Neg.Counts).length (g.2.2.2.2)]]) (λj g=>j g.1) ?_ ?_
  ·rintro ⟨y97,A98,c98,A100,c100⟩ w102 D102 Y
   try dsimp only at Y
   refine gg 2 rfl ?_;refine Rn.say (t:=131) (iv 2) rfl (congrArg (Value.int .i64) (by decide)) ?_;refine gg 2 rfl (Rn.inLoop (gg 3 rfl ?_));refine Rn.say (t:=74) (.bool false) rfl (congrArg Value.bool (by decide)) ?_;refine gg 4 rfl ?_;exact K1 (y97,A98,c98,A100,c100) _ _ sA (D102.pk [0,1,2,3,4,5,6,7,8,9,10,11,12,13,14,15,16]) Y
  intro j3 Y K3;refine gg 3 rfl (Rn.q rfl (V.ixA' rfl 1 U274 O273 rfl rfl rfl (by decide)) (Rn.q rfl (V.ldBA [_,_,_,_,_] V273 O273 rfl (D96.get 13 rfl) rfl rfl) (Rn.als rfl rfl rfl Tryz.zeroValue273 rfl O273 rfl rfl rfl rfl (by first|exact ones rfl|(simp [Value.oneCell'];done)) ?_)));intro b103 w103 hb103 m103 e103;have D105:=(D96.addBox hb103 e103 m103).nb;refine gg 4 rfl (Rn.q rfl (V.ldBA [_,_] V34 O34 rfl (D105.get 17 rfl) rfl rfl) (gg 1 rfl (Rn.q rfl (V.ldBA [_,_] V34 O34 rfl (D105.get 17 rfl) rfl rfl) ?_)));obtain ⟨p106,e106,Y⟩:=bindE Y
  refine Rn.c0 (cK func238) (m_fold_cover_sim (Z0:=All) e106 (T_api_Side.relA (D105.get 8 rfl)) (T_api_Side.relA (D105.get 10 rfl)) :) D105 λw106 _ D107=>?_
  replace D107:=D107.nq;refine gg 12 rfl ?_;refine bD Y 2 7 (λh108 Y=>?_) (λh108 Y=>?_)
  ·refine Rn.q rfl (V.bldS (cs:=[_,_,_,_,_,_]) st36 rfl rfl) (Rn.sn D107 6 O36 λw109 D110=>?_);refine gg 2 rfl ?_;have D111:=D110.addNil 31 w64R;have D114:=D111.freeze 18 rfl;have D115:=D114.addNil 31 w64R;have D118:=D115.freeze 19 rfl;refine Rn.retG2 func217 rfl (rvC rfl V36 O36 (D110.get 6 rfl) rfl) (rvT rfl) ?_;obtain rfl:=someE Y;exact ⟨none,0,none,0,rfl,D118.pk [18,19]⟩
  refine bD Y 1 2 (λh119 Y=>?_) (λh119 Y=>?_)
  ·exact K3 (y91,A92,c92,A94,c94) _ _ sA (D107.pk [0,1,2,3,4,5,6,7,8,9,10,11,12,13,14,15,16]) Y
  refine Rn.jF D107 [0,1,2,3,4,5,6,7,8,9,10,11,12,13,17,99,99,99] Y (G:=T_api_Hist×Option Addr×Nat×Option Addr×Nat) (λg=>[(4,pt b19 0),(15,pt b65 0),(17,pt b103 0),(18,iv p106.1),(71,.slice (some ⟨b68,0,none⟩) 2 2),(72,iv 2),(73,iv 1)]) (λg=>[_,_,_,_,_,_,_,_,_,_,_,_,_,_,_,ownR 31 (g.2.1) (g.2.2.1) w64R (g.1).Pos.Counts,ownR 31 (g.2.2.2.1) (g.2.2.2.2) w64R (g.1).Neg.Counts,boxR b65 36 [iv (g.1).Scale,u64v (g.1).Zero,iv (g.1).Pos.Offset,.slice (g.2.1) ((g.1).Pos.Counts).length (g.2.2.1),iv (g.1).Neg.Offset,.slice (g.2.2.2.1) ((g.1).Neg.Counts).length (g.2.2.2.2)]]) (λj g=>j g.1) ?_ ?_
  ·rintro ⟨y120,A121,c121,A123,c123⟩ w125 D125 Y
   try dsimp only at Y
   refine gg 3 rfl (Rn.q rfl (V.ldB V272 rfl (D125.get 14 rfl) rfl) (gg 2 rfl (Rn.q rfl (V.ldB V32 rfl (D125.get 17 rfl) rfl) (Rn.q rfl (V.lenV U32 rfl) (gg 2 rfl ?_)))));refine Rn.jF D125 [0,1,2,3,4,5,6,7,8,9,10,11,12,13,14,99,99,99] Y (G:=T_api_Hist×Option Addr×Nat×Option Addr×Nat) (λg=>[(4,pt b19 0),(15,pt b65 0),(71,.slice (some ⟨b68,0,none⟩) 2 2),(72,iv 2),(73,iv 1)]) (λg=>[_,_,_,_,_,_,_,_,_,_,_,_,_,_,_,ownR 31 (g.2.1) (g.2.2.1) w64R (g.1).Pos.Counts,ownR 31 (g.2.2.2.1) (g.2.2.2.2) w64R (g.1).Neg.Counts,boxR b65 36 [iv (g.1).Scale,u64v (g.1).Zero,iv (g.1).Pos.Offset,.slice (g.2.1) ((g.1).Pos.Counts).length (g.2.2.1),iv (g.1).Neg.Offset,.slice (g.2.2.2.1) ((g.1).Neg.Counts).length (g.2.2.2.2)]]) (λj g=>j g.1) ?_ ?_
   ·rintro ⟨y126,A127,c127,A129,c129⟩ w131 D131 Y
    try dsimp only at Y
    refine gg 1 rfl ?_;exact K3 (y126,A127,c127,A129,c129) _ _ sA (D131.pk [0,1,2,3,4,5,6,7,8,9,10,11,12,13,15,16,17]) Y
   intro j5 Y K5;refine gg 1 rfl ?_;refine Rn.lF D125 [0,1,2,3,4,5,6,7,8,9,10,11,12,13,14,99,99,99] (G:=Int×T_api_Hist×Option Addr×Nat×Option Addr×Nat) (λg=>[(4,pt b19 0),(15,pt b65 0),(17,pt b103 0),(18,iv p106.1),(71,.slice (some ⟨b68,0,none⟩) 2 2),(72,iv 2),(73,iv 1),(106,iv (y120.Neg.Counts.length:Int)),(107,iv (g.1))]) (λg=>[_,_,_,_,_,_,_,_,_,_,_,_,_,_,_,ownR 31 (g.2.2.1) (g.2.2.2.1) w64R (g.2.1).Pos.Counts,ownR 31 (g.2.2.2.2.1) (g.2.2.2.2.2) w64R (g.2.1).Neg.Counts,boxR b65 36 [iv (g.2.1).Scale,u64v (g.2.1).Zero,iv (g.2.1).Pos.Offset,.slice (g.2.2.1) ((g.2.1).Pos.Counts).length (g.2.2.2.1),iv (g.2.1).Neg.Offset,.slice (g.2.2.2.2.1) ((g.2.1).Neg.Counts).length (g.2.2.2.2.2)]]) (λn g=>m_fold_Merge_L1 p22 p106 y120 j5 n g.1 g.2.1) fuel (0,y120,A121,c121,A123,c123) sA (D125.pk [0,1,2,3,4,5,6,7,8,9,10,11,12,13,14,15,16,17]) Y ?_;clear Y;rintro m138 ⟨y132,y133,A134,c134,A136,c136⟩ w138 D138 Y N138;replace Y:m_fold_Merge_L1 p22 p106 y120 j5 (m138+1) y132 y133=some r:=Y;rw [m_fold_Merge_L1] at Y;refine gg 5 rfl ?_;refine bD Y 8 1 (λh139 Y=>?_) (λh139 Y=>?_)
   ·refine Rn.drawK 20 rfl D138 (by kernel_rfl) ?_;intro w140 D140;refine dq [0] ?_;refine RH.tk 1 rfl (λw' hDr=>V.ldB V272 rfl ((D140.ext hDr).get 14 rfl) rfl) ?_;refine dq [2,3] ?_;refine RH.tk 4 rfl (λw' hDr=>V.ldB V32 rfl ((D140.ext hDr).get 17 rfl) rfl) ?_;refine dq [5,6] ?_;refine RH.tk 7 rfl (λw' hDr=>V.ldBA [_,_] V34 O34 rfl ((D140.ext hDr).get 14 rfl) rfl rfl) ?_;refine dq [8,9,10,12] ?_;refine RH.tk 13 rfl (λw' hDr=>V.ldBA [_,_] V34 O34 rfl ((D140.ext hDr).get 14 rfl) rfl rfl) ?_;refine dq [14,15,16] ?_;obtain ⟨p141,e141,Y⟩:=bindE Y;refine RH.cq (cK func236) 11 (m_hist_At_sim (Z0:=All) e141 (T_api_Side.relA (D140.get 8 rfl)) :) ?_;rintro _ w141 ⟨rfl,Q141⟩;refine ⟨_,rfl,((Ext.refl _).trans Q141.fr),?_⟩;have D142:=D140.call0 Q141;obtain ⟨p143,e143,Y⟩:=bindE Y;refine RH.cq (cK func236) 17 (m_hist_At_sim (Z0:=All) e143 (T_api_Side.relA (D142.get 10 rfl)) :) ?_;rintro _ w143 ⟨rfl,Q143⟩;refine ⟨_,rfl,(((Ext.refl _).trans Q141.fr).trans Q143.fr),?_⟩;have D144:=D142.call0 Q143;refine RH.ho 18 rfl (V.ari64 (a:=p141) (b:=p143) rfl rfl _ rfl (toU64_add _ _)) ?_;obtain ⟨z145,e145,Y⟩:=bindE Y;obtain ⟨kk145,ke145,kz145,kl145⟩:=idxE e145;obtain ⟨g145,vs145,hA145,hR145,hrel145⟩:=D144.ownAt 16 rfl kz145;subst hA145;obtain ⟨rfl,_⟩:=hrel145;refine RH.ho 19 rfl (V.ixE kk145 U32 O31 rfl rfl ke145 kl145) ?_;refine RG.tailK (by kernel_rfl) ?_;refine RH.stI 20 (by kernel_rfl) D144 16 rfl ke145 kl145 rfl rfl O31 rfl rfl rfl (vs:=[u64v (p141+p143)]) rfl (⟨rfl,trivial⟩) ?_;intro w146 D146;refine ⟨trivial,?_⟩;refine RH.dn ?_;refine gg 5 rfl ?_;have D147:=(D146.reBox 17 rfl (congrArg (λ(n0:Nat)=>([iv y133.Scale,u64v y133.Zero,iv y133.Pos.Offset,.slice A134 (y133.Pos.Counts).length c134,iv y133.Neg.Offset,.slice (some ⟨g145,0,none⟩) n0 c136]:List Value)) (show (y133.Neg.Counts).length=((setI y133.Neg.Counts y132 (p141+p143))).length from ((length_setI _ _ _)).symm.trans (rfl)))).nf [_,_,_,_,_,_,_,_,_,_,_,_,_,_,_,_,_,boxR _ _ [_,_,_,_,_,_]] rfl;exact N138 ((W64 (y132+1)),(⟨y133.Scale,y133.Zero,y133.Pos,(⟨y133.Neg.Offset,(setI y133.Neg.Counts y132 (p141+p143))⟩:T_api_Side)⟩:T_api_Hist),A134,c134,(some ⟨g145,0,none⟩),c136) _ _ sA (D147.pk [0,1,2,3,4,5,6,7,8,9,10,11,12,13,14,15,16,17]) Y
   exact K5 (y133,A134,c134,A136,c136) _ _ sA (D138.pk [0,1,2,3,4,5,6,7,8,9,10,11,12,13,14,15,16,17]) Y
  intro j4 Y K4;have D157:=(D107.cutF [4,5,6,11,12,13,14,15,17] [16] [0,1,2,3,7,8,9,10] rfl (by decide) ⟨λ_ h=>h,λ_ h=>h,λ_ h=>h,λ_ h=>h,λ_ h=>h,λ_ h=>h,λ_ h=>h,λ_ h=>h,trivial⟩).nf ([_,_,_,_,_,_,_,_,_,_,_,_,_,_,_,_,_]++[_,_,_,_,_,_,_,_,_]) rfl;refine Rn.drawF rfl D157 ?_;intro w158 hmo158 D158;refine dq [0] ?_;refine RH.tk 1 rfl (λw' hDr=>V.ldB V272 rfl ((hmo158.awayK hDr).get 8 rfl) rfl) ?_;refine dq [2] ?_;refine RH.tk 3 rfl (λw' hDr=>V.ldB V272 rfl ((hmo158.awayK hDr).get 8 rfl) rfl) ?_;refine dq [4,5,7,8] ?_;obtain ⟨z159,e159,Y⟩:=bindE Y;refine RH.both 6 9 (by kernel_rfl) ?_ ?_
  ·have e167:=e159;refine RB.mkSlH (rep:=w64R) 6 D158 e167 rfl rfl rfl U32 el31 rfl (zs:=[u64v (0:UInt64)]) (by kernel_rfl) rfl rfl (λ_ _=>⟨rfl,trivial⟩) ?_;intro b167 w167 D167 x167;refine ⟨D167.fr,?_⟩
   refine RH.sn 9 D167 0 O3 λw169 D170=>?_
   refine ⟨D170.fr,?_⟩;refine dq [10,11] ?_
   refine RH.sn 12 D170 0 O32 λw171 D172=>?_
   refine ⟨D172.fr,?_⟩;refine RH.dn ?_;have D173:=hmo158.callAZ D172;have D174:=(D173.pk [0,1,2,3,4,5,6,7,8,17,18,19,20,21,22,23,24,25,26]).nq;exact K4 ((⟨y91.Scale,y91.Zero,y91.Pos,(⟨p106.1,z159⟩:T_api_Side)⟩:T_api_Hist),A92,c92,(some ⟨b167,0,none⟩),((z159).length)) _ _ sA (D174.pk [10,11,12,13,0,1,2,14,15,16,17,3,4,5,8,6,18,9]) Y
  refine RB.sn 9 D158 0 O3 λw175 D176=>?_
  refine ⟨D176.fr,?_⟩;have e177:=e159;refine RH.mkSlH (rep:=w64R) 6 (by kernel_rfl) D176 e177 rfl rfl rfl U32 el31 rfl (zs:=[u64v (0:UInt64)]) (by kernel_rfl) rfl rfl (λ_ _=>⟨rfl,trivial⟩) ?_;intro b177 w177 D177 x177;refine ⟨D177.fr,?_⟩;refine dq [10,11] ?_
  refine RH.sn 12 D177 0 O32 λw179 D180=>?_
  refine ⟨D180.fr,?_⟩;refine RH.dn ?_;have D181:=hmo158.callAZ D180;have D182:=(D181.pk [0,1,2,3,4,5,6,7,8,17,18,19,20,21,22,23,24,25,26]).nq;exact K4 ((⟨y91.Scale,y91.Zero,y91.Pos,(⟨p106.1,z159⟩:T_api_Side)⟩:T_api_Hist),A92,c92,(some ⟨b177,0,none⟩),((z159).length)) _ _ sA (D182.pk [10,11,12,13,0,1,2,14,15,16,17,3,4,5,8,6,18,9]) Y
 intro j2 Y K2;refine gg 3 rfl (Rn.q rfl (V.ixA' rfl 0 U274 O273 rfl rfl rfl (by decide)) (Rn.q rfl (V.ldBA [_,_,_,_,_] V273 O273 rfl (D78.get 14 rfl) rfl rfl) (Rn.als rfl rfl rfl Tryz.zeroValue273 rfl O273 rfl rfl rfl rfl (by first|exact ones rfl|(simp [Value.oneCell'];done)) ?_)));intro b183 w183 hb183 m183 e183;have D185:=(D78.addBox hb183 e183 m183).nb;refine gg 4 rfl (Rn.q rfl (V.ldBA [_,_] V34 O34 rfl (D185.get 15 rfl) rfl rfl) (gg 1 rfl (Rn.q rfl (V.ldBA [_,_] V34 O34 rfl (D185.get 15 rfl) rfl rfl) ?_)));obtain ⟨p186,e186,Y⟩:=bindE Y
 refine Rn.c0 (cK func238) (m_fold_cover_sim (Z0:=All) e186 (T_api_Side.relA (D185.get 7 rfl)) (T_api_Side.relA (D185.get 9 rfl)) :) D185 λw186 _ D187=>?_
 replace D187:=D187.nq;refine gg 12 rfl ?_;refine bD Y 2 7 (λh188 Y=>?_) (λh188 Y=>?_)
 ·refine Rn.q rfl (V.bldS (cs:=[_,_,_,_,_,_]) st36 rfl rfl) (Rn.sn D187 6 O36 λw189 D190=>?_);refine gg 2 rfl ?_;have D191:=D190.addNil 31 w64R;have D194:=D191.freeze 16 rfl;have D195:=D194.addNil 31 w64R;have D198:=D195.freeze 17 rfl;refine Rn.retG2 func217 rfl (rvC rfl V36 O36 (D190.get 6 rfl) rfl) (rvT rfl) ?_;obtain rfl:=someE Y;exact ⟨none,0,none,0,rfl,D198.pk [16,17]⟩
 refine bD Y 1 2 (λh199 Y=>?_) (λh199 Y=>?_)
 ·have D200:=D187.addNil 31 w64R;have D202:=D200.addNil 31 w64R;exact K2 ((⟨p22.1.Scale,p22.1.Zero+p22.2.1.Zero,(⟨0,([]:List UInt64)⟩:T_api_Side),(⟨0,([]:List UInt64)⟩:T_api_Side)⟩:T_api_Hist),none,0,none,0) _ _ sA (D202.pk [0,1,2,3,4,5,6,7,8,9,10,11,12,14,16,17,13]) Y
 refine Rn.jF D187 [0,1,2,3,4,5,6,7,8,9,10,11,12,14,15,99,99,99] Y (G:=T_api_Hist×Option Addr×Nat×Option Addr×Nat) (λg=>[(4,pt b19 0),(15,pt b65 0),(17,pt b183 0),(18,iv p186.1),(71,.slice (some ⟨b68,0,none⟩) 2 2),(72,iv 2),(73,iv 0)]) (λg=>[_,_,_,_,_,_,_,_,_,_,_,_,_,_,_,ownR 31 (g.2.1) (g.2.2.1) w64R (g.1).Pos.Counts,ownR 31 (g.2.2.2.1) (g.2.2.2.2) w64R (g.1).Neg.Counts,boxR b65 36 [iv (g.1).Scale,u64v (g.1).Zero,iv (g.1).Pos.Offset,.slice (g.2.1) ((g.1).Pos.Counts).length (g.2.2.1),iv (g.1).Neg.Offset,.slice (g.2.2.2.1) ((g.1).Neg.Counts).length (g.2.2.2.2)]]) (λj g=>j g.1) ?_ ?_
 ·rintro ⟨y204,A205,c205,A207,c207⟩ w209 D209 Y
  try dsimp only at Y
  refine gg 3 rfl (Rn.q rfl (V.ldB V272 rfl (D209.get 14 rfl) rfl) (gg 2 rfl (Rn.q rfl (V.ldB V32 rfl (D209.get 17 rfl) rfl) (Rn.q rfl (V.lenV U32 rfl) (gg 2 rfl ?_)))));refine Rn.jF D209 [0,1,2,3,4,5,6,7,8,9,10,11,12,13,14,99,99,99] Y (G:=T_api_Hist×Option Addr×Nat×Option Addr×Nat) (λg=>[(4,pt b19 0),(15,pt b65 0),(71,.slice (some ⟨b68,0,none⟩) 2 2),(72,iv 2),(73,iv 0)]) (λg=>[_,_,_,_,_,_,_,_,_,_,_,_,_,_,_,ownR 31 (g.2.1) (g.2.2.1) w64R (g.1).Pos.Counts,ownR 31 (g.2.2.2.1) (g.2.2.2.2) w64R (g.1).Neg.Counts,boxR b65 36 [iv (g.1).Scale,u64v (g.1).Zero,iv (g.1).Pos.Offset,.slice (g.2.1) ((g.1).Pos.Counts).length (g.2.2.1),iv (g.1).Neg.Offset,.slice (g.2.2.2.1) ((g.1).Neg.Counts).length (g.2.2.2.2)]]) (λj g=>j g.1) ?_ ?_
  ·rintro ⟨y210,A211,c211,A213,c213⟩ w215 D215 Y
   try dsimp only at Y
   refine gg 1 rfl ?_;exact K2 (y210,A211,c211,A213,c213) _ _ sA (D215.pk [0,1,2,3,4,5,6,7,8,9,10,11,12,13,15,16,17]) Y
  intro j7 Y K7;refine gg 1 rfl ?_;refine Rn.lF D209 [0,1,2,3,4,5,6,7,8,9,10,11,12,13,14,99,99,99] (G:=Int×T_api_Hist×Option Addr×Nat×Option Addr×Nat) (λg=>[(4,pt b19 0),(15,pt b65 0),(17,pt b183 0),(18,iv p186.1),(71,.slice (some ⟨b68,0,none⟩) 2 2),(72,iv 2),(73,iv 0),(106,iv (y204.Pos.Counts.length:Int)),(107,iv (g.1))]) (λg=>[_,_,_,_,_,_,_,_,_,_,_,_,_,_,_,ownR 31 (g.2.2.1) (g.2.2.2.1) w64R (g.2.1).Pos.Counts,ownR 31 (g.2.2.2.2.1) (g.2.2.2.2.2) w64R (g.2.1).Neg.Counts,boxR b65 36 [iv (g.2.1).Scale,u64v (g.2.1).Zero,iv (g.2.1).Pos.Offset,.slice (g.2.2.1) ((g.2.1).Pos.Counts).length (g.2.2.2.1),iv (g.2.1).Neg.Offset,.slice (g.2.2.2.2.1) ((g.2.1).Neg.Counts).length (g.2.2.2.2.2)]]) (λn g=>m_fold_Merge_L2 p22 p186 y204 j7 n g.1 g.2.1) fuel (0,y204,A205,c205,A207,c207) sA (D209.pk [0,1,2,3,4,5,6,7,8,9,10,11,12,13,14,15,16,17]) Y ?_;clear Y;rintro m222 ⟨y216,y217,A218,c218,A220,c220⟩ w222 D222 Y N222;replace Y:m_fold_Merge_L2 p22 p186 y204 j7 (m222+1) y216 y217=some r:=Y;rw [m_fold_Merge_L2] at Y;refine gg 5 rfl ?_;refine bD Y 8 1 (λh223 Y=>?_) (λh223 Y=>?_)
  ·refine Rn.drawK 20 rfl D222 (by kernel_rfl) ?_;intro w224 D224;refine dq [0] ?_;refine RH.tk 1 rfl (λw' hDr=>V.ldB V272 rfl ((D224.ext hDr).get 14 rfl) rfl) ?_;refine dq [2,3] ?_;refine RH.tk 4 rfl (λw' hDr=>V.ldB V32 rfl ((D224.ext hDr).get 17 rfl) rfl) ?_;refine dq [5,6] ?_;refine RH.tk 7 rfl (λw' hDr=>V.ldBA [_,_] V34 O34 rfl ((D224.ext hDr).get 14 rfl) rfl rfl) ?_;refine dq [8,9,10,12] ?_;refine RH.tk 13 rfl (λw' hDr=>V.ldBA [_,_] V34 O34 rfl ((D224.ext hDr).get 14 rfl) rfl rfl) ?_;refine dq [14,15,16] ?_;obtain ⟨p225,e225,Y⟩:=bindE Y;refine RH.cq (cK func236) 11 (m_hist_At_sim (Z0:=All) e225 (T_api_Side.relA (D224.get 7 rfl)) :) ?_;rintro _ w225 ⟨rfl,Q225⟩;refine ⟨_,rfl,((Ext.refl _).trans Q225.fr),?_⟩;have D226:=D224.call0 Q225;obtain ⟨p227,e227,Y⟩:=bindE Y;refine RH.cq (cK func236) 17 (m_hist_At_sim (Z0:=All) e227 (T_api_Side.relA (D226.get 9 rfl)) :) ?_;rintro _ w227 ⟨rfl,Q227⟩;refine ⟨_,rfl,(((Ext.refl _).trans Q225.fr).trans Q227.fr),?_⟩;have D228:=D226.call0 Q227;refine RH.ho 18 rfl (V.ari64 (a:=p225) (b:=p227) rfl rfl _ rfl (toU64_add _ _)) ?_;obtain ⟨z229,e229,Y⟩:=bindE Y;obtain ⟨kk229,ke229,kz229,kl229⟩:=idxE e229;obtain ⟨g229,vs229,hA229,hR229,hrel229⟩:=D228.ownAt 15 rfl kz229;subst hA229;obtain ⟨rfl,_⟩:=hrel229;refine RH.ho 19 rfl (V.ixE kk229 U32 O31 rfl rfl ke229 kl229) ?_;refine RG.tailK (by kernel_rfl) ?_;refine RH.stI 20 (by kernel_rfl) D228 15 rfl ke229 kl229 rfl rfl O31 rfl rfl rfl (vs:=[u64v (p225+p227)]) rfl (⟨rfl,trivial⟩) ?_;intro w230 D230;refine ⟨trivial,?_⟩;refine RH.dn ?_;refine gg 5 rfl ?_;have D231:=(D230.reBox 17 rfl (congrArg (λ(n0:Nat)=>([iv y217.Scale,u64v y217.Zero,iv y217.Pos.Offset,.slice (some ⟨g229,0,none⟩) n0 c218,iv y217.Neg.Offset,.slice A220 (y217.Neg.Counts).length c220]:List Value)) (show (y217.Pos.Counts).length=((setI y217.Pos.Counts y216 (p225+p227))).length from ((length_setI _ _ _)).symm.trans (rfl)))).nf [_,_,_,_,_,_,_,_,_,_,_,_,_,_,_,_,_,boxR _ _ [_,_,_,_,_,_]] rfl;exact N222 ((W64 (y216+1)),(⟨y217.Scale,y217.Zero,(⟨y217.Pos.Offset,(setI y217.Pos.Counts y216 (p225+p227))⟩:T_api_Side),y217.Neg⟩:T_api_Hist),(some ⟨g229,0,none⟩),c218,A220,c220) _ _ sA (D231.pk [0,1,2,3,4,5,6,7,8,9,10,11,12,13,14,15,16,17]) Y
  exact K7 (y217,A218,c218,A220,c220) _ _ sA (D222.pk [0,1,2,3,4,5,6,7,8,9,10,11,12,13,14,15,16,17]) Y
 intro j6 Y K6;have D241:=(D187.cutF [4,5,6,11,12,14,15] [13] [0,1,2,3,7,8,9,10] rfl (by decide) ⟨λ_ h=>h,λ_ h=>h,λ_ h=>h,λ_ h=>h,λ_ h=>h,λ_ h=>h,λ_ h=>h,λ_ h=>h,trivial⟩).nf ([_,_,_,_,_,_,_,_,_,_,_,_,_,_,_]++[_,_,_,_,_,_,_,_,_]) rfl;refine Rn.drawF rfl D241 ?_;intro w242 hmo242 D242;refine dq [0] ?_;refine RH.tk 1 rfl (λw' hDr=>V.ldB V272 rfl ((hmo242.awayK hDr).get 6 rfl) rfl) ?_;refine dq [2] ?_;refine RH.tk 3 rfl (λw' hDr=>V.ldB V272 rfl ((hmo242.awayK hDr).get 6 rfl) rfl) ?_;refine dq [4,5,7,8] ?_;obtain ⟨z243,e243,Y⟩:=bindE Y;refine RH.both 6 9 (by kernel_rfl) ?_ ?_
 ·have e251:=e243;refine RB.mkSlH (rep:=w64R) 6 D242 e251 rfl rfl rfl U32 el31 rfl (zs:=[u64v (0:UInt64)]) (by kernel_rfl) rfl rfl (λ_ _=>⟨rfl,trivial⟩) ?_;intro b251 w251 D251 x251;refine ⟨D251.fr,?_⟩
  refine RH.sn 9 D251 0 O3 λw253 D254=>?_
  refine ⟨D254.fr,?_⟩;refine dq [10,11] ?_
  refine RH.sn 12 D254 0 O32 λw255 D256=>?_
  refine ⟨D256.fr,?_⟩;refine RH.dn ?_;have D257:=hmo242.callAZ D256;have D258:=(D257.pk [0,1,2,3,4,5,6,15,16,17,18,19,20,21,22,23,24]).nq;have D259:=D258.addNil 31 w64R;exact K6 ((⟨p22.1.Scale,p22.1.Zero+p22.2.1.Zero,(⟨p186.1,z243⟩:T_api_Side),(⟨0,([]:List UInt64)⟩:T_api_Side)⟩:T_api_Hist),(some ⟨b251,0,none⟩),((z243).length),none,0) _ _ sA (D259.pk [8,9,10,11,0,1,2,12,13,14,15,3,4,5,6,16,17,7]) Y
 refine RB.sn 9 D242 0 O3 λw261 D262=>?_
 refine ⟨D262.fr,?_⟩;have e263:=e243;refine RH.mkSlH (rep:=w64R) 6 (by kernel_rfl) D262 e263 rfl rfl rfl U32 el31 rfl (zs:=[u64v (0:UInt64)]) (by kernel_rfl) rfl rfl (λ_ _=>⟨rfl,trivial⟩) ?_;intro b263 w263 D263 x263;refine ⟨D263.fr,?_⟩;refine dq [10,11] ?_
 refine RH.sn 12 D263 0 O32 λw265 D266=>?_
 refine ⟨D266.fr,?_⟩;refine RH.dn ?_;have D267:=hmo242.callAZ D266;have D268:=(D267.pk [0,1,2,3,4,5,6,15,16,17,18,19,20,21,22,23,24]).nq;have D269:=D268.addNil 31 w64R;exact K6 ((⟨p22.1.Scale,p22.1.Zero+p22.2.1.Zero,(⟨p186.1,z243⟩:T_api_Side),(⟨0,([]:List UInt64)⟩:T_api_Side)⟩:T_api_Hist),(some ⟨b263,0,none⟩),((z243).length),none,0) _ _ sA (D269.pk [8,9,10,11,0,1,2,12,13,14,15,3,4,5,6,16,17,7]) Y
theorem m_tocum_Together_sim {x0:T_api_Hist} {x1:T_api_Hist} {x2:Int} {r:(T_api_Hist×Bool)} (Y:m_tocum_Together x0 x1 x2=some r) (h0:T_api_Hist.rep.rel Z0 w cs0 x0) (h1:T_api_Hist.rep.rel Z0 w cs1 x1) :
 Calls prog 190 #[.agg cs0.toArray,.agg cs1.toArray,iv x2] w λx w'=>∃ A_0_0 c_0_0 A_0_1 c_0_1,x=.returned (.tuple #[.agg [iv r.1.Scale,u64v r.1.Zero,iv r.1.Pos.Offset,.slice A_0_0 (r.1.Pos.Counts).length c_0_0,iv r.1.Neg.Offset,.slice A_0_1 (r.1.Neg.Counts).length c_0_1].toArray,.bool (r.2)])∧Hp Z0 No w w' [slR A_0_0 c_0_0 w64R r.1.Pos.Counts,slR A_0_1 c_0_1 w64R r.1.Neg.Counts]:=by
 have D0:=Hp.nil Z0 No w;have hc0:=Calm.nil;obtain ⟨Ar1,cr1,Ar3,cr3,rfl,fs1,fs3⟩:=T_api_Hist.relE h0;obtain ⟨D9,hc0⟩:=D0.kn hc0 fs1;obtain ⟨D10,hc0⟩:=D9.kn hc0 fs3;obtain ⟨Ar5,cr5,Ar7,cr7,rfl,fs5,fs7⟩:=T_api_Hist.relE h1;obtain ⟨D11,hc0⟩:=D10.kn hc0 fs5;obtain ⟨D12,hc0⟩:=D11.kn hc0 fs7;refine eg func190 2 ?_
 refine Rn.bx D12 λb13 w13 D15=>?_
 replace D15:=D15.nb
 refine Rn.bx D15 λb16 w16 D18=>?_
 replace D18:=D18.nb
 refine Rn.al D18 Tryz.zeroValue36 λb19 w19 D21=>?_
 replace D21:=D21.nb;refine gg 4 rfl (Rn.q rfl (V.ldBA [_,_,_,_,_,_] V36 O36 rfl (D21.get 4 rfl) rfl rfl) (Rn.q rfl (V.ldBA [_,_,_,_,_,_] V36 O36 rfl (D21.get 5 rfl) rfl rfl) ?_));obtain ⟨p22,e22,Y⟩:=bindE Y;refine Rn.cq (cK func142) (m_fold_Level_sim (Z0:=All) e22 (T_api_Hist.relA (D21.get 0 rfl) (D21.get 1 rfl)) (T_api_Hist.relA (D21.get 2 rfl) (D21.get 3 rfl)) :) ?_;rintro _ w22 ⟨A22_0_0,c22_0_0,A22_0_1,c22_0_1,A22_1_0,c22_1_0,A22_1_1,c22_1_1,rfl,Q22⟩;refine ⟨_,rfl,?_⟩;have D27:=D21.callF (flC (ownR_flat w64_flat _ _ _ _) (flC (ownR_flat w64_flat _ _ _ _) (flC (ownR_flat w64_flat _ _ _ _) (flC (ownR_flat w64_flat _ _ _ _) fl0)))) Q22;replace D27:=D27.nq;refine gg 4 rfl (Rn.al D27 Tryz.zeroValue36 λb28 w28 D30=>?_);replace D30:=D30.nb
 refine Rn.al D30 Tryz.zeroValue36 λb31 w31 D33=>?_
 replace D33:=D33.nb
 refine Rn.sn D33 11 O36 λw34 D35=>?_
 refine Rn.sn D35 12 O36 λw36 D37=>?_
 refine gg 8 rfl ?_;refine bD Y 2 2 (λh38 Y=>?_) (λh38 Y=>?_)
 ·refine Rn.q rfl (V.bldS (cs:=[_,_,_,_,_,_]) st36 rfl rfl) (Rn.sn D37 6 O36 λw39 D40=>?_);refine gg 2 rfl ?_;have D41:=D40.addNil 31 w64R;have D44:=D41.freeze 13 rfl;have D45:=D44.addNil 31 w64R;have D48:=D45.freeze 14 rfl;refine Rn.retG2 func190 rfl (rvC rfl V36 O36 (D40.get 6 rfl) rfl) (rvT rfl) ?_;obtain rfl:=someE Y;exact ⟨none,0,none,0,rfl,D48.pk [13,14]⟩
 refine Rn.lF D37 [0,1,2,3,4,5,6,99,99,99,99,99,99] (G:=T_api_Hist×T_api_Hist×Option Addr×Nat×Option Addr×Nat×Option Addr×Nat×Option Addr×Nat) (λg=>[(2,iv x2),(6,pt b19 0),(8,pt b28 0),(9,pt b31 0)]) (λg=>[_,_,_,_,_,_,_,ownR 31 (g.2.2.1) (g.2.2.2.1) w64R (g.1).Pos.Counts,ownR 31 (g.2.2.2.2.1) (g.2.2.2.2.2.1) w64R (g.1).Neg.Counts,boxR b28 36 [iv (g.1).Scale,u64v (g.1).Zero,iv (g.1).Pos.Offset,.slice (g.2.2.1) ((g.1).Pos.Counts).length (g.2.2.2.1),iv (g.1).Neg.Offset,.slice (g.2.2.2.2.1) ((g.1).Neg.Counts).length (g.2.2.2.2.2.1)],ownR 31 (g.2.2.2.2.2.2.1) (g.2.2.2.2.2.2.2.1) w64R (g.2.1).Pos.Counts,ownR 31 (g.2.2.2.2.2.2.2.2.1) (g.2.2.2.2.2.2.2.2.2) w64R (g.2.1).Neg.Counts,boxR b31 36 [iv (g.2.1).Scale,u64v (g.2.1).Zero,iv (g.2.1).Pos.Offset,.slice (g.2.2.2.2.2.2.1) ((g.2.1).Pos.Counts).length (g.2.2.2.2.2.2.2.1),iv (g.2.1).Neg.Offset,.slice (g.2.2.2.2.2.2.2.2.1) ((g.2.1).Neg.Counts).length (g.2.2.2.2.2.2.2.2.2)]]) (λn g=>m_tocum_Together_L1 x2 n g.1 g.2.1) fuel (p22.1,p22.2.1,A22_0_0,c22_0_0,A22_0_1,c22_0_1,A22_1_0,c22_1_0,A22_1_1,c22_1_1) sA (D37.pk [0,1,2,3,4,5,6,7,8,11,9,10,12]) Y ?_;clear Y;rintro m59 ⟨y49,y54,A50,c50,A52,c52,A55,c55,A57,c57⟩ w59 D59 Y N59;replace Y:m_tocum_Together_L1 x2 (m59+1) y49 y54=some r:=Y;rw [m_tocum_Together_L1] at Y;refine gg 3 rfl (Rn.q rfl (V.ldBA [_,_,_,_,_,_] V36 O36 rfl (D59.get 9 rfl) rfl rfl) (Rn.q rfl (V.ldBA [_,_,_,_,_,_] V36 O36 rfl (D59.get 12 rfl) rfl rfl) ?_));have D62:=D59.freeze 7 rfl;have D64:=D62.freeze 8 rfl;have D66:=D64.freeze 10 rfl;have D68:=D66.freeze 11 rfl;obtain ⟨p60,e60,Y⟩:=bindE Y;refine Rn.cq (cK func217) (m_fold_Merge_sim (Z0:=D68.Z) e60 (T_api_Hist.relI (D68.get 7 rfl) (D68.get 8 rfl)) (T_api_Hist.relI (D68.get 10 rfl) (D68.get 11 rfl)) :) ?_;rintro _ w60 ⟨A60_0_0,c60_0_0,A60_0_1,c60_0_1,rfl,Q60⟩;refine ⟨_,rfl,?_⟩;have D71:=D68.callZ Q60;replace D71:=D71.nq;refine gg 3 rfl (Rn.als rfl rfl rfl Tryz.zeroValue36 rfl O36 rfl rfl rfl rfl (by first|exact ones rfl|(simp [Value.oneCell'];done)) ?_);intro b72 w72 hb72 m72 e72;have D74:=(D71.addBox hb72 e72 m72).nb;refine gg 10 rfl ?_;refine bD Y 2 5 (λh75 Y=>?_) (λh75 Y=>?_)
 ·refine Rn.q rfl (V.bldS (cs:=[_,_,_,_,_,_]) st36 rfl rfl) (Rn.sn D74 6 O36 λw76 D77=>?_);refine gg 2 rfl ?_;have D78:=D77.addNil 31 w64R;have D81:=D78.freeze 16 rfl;have D82:=D81.addNil 31 w64R;have D85:=D82.freeze 17 rfl;refine Rn.retG2 func190 rfl (rvC rfl V36 O36 (D77.get 6 rfl) rfl) (rvT rfl) ?_;obtain rfl:=someE Y;exact ⟨none,0,none,0,rfl,D85.pk [16,17]⟩
 refine Rn.jQ D74 [0,1,2,3,4,5,6,7,8,9,10,11,12,13,14,15] Y (G:=Bool) [15] (λg=>[(2,iv x2),(6,pt b19 0),(8,pt b28 0),(9,pt b31 0),(11,pt b72 0),(48,.bool (g))]) (λg=>[_,_,_,_,_,_,_,_,_,_,_,_,_,_,_,_]) (λj g=>j g) ?_ ?_
 ·rintro y86 w87 D87 Y
  try dsimp only at Y
  refine gg 2 rfl ?_;refine bS Y 2 3 (λh88 Y=>?_) (λh88 Y=>?_)
  ·refine Rn.q rfl (V.ldBA [_,_,_,_,_,_] V36 O36 rfl (D87.get 15 rfl) rfl rfl) (Rn.sn D87 6 O36 λw89 D90=>?_);refine gg 2 rfl ?_;refine Rn.retG2 func190 rfl (rvC rfl V36 O36 (D90.get 6 rfl) rfl) (rvT rfl) ?_;obtain rfl:=someE Y;exact ⟨A60_0_0,c60_0_0,A60_0_1,c60_0_1,rfl,D90.pk [13,14]⟩
  refine Rn.q rfl (V.ldB V3 rfl (D87.get 9 rfl) rfl) (gg 3 rfl ?_);refine bD Y 2 4 (λh91 Y=>?_) (λh91 Y=>?_)
  ·refine Rn.q rfl (V.bldS (cs:=[_,_,_,_,_,_]) st36 rfl rfl) (Rn.sn D87 6 O36 λw92 D93=>?_);refine gg 2 rfl ?_;have D94:=D93.addNil 31 w64R;have D97:=D94.freeze 16 rfl;have D98:=D97.addNil 31 w64R;have D101:=D98.freeze 17 rfl;refine Rn.retG2 func190 rfl (rvC rfl V36 O36 (D93.get 6 rfl) rfl) (rvT rfl) ?_;obtain rfl:=someE Y;exact ⟨none,0,none,0,rfl,D101.pk [16,17]⟩
  refine Rn.q rfl (V.ldBA [_,_,_,_,_,_] V36 O36 rfl (D87.get 9 rfl) rfl rfl) ?_;obtain ⟨p102,e102,Y⟩:=bindE Y;refine Rn.cq (cK func78) (m_hist_Down_sim (Z0:=All) e102 (T_api_Hist.relA (D87.get 7 rfl) (D87.get 8 rfl)) :) ?_;rintro _ w102 ⟨A102_0_0,c102_0_0,A102_0_1,c102_0_1,rfl,Q102⟩;refine ⟨_,rfl,?_⟩;have D105:=D87.callF (flC (ownR_flat w64_flat _ _ _ _) (flC (ownR_flat w64_flat _ _ _ _) fl0)) Q102;replace D105:=D105.nq;refine gg 3 rfl (Rn.sn D105 9 O36 λw106 D107=>?_);refine gg 2 rfl (Rn.q rfl (V.ldBA [_,_,_,_,_,_] V36 O36 rfl (D107.get 12 rfl) rfl rfl) ?_);obtain ⟨p108,e108,Y⟩:=bindE Y;refine Rn.cq (cK func78) (m_hist_Down_sim (Z0:=All) e108 (T_api_Hist.relA (D107.get 10 rfl) (D107.get 11 rfl)) :) ?_;rintro _ w108 ⟨A108_0_0,c108_0_0,A108_0_1,c108_0_1,rfl,Q108⟩;refine ⟨_,rfl,?_⟩;have D111:=D107.callF (flC (ownR_flat w64_flat _ _ _ _) (flC (ownR_flat w64_flat _ _ _ _) fl0)) Q108;replace D111:=D111.nq;refine gg 3 rfl (Rn.sn D111 12 O36 λw112 D113=>?_);refine gg 2 rfl ?_;exact N59 (p102.1,p108.1,A102_0_0,c102_0_0,A102_0_1,c102_0_1,A108_0_0,c108_0_0,A108_0_1,c108_0_1) _ _ sA (D113.pk [0,1,2,3,4,5,6,16,17,9,18,19,12]) Y
 intro j1 Y K1;refine askD Y (Rn.partD (t:=36) rfl) (λh114 Y=>?_) (λh114 Y=>?_)
 ·refine gg 2 rfl (Rn.q rfl (V.ldB V32 rfl (D74.get 15 rfl) rfl) (Rn.q rfl (V.lenV U32 rfl) (gg 2 rfl (Rn.q rfl (V.ldB V32 rfl (D74.get 15 rfl) rfl) (Rn.q rfl (V.lenV U32 rfl) (Rn.q rfl (V.maxi rfl rfl) (gg 3 rfl ?_)))))));exact K1 (decide (max (p60.1.Pos.Counts.length:Int) (p60.1.Neg.Counts.length:Int)≤x2)) _ _ sA (D74.pk [0,1,2,3,4,5,6,7,8,9,10,11,12,13,14,15]) Y
 refine gg 12 rfl ?_;exact K1 false _ _ sA (D74.pk [0,1,2,3,4,5,6,7,8,9,10,11,12,13,14,15]) Y
theorem m_num_AddPhasor_sim {x0:UInt64} {x1:UInt64} {x2:UInt64} {x3:UInt64} {r:(UInt64×UInt64)} (Y:m_num_AddPhasor x0 x1 x2 x3=some r)  :
 Calls prog 191 #[u64v x0,u64v x1,u64v x2,u64v x3] w λx w'=>x=.returned (.tuple #[u64v r.1,u64v r.2])∧Hp Z0 No w w' []:=by
 have D0:=Hp.nil Z0 No w;have hc0:=Calm.nil;refine eg func191 9 ?_;obtain ⟨p1,e1,Y⟩:=bindE Y
 refine Rn.c0 (cK func215) (m_num_phasor_sim (Z0:=All) e1  :) D0 λw1 _ D2=>?_
 refine gg 2 rfl ?_;obtain ⟨p3,e3,Y⟩:=bindE Y
 refine Rn.c0 (cK func215) (m_num_phasor_sim (Z0:=All) e3  :) D2 λw3 _ D4=>?_
 refine Rn.cop rfl rfl rfl (.inl rfl) rfl rfl ?_;intro z5 y5 w5 hs5 ht5 hx5;have D6:=D4.ext hx5;obtain ⟨p7,e7,Y⟩:=bindE Y;replace e7:=(csame hs5 ht5).trans e7
 refine Rn.c0 (cK func214) (m_num_parts_sim (Z0:=All) e7  :) D6 λw7 _ D8=>?_
 refine gg 5 rfl ?_
 cases Y
 exact Rn.R2 func191 ⟨rfl,D8.pk []⟩
theorem m_tocum_finite_sim {x0:(List UInt64)} {r:Bool} (Y:m_tocum_finite x0=some r) (f0:(slR A0 c0 w64R x0).H Z0 w) :
 Calls prog 192 #[.slice A0 (x0).length c0] w λx w'=>x=.returned (.bool (r))∧Hp Z0 No w w' []:=by
 obtain ⟨D0,D2,hc0⟩:=knA f0;refine eg func192 8 ?_;refine Rn.q rfl (V.lenV U32 rfl) (gg 2 rfl ?_);refine Rn.jG D0 Y (G:=Unit) (λg=>[]) (λg=>[]) (λj g=>j ()) ?_ ?_
 ·rintro _ w3 D3 Y
  try dsimp only at Y
  refine gg 4 rfl ?_
  cases Y
  exact Rn.R1 func192 ⟨rfl,D3.pk []⟩
 intro j1 Y K1;refine gg 1 rfl ?_;refine Rn.lF D2 [0] (G:=Int) (λg=>[(5,.slice A0 (x0).length c0),(6,iv (x0.length:Int)),(7,iv g)]) (λg=>[_]) (λn g=>m_tocum_finite_L1 x0 j1 n g) fuel 0 sA (D2.pk [0]) Y ?_;clear Y;rintro m5 y4 w5 D5 Y N5;replace Y:m_tocum_finite_L1 x0 j1 (m5+1) y4=some r:=Y;rw [m_tocum_finite_L1] at Y;refine gg 5 rfl ?_;refine bD Y 5 1 (λh6 Y=>?_) (λh6 Y=>?_)
 ·obtain ⟨z7,e7,Y⟩:=bindE Y;refine Rn.ixH D5 0 rfl e7 rfl rfl rfl U32 O31 rfl rfl rfl rfl ?_;rintro b7 o7 vs7 ⟨rfl,_⟩ D7;refine Rn.q rfl (V.ldR0 V31 rfl (D7.get 1 rfl).2 rfl) (gg 5 rfl ?_);obtain ⟨p9,e9,Y⟩:=bindE Y
  refine Rn.c0 (cK func62) (m_num_Finite_sim (Z0:=All) e9  :) D7 λw9 _ D10=>?_
  refine Rn.q rfl (V.notB rfl) (gg 1 rfl ?_);refine bS Y 4 6 (λh11 Y=>?_) (λh11 Y=>?_)
  ·cases Y
   exact Rn.R1 func192 ⟨rfl,D10.pk []⟩
  exact N5 (W64 (y4+1)) _ _ sA (D10.pk [0]) Y
 exact K1 () _ _ (sb trivial) (D5.pk []) Y
theorem m_tocum_answer_sim {x0:T_api_State} {x1:T_api_Point} {x2:Int} {r:T_api_Point} (Y:m_tocum_answer x0 x1 x2=some r) (h0:T_api_State.rep.rel Z0 w cs0 x0) (h1:T_api_Point.rep.rel Z0 w cs1 x1) :
 Calls prog 145 #[.agg cs0.toArray,.agg cs1.toArray,iv x2] w λx w'=>∃ A_0_0 c_0_0 A_0_1 c_0_1 A_0_2 c_0_2,x=.returned (.agg [Str (r.Name),.slice A_0_0 (r.Attrs).length c_0_0,iv r.Kind,iv r.Temp,.bool (r.Mono),iv r.Start,iv r.Time,iv r.Int_,u64v r.Re,u64v r.Im,iv r.Hist.Scale,u64v r.Hist.Zero,iv r.Hist.Pos.Offset,.slice A_0_1 (r.Hist.Pos.Counts).length c_0_1,iv r.Hist.Neg.Offset,.slice A_0_2 (r.Hist.Neg.Counts).length c_0_2,iv r.Flags].toArray)∧Hp Z0 No w w' [ownR 116 A_0_0 c_0_0 T_api_Pair.rep r.Attrs,ownR 31 A_0_1 c_0_1 w64R r.Hist.Pos.Counts,ownR 31 A_0_2 c_0_2 w64R r.Hist.Neg.Counts]:=by
 have D0:=Hp.nil Z0 No w;have hc0:=Calm.nil;obtain ⟨Ar1,cr1,Ar3,cr3,rfl,fs1,fs3⟩:=T_api_State.relE h0;obtain ⟨D11,hc0⟩:=D0.kn hc0 fs1;obtain ⟨D12,hc0⟩:=D11.kn hc0 fs3;obtain ⟨Ar5,cr5,Ar7,cr7,Ar9,cr9,rfl,fs5,fs7,fs9⟩:=T_api_Point.relE h1;obtain ⟨D13,hc0⟩:=D12.kn hc0 fs5;obtain ⟨D14,hc0⟩:=D13.kn hc0 fs7;obtain ⟨D15,hc0⟩:=D14.kn hc0 fs9;refine eg func145 2 ?_
 refine Rn.bx D15 λb16 w16 D18=>?_
 replace D18:=D18.nb
 refine Rn.bx D18 λb19 w19 D21=>?_
 replace D21:=D21.nb
 refine Rn.al D21 Tryz.zeroValue38 λb22 w22 D24=>?_
 replace D24:=D24.nb;refine gg 3 rfl (Rn.q rfl (V.ldBA [_,_,_,_,_,_,_,_,_,_,_,_,_,_,_,_,_] V38 O38 rfl (D24.get 6 rfl) rfl rfl) ?_);obtain ⟨p25,e25,Y⟩:=bindE Y;refine Rn.cq (cK func82) (m_point_Clone_sim (Z0:=All) e25 (T_api_Point.relA (D24.get 2 rfl) (D24.get 3 rfl) (D24.get 4 rfl)) :) ?_;rintro _ w25 ⟨A25_0_0,c25_0_0,A25_0_1,c25_0_1,A25_0_2,c25_0_2,rfl,Q25⟩;refine ⟨_,rfl,?_⟩;have D29:=D24.callF (flC (ownR_flat T_api_Pair.flat _ _ _ _) (flC (ownR_flat w64_flat _ _ _ _) (flC (ownR_flat w64_flat _ _ _ _) fl0))) Q25;replace D29:=D29.nq;refine Rn.als rfl rfl rfl Tryz.zeroValue38 rfl O38 rfl rfl rfl rfl (by first|exact ones rfl|(simp [Value.oneCell'];done)) ?_;intro b30 w30 hb30 m30 e30;have D32:=(D29.addBox hb30 e30 m30).nb;refine gg 2 rfl ?_;have D39:=(D32.cutF [5,6,7,8,9,10] [11] [0,1,2,3,4] rfl (by decide) ⟨λ_ h=>h,λ_ h=>h,λ_ h=>h,λ_ h=>h,λ_ h=>h,trivial⟩).nf ([_,_,_,_,_,_,_,_,_,_,_]++[_,_,_,_,_,_]) rfl;refine Rn.drawF rfl D39 ?_;intro w40 hmo40 D40;refine dq [0] ?_;refine RH.tk 1 rfl (λw' hDr=>V.ldB V3 rfl ((hmo40.awayK hDr).get 0 rfl) rfl) ?_;refine dq [2,3] ?_
 refine RH.sn 4 D40 0 O3 λw41 D42=>?_
 refine ⟨D42.fr,?_⟩;refine dq [5] ?_
 refine RH.sn 6 D42 0 O3 λw43 D44=>?_
 refine ⟨D44.fr,?_⟩;refine dq [7] ?_
 refine RH.sn 8 D44 0 O3 λw45 D46=>?_
 refine ⟨D46.fr,?_⟩;refine RH.dn ?_;have D47:=hmo40.callAZ D46;have D48:=(D47.pk [0,1,2,3,4,5,11,12,13,14,15,16]).nq;refine gg 2 rfl (Rn.q rfl (V.bldS (cs:=[_,_,_,_,_,_]) st36 rfl rfl) (gg 1 rfl (Rn.sn D48 6 O3 λw49 D50=>?_)));refine gg 1 rfl (Rn.sn D50 6 O31 λw51 D52=>?_);refine gg 1 rfl (Rn.sn D52 6 O31 λw53 D54=>?_);refine gg 1 rfl (Rn.sn D54 6 O36 λw55 D56=>?_);refine gg 5 rfl (Rn.q rfl (V.ldB V3 rfl (D56.get 1 rfl) rfl) (gg 1 rfl ?_));refine Rn.jF D56 [0,1,2,4,5,7,8,9,10,11,99,99,99,99] Y (G:=T_api_Point×Option Addr×Nat×Option Addr×Nat×Option Addr×Nat) (λg=>[(6,pt b22 0),(7,pt b30 0)]) (λg=>[_,_,_,_,_,_,_,_,_,_,ownR 116 (g.2.1) (g.2.2.1) T_api_Pair.rep (g.1).Attrs,ownR 31 (g.2.2.2.1) (g.2.2.2.2.1) w64R (g.1).Hist.Pos.Counts,ownR 31 (g.2.2.2.2.2.1) (g.2.2.2.2.2.2) w64R (g.1).Hist.Neg.Counts,boxR b30 38 [Str ((g.1).Name),.slice (g.2.1) ((g.1).Attrs).length (g.2.2.1),iv (g.1).Kind,iv (g.1).Temp,.bool ((g.1).Mono),iv (g.1).Start,iv (g.1).Time,iv (g.1).Int_,u64v (g.1).Re,u64v (g.1).Im,iv (g.1).Hist.Scale,u64v (g.1).Hist.Zero,iv (g.1).Hist.Pos.Offset,.slice (g.2.2.2.1) ((g.1).Hist.Pos.Counts).length (g.2.2.2.2.1),iv (g.1).Hist.Neg.Offset,.slice (g.2.2.2.2.2.1) ((g.1).Hist.Neg.Counts).length (g.2.2.2.2.2.2),iv (g.1).Flags]]) (λj g=>j g.1) ?_ ?_
 ·rintro ⟨y57,A58,c58,A60,c60,A62,c62⟩ w64 D64 Y
  try dsimp only at Y
  refine gg 2 rfl (Rn.q rfl (V.ldBA [_,_,_,_,_,_,_,_,_,_,_,_,_,_,_,_,_] V38 O38 rfl (D64.get 13 rfl) rfl rfl) (Rn.stF rfl rfl O38 rfl rfl rfl rfl (by first|exact ones rfl|(simp [Value.oneCell'];done)) (D64.get 2 rfl) rfl ?_));intro w65 m65 x65;have D66:=D64.sn 2 x65 m65;refine gg 1 rfl ?_;refine Rn.retG1 func145 rfl (rvC rfl V38 O38 (D66.get 2 rfl) rfl) ?_;obtain rfl:=someE Y;exact ⟨A58,c58,A60,c60,A62,c62,rfl,D66.pk [10,11,12]⟩
 intro j1 Y K1;refine gg 6 rfl ?_;refine bD Y 2 5 (λh67 Y=>?_) (λh67 Y=>?_)
 ·refine Rn.q rfl (V.ldB V3 rfl (D56.get 0 rfl) rfl) (gg 1 rfl (Rn.sn D56 6 O3 λw68 D69=>?_));refine gg 2 rfl ?_;have D70:=D69.addNil 31 w64R;have D72:=D70.addNil 31 w64R;exact K1 ((⟨p25.Name,p25.Attrs,p25.Kind,1,p25.Mono,x0.Start,p25.Time,x0.Int_,(0:UInt64),(0:UInt64),(⟨0,(0:UInt64),(⟨0,([]:List UInt64)⟩:T_api_Side),(⟨0,([]:List UInt64)⟩:T_api_Side)⟩:T_api_Hist),x2⟩:T_api_Point),A25_0_0,c25_0_0,none,0,none,0) _ _ sA (D72.pk [0,1,2,4,5,7,8,9,10,11,3,12,13,6]) Y
 refine bD Y 2 5 (λh74 Y=>?_) (λh74 Y=>?_)
 ·refine Rn.q rfl (V.ldB V31 rfl (D56.get 0 rfl) rfl) (gg 1 rfl (Rn.sn D56 6 O31 λw75 D76=>?_));refine gg 2 rfl ?_;have D77:=D76.addNil 31 w64R;have D79:=D77.addNil 31 w64R;exact K1 ((⟨p25.Name,p25.Attrs,p25.Kind,1,p25.Mono,x0.Start,p25.Time,0,x0.Re,(0:UInt64),(⟨0,(0:UInt64),(⟨0,([]:List UInt64)⟩:T_api_Side),(⟨0,([]:List UInt64)⟩:T_api_Side)⟩:T_api_Hist),x2⟩:T_api_Point),A25_0_0,c25_0_0,none,0,none,0) _ _ sA (D79.pk [0,1,2,4,5,7,8,9,10,11,3,12,13,6]) Y
 refine aD Y (λh81 Y=>?_) (λh81 Y=>?_)
 ·have D88:=(D56.cutF [0,1,2,3,4,5] [6] [7,8,9,10,11] rfl (by decide) ⟨λ_ h=>h,λ_ h=>h,λ_ h=>h,λ_ h=>h,λ_ h=>h,trivial⟩).nf ([_,_,_,_,_,_,_,_,_,_,_]++[_,_,_,_,_,_]) rfl;refine Rn.drawF rfl D88 ?_;intro w89 hmo89 D89;refine dq [0] ?_;refine RH.tk 1 rfl (λw' hDr=>V.ldB V31 rfl ((hmo89.awayK hDr).get 0 rfl) rfl) ?_;refine dq [2] ?_;refine RH.tk 3 rfl (λw' hDr=>V.ldB V31 rfl ((hmo89.awayK hDr).get 0 rfl) rfl) ?_;refine dq [4] ?_
  refine RH.sn 5 D89 0 O31 λw90 D91=>?_
  refine ⟨D91.fr,?_⟩;refine dq [6] ?_
  refine RH.sn 7 D91 0 O31 λw92 D93=>?_
  refine ⟨D93.fr,?_⟩;refine RH.dn ?_;have D94:=hmo89.callAZ D93;have D95:=(D94.pk [0,1,2,3,4,5,11,12,13,14,15,16]).nq;refine gg 1 rfl ?_;have D96:=D95.addNil 31 w64R;have D98:=D96.addNil 31 w64R;exact K1 ((⟨p25.Name,p25.Attrs,p25.Kind,1,p25.Mono,x0.Start,p25.Time,0,x0.Re,x0.Im,(⟨0,(0:UInt64),(⟨0,([]:List UInt64)⟩:T_api_Side),(⟨0,([]:List UInt64)⟩:T_api_Side)⟩:T_api_Hist),x2⟩:T_api_Point),A25_0_0,c25_0_0,none,0,none,0) _ _ sA (D98.pk [0,1,2,4,5,7,8,9,10,11,3,12,13,6]) Y
 refine gg 2 rfl (Rn.q rfl (V.ldBA [_,_,_,_,_,_] V36 O36 rfl (D56.get 0 rfl) rfl rfl) ?_);obtain ⟨p100,e100,Y⟩:=bindE Y;refine Rn.cq (cK func130) (m_hist_Clone_sim (Z0:=All) e100 (T_api_Hist.relA (D56.get 7 rfl) (D56.get 8 rfl)) :) ?_;rintro _ w100 ⟨A100_0_0,c100_0_0,A100_0_1,c100_0_1,rfl,Q100⟩;refine ⟨_,rfl,?_⟩;have D103:=D56.callF (flC (ownR_flat w64_flat _ _ _ _) (flC (ownR_flat w64_flat _ _ _ _) fl0)) Q100;replace D103:=D103.nq;refine gg 1 rfl (Rn.sn D103 6 O36 λw104 D105=>?_);refine gg 2 rfl ?_;exact K1 ((⟨p25.Name,p25.Attrs,p25.Kind,1,p25.Mono,x0.Start,p25.Time,0,(0:UInt64),(0:UInt64),p100,x2⟩:T_api_Point),A25_0_0,c25_0_0,A100_0_0,c100_0_0,A100_0_1,c100_0_1) _ _ sA (D105.pk [0,1,2,4,5,7,8,9,10,11,3,12,13,6]) Y
end Go.Proofs.YtaikmpmokihciaaGreat
