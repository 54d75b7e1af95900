/-
  The calls of functions of the program answer as their plain forms say, part 5. Printed by a program.
-/
import Derived.Test.YtfcpdojcfogkbaaGreatRows
import Derived.Test.YtfcpdojcfogkbaaGreatSA4
set_option maxRecDepth 20000
set_option maxHeartbeats 4000000
set_option linter.unusedVariables false
set_option linter.unusedSimpArgs false
namespace Go.Proofs.YtfcpdojcfogkbaaGreat
open Go Go.RowKit Go.Wk
theorem m_point_Read_sim {Z0 : Nat → Prop} {w : World} {A0 : Option Addr} {c0 : Nat} {x0 : (List UInt8)} {r : (T_api_Point × Int)} (hM : m_point_Read x0 = some r) (f0 : (slR A0 c0 byteR x0).H Z0 w) :
    Calls Tryz.prog 9 #[.slice A0 (x0).length c0] w fun x w' => ∃ A_0_0 c_0_0 A_0_1 c_0_1 A_0_2 c_0_2, x = .returned (.tuple #[.agg [Str (r.1.Name), .slice A_0_0 (r.1.Attrs).length c_0_0, .int .i64 (r.1.Kind), .int .i64 (r.1.Temp), .bool (r.1.Mono), .int .i64 (r.1.Start), .int .i64 (r.1.Time), .int .i64 (r.1.Int_), .int .u64 (((r.1.Re).toNat : Nat) : Int), .int .u64 (((r.1.Im).toNat : Nat) : Int), .int .i64 (r.1.Hist.Scale), .int .u64 (((r.1.Hist.Zero).toNat : Nat) : Int), .int .i64 (r.1.Hist.Pos.Offset), .slice A_0_1 (r.1.Hist.Pos.Counts).length c_0_1, .int .i64 (r.1.Hist.Neg.Offset), .slice A_0_2 (r.1.Hist.Neg.Counts).length c_0_2, .int .i64 (r.1.Flags)].toArray, .int .i64 (r.2)]) ∧ Hp Z0 No w w' [ownR 42 A_0_0 c_0_0 T_api_Pair.rep r.1.Attrs, ownR 23 A_0_1 c_0_1 w64R r.1.Hist.Pos.Counts, ownR 23 A_0_2 c_0_2 w64R r.1.Hist.Neg.Counts] := by
 have hm0 := Hp.nil Z0 No w
 have hc0 := Calm.nil
 have hm2 := hm0.know (slR A0 c0 byteR x0) (fun _ h => h) (hm0.in0 hc0 f0)
 replace hc0 := hc0.snoc (r := slR A0 c0 byteR x0) (fun _ h => h)
 refine Rn.enter Tryz.func9 rfl rfl (Nat.le_of_ble_eq_true rfl) ?_
 refine gg 2 rfl (Rn.alloc rfl rfl rfl Tryz.zeroValue30 rfl ?_)
 intro b3 w3 hb3 m3 e3
 have hm5 := (hm2.addBox hb3 e3 m3).nf [_, boxR _ _ [_, _, _, _, _, _, _, _, _, _, _, _, _, _, _, _, _]] rfl
 refine gg 5 rfl ?_
 obtain ⟨p6, e6, hM⟩ := bindE hM
 refine Rn.cl ck35 rfl rfl rfl rfl (m_pack_NewReader_sim (Z0 := hm5.Z) e6 (hm5.get 0 rfl) :) ?_
 rintro _ w6 ⟨F6_0, b6_0, rfl, hq6⟩
 refine ⟨_, rfl, ?_⟩
 have hm8 := hm5.callZ hq6
 refine Rn.q rfl (V.bldS (cs := [_, _]) st68 rfl rfl) (Rn.box rfl rfl rfl rfl rfl ?_)
 intro b9 w9 hb9 m9 e9
 have hm11 := (hm8.addBox hb9 e9 m9).nf [_, _, _, boxR _ _ [_, _]] rfl
 refine gg 4 rfl (Rn.alloc rfl rfl rfl Tryz.zeroValue30 rfl ?_)
 intro b12 w12 hb12 m12 e12
 have hm14 := (hm11.addBox hb12 e12 m12).nf [_, _, _, _, boxR _ _ [_, _, _, _, _, _, _, _, _, _, _, _, _, _, _, _, _]] rfl
 refine gg 6 rfl (Rn.q rfl (V.ldB Tryz.isAgg65 rfl (hm14.get 3 rfl) rfl) ?_)
 obtain ⟨p15, e15, hM⟩ := bindE hM
 have hm16 := (hm14.cut [0, 1, 3, 4] [2] rfl (by decide)).nf ([_, _, _, _] ++ [_]) rfl
 refine Rn.cl ck36 rfl rfl rfl rfl (m_pack_Reader_Text_sim e15 hm16.lend :) ?_
 rintro _ w15 ⟨F15_p0, rfl, hq15⟩
 refine ⟨_, rfl, ?_⟩
 have hm18 := hm16.callAZ hq15
 refine gg 3 rfl ?_
 have hm20 := hm18.addNil 42 T_api_Pair.rep
 have hm22 := hm20.addNil 23 w64R
 have hm24 := hm22.addNil 23 w64R
 have hm27 := (hm24.cut [0, 1, 2, 4] [3, 5, 6, 7] rfl (by decide)).nf ([_, _, _, _] ++ [_, _, _, _]) rfl
 obtain ⟨F26, hm26⟩ := hm27.fold (T_api_Point.sh b12 ({ Name := ([] : List UInt8), Attrs := ([] : List T_api_Pair), Kind := 0, Temp := 0, Mono := false, Start := 0, Time := 0, Int_ := 0, Re := (0 : UInt64), Im := (0 : UInt64), Hist := ({ Scale := 0, Zero := (0 : UInt64), Pos := ({ Offset := 0, Counts := ([] : List UInt64) } : T_api_Side), Neg := ({ Offset := 0, Counts := ([] : List UInt64) } : T_api_Side) } : T_api_Hist), Flags := 0 } : T_api_Point)) ⟨none, 0, none, 0, none, 0, rfl⟩
 have hm29 := (hm26.cutF [1, 2] [3, 4] [0] rfl (by decide) ⟨fun _ h => h, trivial⟩).nf ([_, _, _] ++ [_, _, _]) rfl
 refine Rn.drawF rfl hm29 ?_
 intro w30 hmo30 hm30
 refine dd [0, 1, 2] (by kernel_rfl) rfl rfl ?_
 refine RH.take 3 (by kernel_rfl) rfl rfl rfl rfl (fun w' hDr => V.ldB Tryz.isAgg65 rfl ((hmo30.awayK hDr).get 1 rfl) rfl) ?_
 refine dd [5, 6, 7] (by kernel_rfl) rfl rfl ?_
 refine RH.take 8 (by kernel_rfl) rfl rfl rfl rfl (fun w' hDr => V.ldB Tryz.isAgg65 rfl ((hmo30.awayK hDr).get 1 rfl) rfl) ?_
 obtain ⟨p31, e31, hM⟩ := bindE hM
 have hm32 := (hm30.cut [1, 2] [0] rfl (by decide)).nf ([_, _] ++ [_]) rfl
 refine RH.cl ck37 4 (by kernel_rfl) rfl rfl rfl rfl (m_pack_Reader_Count_sim e31 hm32.lend :) ?_
 rintro _ w31 ⟨F31_p0, rfl, hq31⟩
 have hm34 := hm32.callAZ hq31
 refine ⟨_, rfl, hm34.fr, ?_⟩
 obtain ⟨p35, e35, hM⟩ := bindE hM
 have hm36 := (hm34.cut [0, 1] [2] rfl (by decide)).nf ([_, _] ++ [_]) rfl
 refine RH.cl ck37 9 (by kernel_rfl) rfl rfl rfl rfl (m_pack_Reader_Count_sim e35 hm36.lend :) ?_
 rintro _ w35 ⟨F35_p0, rfl, hq35⟩
 have hm38 := hm36.callAZ hq35
 refine ⟨_, rfl, hm38.fr, ?_⟩
 refine dd [10] (by kernel_rfl) rfl rfl ?_
 obtain ⟨_, ⟨A39_0, c39_0, A39_1, c39_1, A39_2, c39_2, rfl⟩, hm39⟩ := hm38.unf 0 rfl
 replace hm39 := hm39.nf [_, _, _, _, _, _] rfl
 refine RH.st 11 (by kernel_rfl) rfl rfl Tryz.sizeOf3 rfl rfl rfl rfl (by first | exact ones rfl | (simp [Value.oneCell']; done)) (hm39.get 2 rfl) (by first | exact Nat.le_of_ble_eq_true rfl | (simp; done)) ?_
 intro w43 m43 x43
 have hm44 := (hm39.st 2 rfl x43 m43).nf [_, _, boxR _ _ [_, _, _, _, _, _, _, _, _, _, _, _, _, _, _, _, _], _, _, _] rfl
 refine ⟨hm44.fr, ?_⟩
 refine dd [12] (by kernel_rfl) rfl rfl ?_
 refine RH.st 13 (by kernel_rfl) rfl rfl Tryz.sizeOf3 rfl rfl rfl rfl (by first | exact ones rfl | (simp [Value.oneCell']; done)) (hm44.get 2 rfl) (by first | exact Nat.le_of_ble_eq_true rfl | (simp; done)) ?_
 intro w45 m45 x45
 have hm46 := (hm44.st 2 rfl x45 m45).nf [_, _, boxR _ _ [_, _, _, _, _, _, _, _, _, _, _, _, _, _, _, _, _], _, _, _] rfl
 refine ⟨hm46.fr, ?_⟩
 refine RH.doneP (by kernel_rfl) ?_
 have hm47 := hmo30.callAZ hm46
 have hm48 := (hm47.pick [0, 1, 3, 4, 5, 6, 7, 8] rfl (by decide)).nf [_, _, _, _, _, _, _, _] rfl
 refine gg 5 rfl (Rn.q rfl (V.ldB Tryz.isAgg65 rfl (hm48.get 1 rfl) rfl) ?_)
 obtain ⟨p49, e49, hM⟩ := bindE hM
 have hm50 := (hm48.cut [0, 1, 2, 4, 5, 6, 7] [3] rfl (by decide)).nf ([_, _, _, _, _, _, _] ++ [_]) rfl
 refine Rn.cl ck37 rfl rfl rfl rfl (m_pack_Reader_Count_sim e49 hm50.lend :) ?_
 rintro _ w49 ⟨F49_p0, rfl, hq49⟩
 refine ⟨_, rfl, ?_⟩
 have hm52 := hm50.callAZ hq49
 refine gg 3 rfl ?_
 have hm55 := (hm52.cut [0, 1, 2, 7] [3, 4, 5, 6] rfl (by decide)).nf ([_, _, _, _] ++ [_, _, _, _]) rfl
 obtain ⟨F54, hm54⟩ := hm55.fold (T_api_Point.sh b12 ({ Name := ([] : List UInt8), Attrs := ([] : List T_api_Pair), Kind := p31.1, Temp := p35.1, Mono := false, Start := 0, Time := 0, Int_ := 0, Re := (0 : UInt64), Im := (0 : UInt64), Hist := ({ Scale := 0, Zero := (0 : UInt64), Pos := ({ Offset := 0, Counts := ([] : List UInt64) } : T_api_Side), Neg := ({ Offset := 0, Counts := ([] : List UInt64) } : T_api_Side) } : T_api_Hist), Flags := 0 } : T_api_Point)) ⟨A39_0, c39_0, A39_1, c39_1, A39_2, c39_2, rfl⟩
 have hm57 := (hm54.cutF [0, 1] [3, 4] [2] rfl (by decide) ⟨fun _ h => h, trivial⟩).nf ([_, _, _] ++ [_, _, _]) rfl
 refine Rn.drawF rfl hm57 ?_
 intro w58 hmo58 hm58
 refine dd [0, 1, 2] (by kernel_rfl) rfl rfl ?_
 refine RH.take 3 (by kernel_rfl) rfl rfl rfl rfl (fun w' hDr => V.ldB Tryz.isAgg65 rfl ((hmo58.awayK hDr).get 1 rfl) rfl) ?_
 refine dd [5, 6, 7] (by kernel_rfl) rfl rfl ?_
 refine RH.take 8 (by kernel_rfl) rfl rfl rfl rfl (fun w' hDr => V.ldB Tryz.isAgg65 rfl ((hmo58.awayK hDr).get 1 rfl) rfl) ?_
 obtain ⟨p59, e59, hM⟩ := bindE hM
 have hm60 := (hm58.cut [1, 2] [0] rfl (by decide)).nf ([_, _] ++ [_]) rfl
 refine RH.cl ck37 4 (by kernel_rfl) rfl rfl rfl rfl (m_pack_Reader_Count_sim e59 hm60.lend :) ?_
 rintro _ w59 ⟨F59_p0, rfl, hq59⟩
 have hm62 := hm60.callAZ hq59
 refine ⟨_, rfl, hm62.fr, ?_⟩
 obtain ⟨p63, e63, hM⟩ := bindE hM
 have hm64 := (hm62.cut [0, 1] [2] rfl (by decide)).nf ([_, _] ++ [_]) rfl
 refine RH.cl ck37 9 (by kernel_rfl) rfl rfl rfl rfl (m_pack_Reader_Count_sim e63 hm64.lend :) ?_
 rintro _ w63 ⟨F63_p0, rfl, hq63⟩
 have hm66 := hm64.callAZ hq63
 refine ⟨_, rfl, hm66.fr, ?_⟩
 refine dd [10] (by kernel_rfl) rfl rfl ?_
 obtain ⟨_, ⟨A67_0, c67_0, A67_1, c67_1, A67_2, c67_2, rfl⟩, hm67⟩ := hm66.unf 0 rfl
 replace hm67 := hm67.nf [_, _, _, _, _, _] rfl
 refine RH.st 11 (by kernel_rfl) rfl rfl Tryz.sizeOf3 rfl rfl rfl rfl (by first | exact ones rfl | (simp [Value.oneCell']; done)) (hm67.get 2 rfl) (by first | exact Nat.le_of_ble_eq_true rfl | (simp; done)) ?_
 intro w71 m71 x71
 have hm72 := (hm67.st 2 rfl x71 m71).nf [_, _, boxR _ _ [_, _, _, _, _, _, _, _, _, _, _, _, _, _, _, _, _], _, _, _] rfl
 refine ⟨hm72.fr, ?_⟩
 refine dd [12] (by kernel_rfl) rfl rfl ?_
 refine RH.st 13 (by kernel_rfl) rfl rfl Tryz.sizeOf3 rfl rfl rfl rfl (by first | exact ones rfl | (simp [Value.oneCell']; done)) (hm72.get 2 rfl) (by first | exact Nat.le_of_ble_eq_true rfl | (simp; done)) ?_
 intro w73 m73 x73
 have hm74 := (hm72.st 2 rfl x73 m73).nf [_, _, boxR _ _ [_, _, _, _, _, _, _, _, _, _, _, _, _, _, _, _, _], _, _, _] rfl
 refine ⟨hm74.fr, ?_⟩
 refine RH.doneP (by kernel_rfl) ?_
 have hm75 := hmo58.callAZ hm74
 have hm76 := (hm75.pick [0, 1, 3, 4, 5, 6, 7, 8] rfl (by decide)).nf [_, _, _, _, _, _, _, _] rfl
 refine gg 1 rfl ?_
 have hm77 := hm76.addNil 42 T_api_Pair.rep
 have hm79 := hm77.addNil 23 w64R
 have hm81 := hm79.addNil 23 w64R
 have hm84 := (hm81.cut [1, 2, 3, 4, 5, 6, 7] [0, 8, 9, 10] rfl (by decide)).nf ([_, _, _, _, _, _, _] ++ [_, _, _, _]) rfl
 obtain ⟨F83, hm83⟩ := hm84.fold (T_api_Point.sh b3 ({ Name := ([] : List UInt8), Attrs := ([] : List T_api_Pair), Kind := 0, Temp := 0, Mono := false, Start := 0, Time := 0, Int_ := 0, Re := (0 : UInt64), Im := (0 : UInt64), Hist := ({ Scale := 0, Zero := (0 : UInt64), Pos := ({ Offset := 0, Counts := ([] : List UInt64) } : T_api_Side), Neg := ({ Offset := 0, Counts := ([] : List UInt64) } : T_api_Side) } : T_api_Hist), Flags := 0 } : T_api_Point)) ⟨none, 0, none, 0, none, 0, rfl⟩
 have hm86 := (hm83.cut [1, 3, 4, 5, 6, 7] [0, 2] rfl (by decide)).nf ([_, _, _, _, _, _] ++ [_, _]) rfl
 obtain ⟨F85, hm85⟩ := hm86.fold (T_point_reader.sh b9 ({ Reader := p63.2, e := 0 } : T_point_reader)) ⟨F63_p0, b6_0, rfl⟩
 have hm88 := (hm85.cut [0, 5, 6] [1, 2, 3, 4] rfl (by decide)).nf ([_, _, _] ++ [_, _, _, _]) rfl
 obtain ⟨F87, hm87⟩ := hm88.fold (T_api_Point.sh b12 ({ Name := ([] : List UInt8), Attrs := ([] : List T_api_Pair), Kind := p31.1, Temp := p35.1, Mono := false, Start := p63.1, Time := 0, Int_ := 0, Re := (0 : UInt64), Im := (0 : UInt64), Hist := ({ Scale := 0, Zero := (0 : UInt64), Pos := ({ Offset := 0, Counts := ([] : List UInt64) } : T_api_Side), Neg := ({ Offset := 0, Counts := ([] : List UInt64) } : T_api_Side) } : T_api_Hist), Flags := p59.1 } : T_api_Point)) ⟨A67_0, c67_0, A67_1, c67_1, A67_2, c67_2, rfl⟩
 obtain ⟨j1, hj1, hM⟩ := jnE hM
 refine Rn.joinG (r := r) (G := T_point_reader × T_api_Point × (Nat → Prop) × (Nat → Prop) × (Nat → Prop)) (fun g => [(2, .pointer (some ⟨b3, 0, none⟩)), (4, .pointer (some ⟨b9, 0, none⟩)), (5, .pointer (some ⟨b12, 0, none⟩)), (6, Str (p15.1)), (7, .int .i64 (p49.1))]) (fun g w' => Hp Z0 No w w' [T_api_Point.obj (g.2.2.1) b3 ({ Name := ([] : List UInt8), Attrs := ([] : List T_api_Pair), Kind := 0, Temp := 0, Mono := false, Start := 0, Time := 0, Int_ := 0, Re := (0 : UInt64), Im := (0 : UInt64), Hist := ({ Scale := 0, Zero := (0 : UInt64), Pos := ({ Offset := 0, Counts := ([] : List UInt64) } : T_api_Side), Neg := ({ Offset := 0, Counts := ([] : List UInt64) } : T_api_Side) } : T_api_Hist), Flags := 0 } : T_api_Point), T_point_reader.obj (g.2.2.2.1) b9 (g.1), T_api_Point.obj (g.2.2.2.2) b12 (g.2.1)]) (fun g => j1 g.1 g.2.1) ?_ ?_
 ·subst hj1
  clear hM
  rintro ⟨y90, y91, F89, F90, F91⟩ w92 hm92 hM
  try dsimp only at hM
  refine gg 3 rfl ?_
  obtain ⟨p93, e93, hM⟩ := bindE hM
  have hm94 := (hm92.cut [0] [1, 2] rfl (by decide)).nf ([_] ++ [_, _]) rfl
  refine Rn.cl ck38 rfl rfl rfl rfl (m_point_reader_value_sim e93 hm94.lend :) ?_
  rintro _ w93 ⟨F93_p0, F93_p1, rfl, hq93⟩
  refine ⟨_, rfl, ?_⟩
  have hm97 := hm94.callAZ hq93
  refine gg 6 rfl ?_
  obtain ⟨_, ⟨F98_0, b98_0, rfl⟩, hm98⟩ := hm97.unf 1 rfl
  replace hm98 := hm98.nf [_, _, _, _] rfl
  refine Rn.q rfl (V.ldB Tryz.isAgg34 rfl (hm98.get 2 rfl) rfl) (gg 8 rfl ?_)
  have hm101 := (hm98.cut [0, 1] [2, 3] rfl (by decide)).nf ([_, _] ++ [_, _]) rfl
  obtain ⟨F100, hm100⟩ := hm101.fold (T_point_reader.sh b9 p93.1) ⟨F98_0, b98_0, rfl⟩
  obtain ⟨j2, hj2, hM⟩ := jnE hM
  refine Rn.joinG (r := r) (G := Int × (Nat → Prop) × (Nat → Prop) × (Nat → Prop)) (fun g => [(2, .pointer (some ⟨b3, 0, none⟩)), (5, .pointer (some ⟨b12, 0, none⟩)), (6, Str (p15.1)), (7, .int .i64 (p49.1)), (8, .int .i64 ((g.1)))]) (fun g w' => Hp Z0 No w w' [T_api_Point.obj (g.2.1) b3 ({ Name := ([] : List UInt8), Attrs := ([] : List T_api_Pair), Kind := 0, Temp := 0, Mono := false, Start := 0, Time := 0, Int_ := 0, Re := (0 : UInt64), Im := (0 : UInt64), Hist := ({ Scale := 0, Zero := (0 : UInt64), Pos := ({ Offset := 0, Counts := ([] : List UInt64) } : T_api_Side), Neg := ({ Offset := 0, Counts := ([] : List UInt64) } : T_api_Side) } : T_api_Hist), Flags := 0 } : T_api_Point), T_api_Point.obj (g.2.2.1) b12 p93.2, T_point_reader.obj (g.2.2.2) b9 p93.1]) (fun g => j2 g.1) ?_ ?_
  ·subst hj2
   clear hM
   rintro ⟨y105, F102, F103, F104⟩ w106 hm106 hM
   try dsimp only at hM
   refine gg 6 rfl ?_
   obtain ⟨j3, hj3, hM⟩ := jnE hM
   refine Rn.joinG (r := r) (G := Int × T_api_Point × (Nat → Prop) × (Nat → Prop) × (Nat → Prop)) (fun g => [(2, .pointer (some ⟨b3, 0, none⟩)), (5, .pointer (some ⟨b12, 0, none⟩)), (7, .int .i64 (p49.1)), (8, .int .i64 ((g.1)))]) (fun g w' => Hp Z0 No w w' [T_api_Point.obj (g.2.2.1) b3 ({ Name := ([] : List UInt8), Attrs := ([] : List T_api_Pair), Kind := 0, Temp := 0, Mono := false, Start := 0, Time := 0, Int_ := 0, Re := (0 : UInt64), Im := (0 : UInt64), Hist := ({ Scale := 0, Zero := (0 : UInt64), Pos := ({ Offset := 0, Counts := ([] : List UInt64) } : T_api_Side), Neg := ({ Offset := 0, Counts := ([] : List UInt64) } : T_api_Side) } : T_api_Hist), Flags := 0 } : T_api_Point), T_point_reader.obj (g.2.2.2.1) b9 p93.1, T_api_Point.obj (g.2.2.2.2) b12 (g.2.1)]) (fun g => j3 g.1 g.2.1) ?_ ?_
   ·subst hj3
    clear hM
    rintro ⟨y109, y110, F107, F108, F110⟩ w111 hm111 hM
    try dsimp only at hM
    refine gg 6 rfl ?_
    refine Rn.cutR [] [(2, .pointer (some ⟨b3, 0, none⟩)), (5, .pointer (some ⟨b12, 0, none⟩)), (7, .int .i64 (p49.1)), (8, .int .i64 (y109)), (85, .bool (decide ((y109 = 0) ∧ (p49.1 > 1))))] (fun hk112 => ?_) ?_
    ·refine Rn.partD (t := 82) rfl (fun h113 => ?_) (fun h113 => ?_)
     ·refine gg 3 rfl ?_
      refine hk112 _ ?_
      exact Sub.cons rfl (Sub.cons rfl (Sub.cons rfl (Sub.cons rfl (Sub.cons (lkv _ rfl (by first | exact andT h113 | exact andF h113 | exact orT h113 | exact orF h113 | exact nandF h113 | exact nandT h113 | exact norT h113 | exact norF h113 | (simp [h113]; done) | grind)) (Sub.nil _)))))
     ·refine gg 3 rfl ?_
      refine hk112 _ ?_
      exact Sub.cons rfl (Sub.cons rfl (Sub.cons rfl (Sub.cons rfl (Sub.cons (lkv _ rfl (by first | exact andT h113 | exact andF h113 | exact orT h113 | exact orF h113 | exact nandF h113 | exact nandT h113 | exact norT h113 | exact norF h113 | (simp [h113]; done) | grind)) (Sub.nil _)))))
    refine gg 1 rfl ?_
    obtain ⟨j4, hj4, hM⟩ := jnE hM
    refine Rn.joinG (r := r) (G := Int × (Nat → Prop) × (Nat → Prop) × (Nat → Prop)) (fun g => [(2, .pointer (some ⟨b3, 0, none⟩)), (5, .pointer (some ⟨b12, 0, none⟩)), (7, .int .i64 (p49.1)), (8, .int .i64 ((g.1)))]) (fun g w' => Hp Z0 No w w' [T_api_Point.obj (g.2.1) b3 ({ Name := ([] : List UInt8), Attrs := ([] : List T_api_Pair), Kind := 0, Temp := 0, Mono := false, Start := 0, Time := 0, Int_ := 0, Re := (0 : UInt64), Im := (0 : UInt64), Hist := ({ Scale := 0, Zero := (0 : UInt64), Pos := ({ Offset := 0, Counts := ([] : List UInt64) } : T_api_Side), Neg := ({ Offset := 0, Counts := ([] : List UInt64) } : T_api_Side) } : T_api_Hist), Flags := 0 } : T_api_Point), T_point_reader.obj (g.2.2.1) b9 p93.1, T_api_Point.obj (g.2.2.2) b12 y110]) (fun g => j4 g.1) ?_ ?_
    ·subst hj4
     clear hM
     rintro ⟨y117, F114, F115, F116⟩ w118 hm118 hM
     try dsimp only at hM
     refine gg 5 rfl ?_
     obtain ⟨_, ⟨A119_0, c119_0, A119_1, c119_1, A119_2, c119_2, rfl⟩, hm119⟩ := hm118.unf 2 rfl
     replace hm119 := hm119.nf [_, _, _, _, _, _] rfl
     refine Rn.st rfl rfl Tryz.sizeOf4 rfl rfl rfl rfl (by first | exact ones rfl | (simp [Value.oneCell']; done)) (hm119.get 2 rfl) (by first | exact Nat.le_of_ble_eq_true rfl | (simp; done)) ?_
     intro w123 m123 x123
     have hm124 := (hm119.st 2 rfl x123 m123).nf [_, _, boxR _ _ [_, _, _, _, _, _, _, _, _, _, _, _, _, _, _, _, _], _, _, _] rfl
     refine gg 7 rfl ?_
     have hm126 := (hm124.cut [0, 1] [2, 3, 4, 5] rfl (by decide)).nf ([_, _] ++ [_, _, _, _]) rfl
     obtain ⟨F125, hm125⟩ := hm126.fold (T_api_Point.sh b12 ({ Name := y110.Name, Attrs := y110.Attrs, Kind := y110.Kind, Temp := y110.Temp, Mono := decide (p49.1 = 1), Start := y110.Start, Time := y110.Time, Int_ := y110.Int_, Re := y110.Re, Im := y110.Im, Hist := y110.Hist, Flags := y110.Flags } : T_api_Point)) ⟨A119_0, c119_0, A119_1, c119_1, A119_2, c119_2, rfl⟩
     obtain ⟨j5, hj5, hM⟩ := jnE hM
     refine Rn.joinG (r := r) (G := Int × (Nat → Prop) × (Nat → Prop) × (Nat → Prop)) (fun g => [(2, .pointer (some ⟨b3, 0, none⟩)), (5, .pointer (some ⟨b12, 0, none⟩)), (8, .int .i64 ((g.1)))]) (fun g w' => Hp Z0 No w w' [T_api_Point.obj (g.2.1) b3 ({ Name := ([] : List UInt8), Attrs := ([] : List T_api_Pair), Kind := 0, Temp := 0, Mono := false, Start := 0, Time := 0, Int_ := 0, Re := (0 : UInt64), Im := (0 : UInt64), Hist := ({ Scale := 0, Zero := (0 : UInt64), Pos := ({ Offset := 0, Counts := ([] : List UInt64) } : T_api_Side), Neg := ({ Offset := 0, Counts := ([] : List UInt64) } : T_api_Side) } : T_api_Hist), Flags := 0 } : T_api_Point), T_point_reader.obj (g.2.2.1) b9 p93.1, T_api_Point.obj (g.2.2.2) b12 ({ Name := y110.Name, Attrs := y110.Attrs, Kind := y110.Kind, Temp := y110.Temp, Mono := decide (p49.1 = 1), Start := y110.Start, Time := y110.Time, Int_ := y110.Int_, Re := y110.Re, Im := y110.Im, Hist := y110.Hist, Flags := y110.Flags } : T_api_Point)]) (fun g => j5 g.1) ?_ ?_
     ·subst hj5
      clear hM
      rintro ⟨y130, F127, F128, F129⟩ w131 hm131 hM
      try dsimp only at hM
      refine gg 6 rfl ?_
      refine Rn.condD rfl (fun h132 => ?_) (fun h132 => ?_)
      ·replace hM := iteT h132 hM
       refine gg 2 rfl (Rn.q rfl (V.bldS (cs := [_, _, _, _, _, _, _, _, _, _, _, _, _, _, _, _, _]) st30 rfl rfl) (gg 1 rfl ?_))
       obtain ⟨_, ⟨A133_0, c133_0, A133_1, c133_1, A133_2, c133_2, rfl⟩, hm133⟩ := hm131.unf 0 rfl
       replace hm133 := hm133.nf [_, _, _, _, _, _] rfl
       refine Rn.st rfl rfl Tryz.sizeOf30 rfl rfl rfl rfl (by first | exact ones rfl | (simp [Value.oneCell']; done)) (hm133.get 2 rfl) (by first | exact Nat.le_of_ble_eq_true rfl | (simp; done)) ?_
       intro w137 m137 x137
       have hm138 := (hm133.st 2 rfl x137 m137).nf [_, _, boxR _ _ [_, _, _, _, _, _, _, _, _, _, _, _, _, _, _, _, _], _, _, _] rfl
       refine gg 2 rfl ?_
       have hm139 := hm138.addNil 42 T_api_Pair.rep
       have hm141 := hm139.addNil 23 w64R
       have hm143 := hm141.addNil 23 w64R
       refine Rn.retG2 Tryz.func9 rfl (rvC rfl Tryz.isAgg30 Tryz.sizeOf30 (hm138.get 2 rfl) rfl) (rvT rfl) ?_
       obtain rfl := someE hM
       exact ⟨none, 0, none, 0, none, 0, rfl, hm143.pick [6, 7, 8] rfl (by decide)⟩
      ·replace hM := iteF h132 hM
       refine gg 3 rfl ?_
       obtain ⟨_, ⟨A145_0, c145_0, A145_1, c145_1, A145_2, c145_2, rfl⟩, hm145⟩ := hm131.unf 2 rfl
       replace hm145 := hm145.nf [_, _, _, _, _, _] rfl
       refine Rn.q rfl (V.ldBA [_, _, _, _, _, _, _, _, _, _, _, _, _, _, _, _, _] Tryz.isAgg30 Tryz.sizeOf30 rfl (hm145.get 2 rfl) rfl rfl) ?_
       obtain ⟨_, ⟨A149_0, c149_0, A149_1, c149_1, A149_2, c149_2, rfl⟩, hm149⟩ := hm145.unf 0 rfl
       replace hm149 := hm149.nf [_, _, _, _, _, _, _, _, _] rfl
       refine Rn.st rfl rfl Tryz.sizeOf30 rfl rfl rfl rfl (by first | exact ones rfl | (simp [Value.oneCell']; done)) (hm149.get 5 rfl) (by first | exact Nat.le_of_ble_eq_true rfl | (simp; done)) ?_
       intro w153 m153 x153
       have hm154 := (hm149.st 5 rfl x153 m153).nf [_, _, _, _, _, boxR _ _ [_, _, _, _, _, _, _, _, _, _, _, _, _, _, _, _, _], _, _, _] rfl
       refine gg 2 rfl ?_
       refine Rn.retG2 Tryz.func9 rfl (rvC rfl Tryz.isAgg30 Tryz.sizeOf30 (hm154.get 5 rfl) rfl) (rvT rfl) ?_
       obtain rfl := someE hM
       exact ⟨A145_0, c145_0, A145_1, c145_1, A145_2, c145_2, rfl, hm154.pick [2, 3, 4] rfl (by decide)⟩
     intro hk5
     clear hj5
     refine Rn.condD rfl (fun h155 => ?_) (fun h155 => ?_)
     ·replace hM := iteT h155 hM
      refine gg 1 rfl ?_
      obtain ⟨_, ⟨A156_0, c156_0, A156_1, c156_1, A156_2, c156_2, rfl⟩, hm156⟩ := hm125.unf 2 rfl
      replace hm156 := hm156.nf [_, _, _, _, _, _] rfl
      refine Rn.q rfl (V.ldBA [_, _, _, _, _, _, _, _, _, _, _, _, _, _, _, _, _] Tryz.isAgg30 Tryz.sizeOf30 rfl (hm156.get 2 rfl) rfl rfl) ?_
      obtain ⟨p160, e160, hM⟩ := bindE hM
      refine Rn.cl ck8 rfl rfl rfl rfl (m_point_Check_sim (Z0 := All) e160 (show T_api_Point.rep.rel All _ _ _ from ⟨_, _, rfl, ⟨rfl, trivial⟩, ⟨_, _, rfl, ⟨_, _, rfl, (own_slR (hm156.get 3 rfl)).1, (own_slR (hm156.get 3 rfl)).2.1, (own_slR (hm156.get 3 rfl)).2.2⟩, ⟨_, _, rfl, ⟨rfl, trivial⟩, ⟨_, _, rfl, ⟨rfl, trivial⟩, ⟨_, _, rfl, ⟨rfl, trivial⟩, ⟨_, _, rfl, ⟨rfl, trivial⟩, ⟨_, _, rfl, ⟨rfl, trivial⟩, ⟨_, _, rfl, ⟨rfl, trivial⟩, ⟨_, _, rfl, ⟨rfl, trivial⟩, ⟨_, _, rfl, ⟨rfl, trivial⟩, ⟨_, _, rfl, ⟨_, _, rfl, ⟨rfl, trivial⟩, ⟨_, _, rfl, ⟨rfl, trivial⟩, ⟨_, _, rfl, ⟨_, _, rfl, ⟨rfl, trivial⟩, ⟨_, _, rfl, (own_slR (hm156.get 4 rfl)).1, (own_slR (hm156.get 4 rfl)).2.1, (own_slR (hm156.get 4 rfl)).2.2⟩⟩, ⟨_, _, rfl, ⟨rfl, trivial⟩, ⟨_, _, rfl, (own_slR (hm156.get 5 rfl)).1, (own_slR (hm156.get 5 rfl)).2.1, (own_slR (hm156.get 5 rfl)).2.2⟩⟩⟩⟩⟩, ⟨rfl, trivial⟩⟩⟩⟩⟩⟩⟩⟩⟩⟩⟩⟩) :) ?_
      rintro _ w160 ⟨rfl, hq160⟩
      refine ⟨_, rfl, ?_⟩
      have hm161 := hm156.call0 hq160
      refine gg 2 rfl ?_
      have hm163 := (hm161.cut [0, 1] [2, 3, 4, 5] rfl (by decide)).nf ([_, _] ++ [_, _, _, _]) rfl
      obtain ⟨F162, hm162⟩ := hm163.fold (T_api_Point.sh b12 ({ Name := y110.Name, Attrs := y110.Attrs, Kind := y110.Kind, Temp := y110.Temp, Mono := decide (p49.1 = 1), Start := y110.Start, Time := y110.Time, Int_ := y110.Int_, Re := y110.Re, Im := y110.Im, Hist := y110.Hist, Flags := y110.Flags } : T_api_Point)) ⟨A156_0, c156_0, A156_1, c156_1, A156_2, c156_2, rfl⟩
      exact hk5 (p160, F114, F115, F162) _ _ (Sub.cons rfl (Sub.cons rfl (Sub.cons rfl (Sub.nil _)))) (hm162.pick [0, 1, 2] rfl (by decide)) hM
     ·replace hM := iteF h155 hM
      refine gg 1 rfl ?_
      exact hk5 (y117, F114, F115, F125) _ _ (Sub.cons rfl (Sub.cons rfl (Sub.cons rfl (Sub.nil _)))) (hm125.pick [0, 1, 2] rfl (by decide)) hM
    intro hk4
    clear hj4
    refine Rn.condD rfl (fun h164 => ?_) (fun h164 => ?_)
    ·replace hM := iteT h164 hM
     refine gg 3 rfl ?_
     exact hk4 (3, F107, F108, F110) _ _ (Sub.cons rfl (Sub.cons rfl (Sub.cons rfl (Sub.cons rfl (Sub.nil _))))) (hm111.pick [0, 1, 2] rfl (by decide)) hM
    ·replace hM := iteF h164 hM
     refine gg 1 rfl ?_
     exact hk4 (y109, F107, F108, F110) _ _ (Sub.cons rfl (Sub.cons rfl (Sub.cons rfl (Sub.cons rfl (Sub.nil _))))) (hm111.pick [0, 1, 2] rfl (by decide)) hM
   intro hk3
   clear hj3
   refine Rn.condD rfl (fun h165 => ?_) (fun h165 => ?_)
   ·replace hM := iteT h165 hM
    refine gg 2 rfl ?_
    obtain ⟨p166, e166, hM⟩ := bindE hM
    refine Rn.cl ck40 rfl rfl rfl rfl (m_label_Parse_sim (Z0 := All) e166  :) ?_
    rintro _ w166 ⟨A166_1_0, c166_1_0, rfl, hq166⟩
    refine ⟨_, rfl, ?_⟩
    have hm168 := hm106.callF (flC (ownR_flat T_api_Pair.flat _ _ _ _) fl0) hq166
    refine gg 6 rfl ?_
    obtain ⟨_, ⟨A169_0, c169_0, A169_1, c169_1, A169_2, c169_2, rfl⟩, hm169⟩ := hm168.unf 1 rfl
    replace hm169 := hm169.nf [_, _, _, _, _, _, _] rfl
    refine Rn.st rfl rfl Tryz.sizeOf9 rfl rfl rfl rfl (by first | exact ones rfl | (simp [Value.oneCell']; done)) (hm169.get 3 rfl) (by first | exact Nat.le_of_ble_eq_true rfl | (simp; done)) ?_
    intro w173 m173 x173
    have hm174 := (hm169.st 3 rfl x173 m173).nf [_, _, _, boxR _ _ [_, _, _, _, _, _, _, _, _, _, _, _, _, _, _, _, _], _, _, _] rfl
    refine gg 1 rfl (Rn.st rfl rfl Tryz.sizeOf22 rfl rfl rfl rfl (by first | exact ones rfl | (simp [Value.oneCell']; done)) (hm174.get 3 rfl) (by first | exact Nat.le_of_ble_eq_true rfl | (simp; done)) ?_)
    intro w175 m175 x175
    have hm176 := (hm174.st 3 rfl x175 m175).nf [_, _, _, boxR _ _ [_, _, _, _, _, _, _, _, _, _, _, _, _, _, _, _, _], _, _, _] rfl
    refine gg 2 rfl ?_
    have hm178 := (hm176.cut [0, 1, 4] [3, 2, 5, 6] rfl (by decide)).nf ([_, _, _] ++ [_, _, _, _]) rfl
    obtain ⟨F177, hm177⟩ := hm178.fold (T_api_Point.sh b12 ({ Name := p166.1, Attrs := p166.2.1, Kind := p93.2.Kind, Temp := p93.2.Temp, Mono := p93.2.Mono, Start := p93.2.Start, Time := p93.2.Time, Int_ := p93.2.Int_, Re := p93.2.Re, Im := p93.2.Im, Hist := p93.2.Hist, Flags := p93.2.Flags } : T_api_Point)) ⟨A166_1_0, c166_1_0, A169_1, c169_1, A169_2, c169_2, rfl⟩
    exact hk3 (p166.2.2.2, ({ Name := p166.1, Attrs := p166.2.1, Kind := p93.2.Kind, Temp := p93.2.Temp, Mono := p93.2.Mono, Start := p93.2.Start, Time := p93.2.Time, Int_ := p93.2.Int_, Re := p93.2.Re, Im := p93.2.Im, Hist := p93.2.Hist, Flags := p93.2.Flags } : T_api_Point), F102, F104, F177) _ _ (Sub.cons rfl (Sub.cons rfl (Sub.cons rfl (Sub.cons rfl (Sub.nil _))))) (hm177.pick [0, 1, 3] rfl (by decide)) hM
   ·replace hM := iteF h165 hM
    refine gg 1 rfl ?_
    exact hk3 (y105, p93.2, F102, F104, F103) _ _ (Sub.cons rfl (Sub.cons rfl (Sub.cons rfl (Sub.cons rfl (Sub.nil _))))) (hm106.pick [0, 2, 1] rfl (by decide)) hM
  intro hk2
  clear hj2
  refine Rn.condD rfl (fun h179 => ?_) (fun h179 => ?_)
  ·replace hM := iteT h179 hM
   refine gg 4 rfl ?_
   obtain ⟨_, ⟨F180_0, b180_0, rfl⟩, hm180⟩ := hm100.unf 2 rfl
   replace hm180 := hm180.nf [_, _, _, _] rfl
   refine Rn.q rfl (V.ldB Tryz.isAgg65 rfl (hm180.get 2 rfl) rfl) ?_
   obtain ⟨p182, e182, hM⟩ := bindE hM
   refine Rn.cl ck39 rfl rfl rfl rfl (m_pack_Reader_Done_sim (Z0 := All) e182 (fz_all (hm180.get 3 rfl)) :) ?_
   rintro _ w182 ⟨rfl, hq182⟩
   refine ⟨_, rfl, ?_⟩
   have hm183 := hm180.call0 hq182
   refine gg 2 rfl ?_
   have hm185 := (hm183.cut [0, 1] [2, 3] rfl (by decide)).nf ([_, _] ++ [_, _]) rfl
   obtain ⟨F184, hm184⟩ := hm185.fold (T_point_reader.sh b9 p93.1) ⟨F180_0, b180_0, rfl⟩
   exact hk2 (p182, F89, F93_p1, F184) _ _ (Sub.cons rfl (Sub.cons rfl (Sub.cons rfl (Sub.cons rfl (Sub.cons rfl (Sub.nil _)))))) (hm184.pick [0, 1, 2] rfl (by decide)) hM
  ·replace hM := iteF h179 hM
   refine gg 1 rfl ?_
   exact hk2 (p93.1.e, F89, F93_p1, F100) _ _ (Sub.cons rfl (Sub.cons rfl (Sub.cons rfl (Sub.cons rfl (Sub.cons rfl (Sub.nil _)))))) (hm100.pick [0, 1, 2] rfl (by decide)) hM
 intro hk1
 clear hj1
 obtain ⟨_, ⟨F187_0, b187_0, rfl⟩, hm187⟩ := hm87.unf 2 rfl
 replace hm187 := hm187.nf [_, _, _, _, _] rfl
 have hm190 := (hm187.cutF [1, 3] [2, 4] [0] rfl (by decide) ⟨fun _ h => h, trivial⟩).nf ([_, _, _] ++ [_, _, _]) rfl
 refine Rn.drawF rfl hm190 ?_
 intro w191 hmo191 hm191
 refine dd [0] (by kernel_rfl) rfl rfl ?_
 obtain ⟨_, ⟨A192_0, c192_0, A192_1, c192_1, A192_2, c192_2, rfl⟩, hm192⟩ := hm191.unf 0 rfl
 replace hm192 := hm192.nf [_, _, _, _, _, _] rfl
 refine dd [2, 3, 4] (by kernel_rfl) rfl rfl ?_
 refine RH.take 5 (by kernel_rfl) rfl rfl rfl rfl (fun w' hDr => V.ldB Tryz.isAgg65 rfl ((hmo191.awayK hDr).get 1 rfl) rfl) ?_
 obtain ⟨p196, e196, hM⟩ := bindE hM
 refine RH.both 1 6 (by kernel_rfl) ?_ ?_
 ·refine RB.here fun hS1 => RB.one 1 rfl rfl rfl rfl (V.ldB Tryz.isAgg3 rfl (hm192.get 2 rfl) rfl) hS1 ?_
  have e204 := e196
  have hm205 := (hm192.cut [1, 2, 3, 4, 5] [0] rfl (by decide)).nf ([_, _, _, _, _] ++ [_]) rfl
  refine RH.cl ck37 6 (by kernel_rfl) rfl rfl rfl rfl (m_pack_Reader_Count_sim e204 hm205.lend :) ?_
  rintro _ w204 ⟨F204_p0, rfl, hq204⟩
  have hm207 := hm205.callAZ hq204
  refine ⟨_, rfl, hm207.fr, ?_⟩
  refine dd [7, 8] (by kernel_rfl) rfl rfl ?_
  refine RH.st 9 (by kernel_rfl) rfl rfl Tryz.sizeOf3 rfl rfl rfl rfl (by first | exact ones rfl | (simp [Value.oneCell']; done)) (hm207.get 1 rfl) (by first | exact Nat.le_of_ble_eq_true rfl | (simp; done)) ?_
  intro w208 m208 x208
  have hm209 := (hm207.st 1 rfl x208 m208).nf [_, boxR _ _ [_, _, _, _, _, _, _, _, _, _, _, _, _, _, _, _, _], _, _, _, _] rfl
  refine ⟨hm209.fr, ?_⟩
  refine RH.doneP (by kernel_rfl) ?_
  have hm210 := hmo191.callAZ hm209
  have hm211 := (hm210.pick [0, 1, 3, 4, 5, 6, 7, 8] rfl (by decide)).nf [_, _, _, _, _, _, _, _] rfl
  have hm213 := (hm211.cut [0, 2, 3, 4, 5, 6] [1, 7] rfl (by decide)).nf ([_, _, _, _, _, _] ++ [_, _]) rfl
  obtain ⟨F212, hm212⟩ := hm213.fold (T_point_reader.sh b9 ({ Reader := p196.2, e := 0 } : T_point_reader)) ⟨F204_p0, b187_0, rfl⟩
  have hm215 := (hm212.cut [0, 1, 6] [2, 3, 4, 5] rfl (by decide)).nf ([_, _, _] ++ [_, _, _, _]) rfl
  obtain ⟨F214, hm214⟩ := hm215.fold (T_api_Point.sh b12 ({ Name := ([] : List UInt8), Attrs := ([] : List T_api_Pair), Kind := p31.1, Temp := p35.1, Mono := false, Start := p63.1, Time := W64 (p63.1 + p196.1), Int_ := 0, Re := (0 : UInt64), Im := (0 : UInt64), Hist := ({ Scale := 0, Zero := (0 : UInt64), Pos := ({ Offset := 0, Counts := ([] : List UInt64) } : T_api_Side), Neg := ({ Offset := 0, Counts := ([] : List UInt64) } : T_api_Side) } : T_api_Hist), Flags := p59.1 } : T_api_Point)) ⟨A192_0, c192_0, A192_1, c192_1, A192_2, c192_2, rfl⟩
  exact hk1 (({ Reader := p196.2, e := 0 } : T_point_reader), ({ Name := ([] : List UInt8), Attrs := ([] : List T_api_Pair), Kind := p31.1, Temp := p35.1, Mono := false, Start := p63.1, Time := W64 (p63.1 + p196.1), Int_ := 0, Re := (0 : UInt64), Im := (0 : UInt64), Hist := ({ Scale := 0, Zero := (0 : UInt64), Pos := ({ Offset := 0, Counts := ([] : List UInt64) } : T_api_Side), Neg := ({ Offset := 0, Counts := ([] : List UInt64) } : T_api_Side) } : T_api_Hist), Flags := p59.1 } : T_api_Point), F83, F212, F214) _ _ (Sub.cons rfl (Sub.cons rfl (Sub.cons rfl (Sub.cons rfl (Sub.cons rfl (Sub.nil _)))))) (hm214.pick [0, 2, 3] rfl (by decide)) hM
 ·have e216 := e196
  have hm217 := (hm192.cut [1, 2, 3, 4, 5] [0] rfl (by decide)).nf ([_, _, _, _, _] ++ [_]) rfl
  refine RB.cl ck37 6 rfl rfl rfl rfl (m_pack_Reader_Count_sim e216 hm217.lend :) ?_
  rintro _ w216 ⟨F216_p0, rfl, hq216⟩
  have hm219 := hm217.callAZ hq216
  refine ⟨_, rfl, hm219.fr, ?_⟩
  refine RH.here fun hS1 => RH.one 1 (by kernel_rfl) rfl rfl rfl rfl (V.ldB Tryz.isAgg3 rfl (hm219.get 1 rfl) rfl) hS1 ?_
  refine dd [7, 8] (by kernel_rfl) rfl rfl ?_
  refine RH.st 9 (by kernel_rfl) rfl rfl Tryz.sizeOf3 rfl rfl rfl rfl (by first | exact ones rfl | (simp [Value.oneCell']; done)) (hm219.get 1 rfl) (by first | exact Nat.le_of_ble_eq_true rfl | (simp; done)) ?_
  intro w220 m220 x220
  have hm221 := (hm219.st 1 rfl x220 m220).nf [_, boxR _ _ [_, _, _, _, _, _, _, _, _, _, _, _, _, _, _, _, _], _, _, _, _] rfl
  refine ⟨hm221.fr, ?_⟩
  refine RH.doneP (by kernel_rfl) ?_
  have hm222 := hmo191.callAZ hm221
  have hm223 := (hm222.pick [0, 1, 3, 4, 5, 6, 7, 8] rfl (by decide)).nf [_, _, _, _, _, _, _, _] rfl
  have hm225 := (hm223.cut [0, 2, 3, 4, 5, 6] [1, 7] rfl (by decide)).nf ([_, _, _, _, _, _] ++ [_, _]) rfl
  obtain ⟨F224, hm224⟩ := hm225.fold (T_point_reader.sh b9 ({ Reader := p196.2, e := 0 } : T_point_reader)) ⟨F216_p0, b187_0, rfl⟩
  have hm227 := (hm224.cut [0, 1, 6] [2, 3, 4, 5] rfl (by decide)).nf ([_, _, _] ++ [_, _, _, _]) rfl
  obtain ⟨F226, hm226⟩ := hm227.fold (T_api_Point.sh b12 ({ Name := ([] : List UInt8), Attrs := ([] : List T_api_Pair), Kind := p31.1, Temp := p35.1, Mono := false, Start := p63.1, Time := W64 (p63.1 + p196.1), Int_ := 0, Re := (0 : UInt64), Im := (0 : UInt64), Hist := ({ Scale := 0, Zero := (0 : UInt64), Pos := ({ Offset := 0, Counts := ([] : List UInt64) } : T_api_Side), Neg := ({ Offset := 0, Counts := ([] : List UInt64) } : T_api_Side) } : T_api_Hist), Flags := p59.1 } : T_api_Point)) ⟨A192_0, c192_0, A192_1, c192_1, A192_2, c192_2, rfl⟩
  exact hk1 (({ Reader := p196.2, e := 0 } : T_point_reader), ({ Name := ([] : List UInt8), Attrs := ([] : List T_api_Pair), Kind := p31.1, Temp := p35.1, Mono := false, Start := p63.1, Time := W64 (p63.1 + p196.1), Int_ := 0, Re := (0 : UInt64), Im := (0 : UInt64), Hist := ({ Scale := 0, Zero := (0 : UInt64), Pos := ({ Offset := 0, Counts := ([] : List UInt64) } : T_api_Side), Neg := ({ Offset := 0, Counts := ([] : List UInt64) } : T_api_Side) } : T_api_Hist), Flags := p59.1 } : T_api_Point), F83, F224, F226) _ _ (Sub.cons rfl (Sub.cons rfl (Sub.cons rfl (Sub.cons rfl (Sub.cons rfl (Sub.nil _)))))) (hm226.pick [0, 2, 3] rfl (by decide)) hM

theorem m_limnographlaw12_awake_sim {Z0 : Nat → Prop} {w : World}  {r : Bool} (hM : m_limnographlaw12_awake  = some r)  :
    Calls Tryz.prog 5 #[] w fun x w' => x = .returned (.bool (r)) ∧ Hp Z0 No w w' [] := by
 have hm0 := Hp.nil Z0 No w
 have hc0 := Calm.nil
 refine Rn.enter Tryz.func5 rfl rfl (Nat.le_of_ble_eq_true rfl) ?_
 refine gg 6 rfl (Rn.q rfl (V.bldS (cs := [_, _, _, _, _, _, _, _, _, _, _, _, _, _, _, _, _]) st30 rfl rfl) (Rn.als rfl rfl rfl Tryz.zeroValue30 rfl Tryz.sizeOf30 rfl rfl rfl rfl (by first | exact ones rfl | (simp [Value.oneCell']; done)) ?_))
 intro b1 w1 hb1 m1 e1
 have hm3 := (hm0.addBox hb1 e1 m1).nf [boxR _ _ [_, _, _, _, _, _, _, _, _, _, _, _, _, _, _, _, _]] rfl
 refine gg 3 rfl (Rn.q rfl (V.ldBA [_, _, _, _, _, _, _, _, _, _, _, _, _, _, _, _, _] Tryz.isAgg30 Tryz.sizeOf30 rfl (hm3.get 0 rfl) rfl rfl) ?_)
 obtain ⟨p4, e4, hM⟩ := bindE hM
 refine Rn.cl ck13 rfl rfl rfl rfl (m_point_Key_sim (Z0 := All) e4 (show T_api_Point.rep.rel All _ _ _ from ⟨_, _, rfl, ⟨rfl, trivial⟩, ⟨_, _, rfl, ⟨none, 0, rfl, Nat.le_refl _, Nat.zero_le _, Sl.nil _ _ _ _⟩, ⟨_, _, rfl, ⟨rfl, trivial⟩, ⟨_, _, rfl, ⟨rfl, trivial⟩, ⟨_, _, rfl, ⟨rfl, trivial⟩, ⟨_, _, rfl, ⟨rfl, trivial⟩, ⟨_, _, rfl, ⟨rfl, trivial⟩, ⟨_, _, rfl, ⟨rfl, trivial⟩, ⟨_, _, rfl, ⟨rfl, trivial⟩, ⟨_, _, rfl, ⟨rfl, trivial⟩, ⟨_, _, rfl, ⟨_, _, rfl, ⟨rfl, trivial⟩, ⟨_, _, rfl, ⟨rfl, trivial⟩, ⟨_, _, rfl, ⟨_, _, rfl, ⟨rfl, trivial⟩, ⟨none, 0, rfl, Nat.le_refl _, Nat.zero_le _, Sl.nil _ _ _ _⟩⟩, ⟨_, _, rfl, ⟨rfl, trivial⟩, ⟨none, 0, rfl, Nat.le_refl _, Nat.zero_le _, Sl.nil _ _ _ _⟩⟩⟩⟩⟩, ⟨rfl, trivial⟩⟩⟩⟩⟩⟩⟩⟩⟩⟩⟩⟩) :) ?_
 rintro _ w4 ⟨rfl, hq4⟩
 refine ⟨_, rfl, ?_⟩
 have hm5 := hm3.call0 hq4
 refine gg 8 rfl (Rn.q rfl (V.ldBA [_, _, _, _, _, _, _, _, _, _, _, _, _, _, _, _, _] Tryz.isAgg30 Tryz.sizeOf30 rfl (hm5.get 0 rfl) rfl rfl) ?_)
 obtain ⟨p6, e6, hM⟩ := bindE hM
 refine Rn.cl ck7 rfl rfl rfl rfl (m_point_Bytes_sim (Z0 := All) e6 (show T_api_Point.rep.rel All _ _ _ from ⟨_, _, rfl, ⟨rfl, trivial⟩, ⟨_, _, rfl, ⟨none, 0, rfl, Nat.le_refl _, Nat.zero_le _, Sl.nil _ _ _ _⟩, ⟨_, _, rfl, ⟨rfl, trivial⟩, ⟨_, _, rfl, ⟨rfl, trivial⟩, ⟨_, _, rfl, ⟨rfl, trivial⟩, ⟨_, _, rfl, ⟨rfl, trivial⟩, ⟨_, _, rfl, ⟨rfl, trivial⟩, ⟨_, _, rfl, ⟨rfl, trivial⟩, ⟨_, _, rfl, ⟨rfl, trivial⟩, ⟨_, _, rfl, ⟨rfl, trivial⟩, ⟨_, _, rfl, ⟨_, _, rfl, ⟨rfl, trivial⟩, ⟨_, _, rfl, ⟨rfl, trivial⟩, ⟨_, _, rfl, ⟨_, _, rfl, ⟨rfl, trivial⟩, ⟨none, 0, rfl, Nat.le_refl _, Nat.zero_le _, Sl.nil _ _ _ _⟩⟩, ⟨_, _, rfl, ⟨rfl, trivial⟩, ⟨none, 0, rfl, Nat.le_refl _, Nat.zero_le _, Sl.nil _ _ _ _⟩⟩⟩⟩⟩, ⟨rfl, trivial⟩⟩⟩⟩⟩⟩⟩⟩⟩⟩⟩⟩) :) ?_
 rintro _ w6 ⟨A6_0_0, c6_0_0, rfl, hq6⟩
 refine ⟨_, rfl, ?_⟩
 have hm8 := hm5.callF (flC (ownR_flat byte_flat _ _ _ _) fl0) hq6
 refine gg 9 rfl ?_
 obtain ⟨p9, e9, hM⟩ := bindE hM
 refine Rn.cl ck9 rfl rfl rfl rfl (m_point_Read_sim (Z0 := All) e9 (own_slR (hm8.get 1 rfl)) :) ?_
 rintro _ w9 ⟨A9_0_0, c9_0_0, A9_0_1, c9_0_1, A9_0_2, c9_0_2, rfl, hq9⟩
 refine ⟨_, rfl, ?_⟩
 have hm13 := hm8.callF (flC (ownR_flat T_api_Pair.flat _ _ _ _) (flC (ownR_flat w64_flat _ _ _ _) (flC (ownR_flat w64_flat _ _ _ _) fl0))) hq9
 refine gg 3 rfl (Rn.als rfl rfl rfl Tryz.zeroValue30 rfl Tryz.sizeOf30 rfl rfl rfl rfl (by first | exact ones rfl | (simp [Value.oneCell']; done)) ?_)
 intro b14 w14 hb14 m14 e14
 have hm16 := (hm13.addBox hb14 e14 m14).nf [_, _, _, _, _, boxR _ _ [_, _, _, _, _, _, _, _, _, _, _, _, _, _, _, _, _]] rfl
 refine gg 5 rfl (Rn.st rfl rfl Tryz.sizeOf3 rfl rfl rfl rfl (by first | exact ones rfl | (simp [Value.oneCell']; done)) (hm16.get 0 rfl) (by first | exact Nat.le_of_ble_eq_true rfl | (simp; done)) ?_)
 intro w17 m17 x17
 have hm18 := (hm16.st 0 rfl x17 m17).nf [boxR _ _ [_, _, _, _, _, _, _, _, _, _, _, _, _, _, _, _, _], _, _, _, _, _] rfl
 refine gg 4 rfl (Rn.q rfl (V.eqlS rfl rfl) (gg 1 rfl ?_))
 obtain ⟨j1, hj1, hM⟩ := jnE hM
 refine Rn.joinR (r := r) (G := Bool) [7, 8, 9, 10, 11, 12, 13, 14, 15, 16, 17, 18, 19, 20, 21, 22, 23, 24, 25, 26, 27, 28, 29] (fun g => [(1, .pointer (some ⟨b1, 0, none⟩)), (3, .int .i64 (p4.2)), (5, .int .i64 (p6.2)), (6, .pointer (some ⟨b14, 0, none⟩)), (7, .int .i64 (p9.2)), (31, .bool (g))]) (fun g w' => Hp Z0 No w w' [boxR b1 30 [Str (([120] : List UInt8)), .slice none 0 0, .int .i64 (1), .int .i64 (1), .bool true, .int .i64 (0), .int .i64 (10), .int .i64 ((-5)), .int .u64 ((((0 : UInt64)).toNat : Nat) : Int), .int .u64 ((((0 : UInt64)).toNat : Nat) : Int), .int .i64 (0), .int .u64 ((((0 : UInt64)).toNat : Nat) : Int), .int .i64 (0), .slice none 0 0, .int .i64 (0), .slice none 0 0, .int .i64 (0)], ownR 5 A6_0_0 c6_0_0 byteR p6.1, ownR 42 A9_0_0 c9_0_0 T_api_Pair.rep p9.1.Attrs, ownR 23 A9_0_1 c9_0_1 w64R p9.1.Hist.Pos.Counts, ownR 23 A9_0_2 c9_0_2 w64R p9.1.Hist.Neg.Counts, boxR b14 30 [Str (p9.1.Name), .slice A9_0_0 (p9.1.Attrs).length c9_0_0, .int .i64 (p9.1.Kind), .int .i64 (p9.1.Temp), .bool (p9.1.Mono), .int .i64 (p9.1.Start), .int .i64 (p9.1.Time), .int .i64 (p9.1.Int_), .int .u64 (((p9.1.Re).toNat : Nat) : Int), .int .u64 (((p9.1.Im).toNat : Nat) : Int), .int .i64 (p9.1.Hist.Scale), .int .u64 (((p9.1.Hist.Zero).toNat : Nat) : Int), .int .i64 (p9.1.Hist.Pos.Offset), .slice A9_0_1 (p9.1.Hist.Pos.Counts).length c9_0_1, .int .i64 (p9.1.Hist.Neg.Offset), .slice A9_0_2 (p9.1.Hist.Neg.Counts).length c9_0_2, .int .i64 (p9.1.Flags)]]) (fun g => j1 g) ?_ ?_
 ·subst hj1
  clear hM
  rintro y19 w20 hm20 hM
  try dsimp only at hM
  refine gg 1 rfl ?_
  refine Rn.cutR [11, 12, 13, 14, 15, 16, 17, 18, 19, 20, 21, 22, 23, 24, 25, 26, 27, 28, 29] [(1, .pointer (some ⟨b1, 0, none⟩)), (5, .int .i64 (p6.2)), (6, .pointer (some ⟨b14, 0, none⟩)), (7, .int .i64 (p9.2)), (35, .bool (decide ((y19 = true) ∧ (p4.2 = 0))))] (fun hk21 => ?_) ?_
  ·refine Rn.part (t := 32) rfl (fun h22 => ?_) (fun h22 => ?_)
   ·refine gg 3 rfl ?_
    refine hk21 _ ?_
    exact Sub.cons rfl (Sub.cons rfl (Sub.cons rfl (Sub.cons rfl (Sub.cons (lkv _ rfl (by first | exact andT h22 | exact andF h22 | exact orT h22 | exact orF h22 | exact nandF h22 | exact nandT h22 | exact norT h22 | exact norF h22 | (simp [h22]; done) | grind)) (Sub.nil _)))))
   ·refine gg 3 rfl ?_
    refine hk21 _ ?_
    exact Sub.cons rfl (Sub.cons rfl (Sub.cons rfl (Sub.cons rfl (Sub.cons (lkv _ rfl (by first | exact andT h22 | exact andF h22 | exact orT h22 | exact orF h22 | exact nandF h22 | exact nandT h22 | exact norT h22 | exact norF h22 | (simp [h22]; done) | grind)) (Sub.nil _)))))
  refine gg 1 rfl ?_
  refine Rn.cutR [15, 16, 17, 18, 19, 20, 21, 22, 23, 24, 25, 26, 27, 28, 29] [(1, .pointer (some ⟨b1, 0, none⟩)), (6, .pointer (some ⟨b14, 0, none⟩)), (7, .int .i64 (p9.2)), (39, .bool (decide (((y19 = true) ∧ (p4.2 = 0)) ∧ (p6.2 = 0))))] (fun hk23 => ?_) ?_
  ·refine Rn.partD (t := 36) rfl (fun h24 => ?_) (fun h24 => ?_)
   ·refine gg 3 rfl ?_
    refine hk23 _ ?_
    exact Sub.cons rfl (Sub.cons rfl (Sub.cons rfl (Sub.cons (lkv _ rfl (by first | exact andT h24 | exact andF h24 | exact orT h24 | exact orF h24 | exact nandF h24 | exact nandT h24 | exact norT h24 | exact norF h24 | (simp [h24]; done) | grind)) (Sub.nil _))))
   ·refine gg 3 rfl ?_
    refine hk23 _ ?_
    exact Sub.cons rfl (Sub.cons rfl (Sub.cons rfl (Sub.cons (lkv _ rfl (by first | exact andT h24 | exact andF h24 | exact orT h24 | exact orF h24 | exact nandF h24 | exact nandT h24 | exact norT h24 | exact norF h24 | (simp [h24]; done) | grind)) (Sub.nil _))))
  refine gg 1 rfl ?_
  refine Rn.cutR [19, 20, 21, 22, 23, 24, 25, 26, 27, 28, 29] [(1, .pointer (some ⟨b1, 0, none⟩)), (6, .pointer (some ⟨b14, 0, none⟩)), (43, .bool (decide ((((y19 = true) ∧ (p4.2 = 0)) ∧ (p6.2 = 0)) ∧ (p9.2 = 0))))] (fun hk25 => ?_) ?_
  ·refine Rn.partD (t := 40) rfl (fun h26 => ?_) (fun h26 => ?_)
   ·refine gg 3 rfl ?_
    refine hk25 _ ?_
    exact Sub.cons rfl (Sub.cons rfl (Sub.cons (lkv _ rfl (by first | exact andT h26 | exact andF h26 | exact orT h26 | exact orF h26 | exact nandF h26 | exact nandT h26 | exact norT h26 | exact norF h26 | (simp [h26]; done) | grind)) (Sub.nil _)))
   ·refine gg 3 rfl ?_
    refine hk25 _ ?_
    exact Sub.cons rfl (Sub.cons rfl (Sub.cons (lkv _ rfl (by first | exact andT h26 | exact andF h26 | exact orT h26 | exact orF h26 | exact nandF h26 | exact nandT h26 | exact norT h26 | exact norF h26 | (simp [h26]; done) | grind)) (Sub.nil _)))
  refine gg 1 rfl ?_
  refine Rn.cutR [24, 25, 26, 27, 28, 29] [(1, .pointer (some ⟨b1, 0, none⟩)), (48, .bool (decide (((((y19 = true) ∧ (p4.2 = 0)) ∧ (p6.2 = 0)) ∧ (p9.2 = 0)) ∧ (p9.1.Int_ = 5))))] (fun hk27 => ?_) ?_
  ·refine Rn.partD (t := 44) rfl (fun h28 => ?_) (fun h28 => ?_)
   ·refine gg 1 rfl (Rn.q rfl (V.ldB Tryz.isAgg3 rfl (hm20.get 5 rfl) rfl) (gg 2 rfl ?_))
    refine hk27 _ ?_
    exact Sub.cons rfl (Sub.cons (lkv _ rfl (by first | exact andT h28 | exact andF h28 | exact orT h28 | exact orF h28 | exact nandF h28 | exact nandT h28 | exact norT h28 | exact norF h28 | (simp [h28]; done) | grind)) (Sub.nil _))
   ·refine gg 4 rfl ?_
    refine hk27 _ ?_
    exact Sub.cons rfl (Sub.cons (lkv _ rfl (by first | exact andT h28 | exact andF h28 | exact orT h28 | exact orF h28 | exact nandF h28 | exact nandT h28 | exact norT h28 | exact norF h28 | (simp [h28]; done) | grind)) (Sub.nil _))
  refine gg 1 rfl ?_
  obtain ⟨j2, hj2, hM⟩ := jnE hM
  refine Rn.joinR (r := r) (G := Bool) [29] (fun g => [(53, .bool (g))]) (fun g w' => Hp Z0 No w w' [boxR b1 30 [Str (([120] : List UInt8)), .slice none 0 0, .int .i64 (1), .int .i64 (1), .bool true, .int .i64 (0), .int .i64 (10), .int .i64 ((-5)), .int .u64 ((((0 : UInt64)).toNat : Nat) : Int), .int .u64 ((((0 : UInt64)).toNat : Nat) : Int), .int .i64 (0), .int .u64 ((((0 : UInt64)).toNat : Nat) : Int), .int .i64 (0), .slice none 0 0, .int .i64 (0), .slice none 0 0, .int .i64 (0)], ownR 5 A6_0_0 c6_0_0 byteR p6.1, ownR 42 A9_0_0 c9_0_0 T_api_Pair.rep p9.1.Attrs, ownR 23 A9_0_1 c9_0_1 w64R p9.1.Hist.Pos.Counts, ownR 23 A9_0_2 c9_0_2 w64R p9.1.Hist.Neg.Counts, boxR b14 30 [Str (p9.1.Name), .slice A9_0_0 (p9.1.Attrs).length c9_0_0, .int .i64 (p9.1.Kind), .int .i64 (p9.1.Temp), .bool (p9.1.Mono), .int .i64 (p9.1.Start), .int .i64 (p9.1.Time), .int .i64 (p9.1.Int_), .int .u64 (((p9.1.Re).toNat : Nat) : Int), .int .u64 (((p9.1.Im).toNat : Nat) : Int), .int .i64 (p9.1.Hist.Scale), .int .u64 (((p9.1.Hist.Zero).toNat : Nat) : Int), .int .i64 (p9.1.Hist.Pos.Offset), .slice A9_0_1 (p9.1.Hist.Pos.Counts).length c9_0_1, .int .i64 (p9.1.Hist.Neg.Offset), .slice A9_0_2 (p9.1.Hist.Neg.Counts).length c9_0_2, .int .i64 (p9.1.Flags)]]) (fun g => j2 g) ?_ ?_
  ·subst hj2
   clear hM
   rintro y29 w30 hm30 hM
   try dsimp only at hM
   refine gg 2 rfl ?_
   refine Rn.retG1 Tryz.func5 rfl (rvT rfl) ?_
   obtain rfl := someE hM
   exact ⟨rfl, hm30.pick [] rfl (by decide)⟩
  intro hk2
  clear hj2
  refine Rn.partD (t := 49) rfl (fun h31 => ?_) (fun h31 => ?_)
  ·replace hM := iteT h31 hM
   refine Rn.q rfl (V.ldBA [_, _, _, _, _, _, _, _, _, _, _, _, _, _, _, _, _] Tryz.isAgg30 Tryz.sizeOf30 rfl (hm20.get 0 rfl) rfl rfl) ?_
   obtain ⟨p32, e32, hM⟩ := bindE hM
   refine Rn.cl ck8 rfl rfl rfl rfl (m_point_Check_sim (Z0 := All) e32 (show T_api_Point.rep.rel All _ _ _ from ⟨_, _, rfl, ⟨rfl, trivial⟩, ⟨_, _, rfl, ⟨none, 0, rfl, Nat.le_refl _, Nat.zero_le _, Sl.nil _ _ _ _⟩, ⟨_, _, rfl, ⟨rfl, trivial⟩, ⟨_, _, rfl, ⟨rfl, trivial⟩, ⟨_, _, rfl, ⟨rfl, trivial⟩, ⟨_, _, rfl, ⟨rfl, trivial⟩, ⟨_, _, rfl, ⟨rfl, trivial⟩, ⟨_, _, rfl, ⟨rfl, trivial⟩, ⟨_, _, rfl, ⟨rfl, trivial⟩, ⟨_, _, rfl, ⟨rfl, trivial⟩, ⟨_, _, rfl, ⟨_, _, rfl, ⟨rfl, trivial⟩, ⟨_, _, rfl, ⟨rfl, trivial⟩, ⟨_, _, rfl, ⟨_, _, rfl, ⟨rfl, trivial⟩, ⟨none, 0, rfl, Nat.le_refl _, Nat.zero_le _, Sl.nil _ _ _ _⟩⟩, ⟨_, _, rfl, ⟨rfl, trivial⟩, ⟨none, 0, rfl, Nat.le_refl _, Nat.zero_le _, Sl.nil _ _ _ _⟩⟩⟩⟩⟩, ⟨rfl, trivial⟩⟩⟩⟩⟩⟩⟩⟩⟩⟩⟩⟩) :) ?_
   rintro _ w32 ⟨rfl, hq32⟩
   refine ⟨_, rfl, ?_⟩
   have hm33 := hm20.call0 hq32
   refine gg 2 rfl ?_
   exact hk2 (decide (p32 = 1)) _ _ (Sub.cons rfl (Sub.nil _)) (hm33.pick [0, 1, 2, 3, 4, 5] rfl (by decide)) hM
  ·replace hM := iteF h31 hM
   refine gg 4 rfl ?_
   exact hk2 false _ _ (Sub.cons rfl (Sub.nil _)) (hm20.pick [0, 1, 2, 3, 4, 5] rfl (by decide)) hM
 intro hk1
 clear hj1
 refine Rn.partD (t := 27) rfl (fun h34 => ?_) (fun h34 => ?_)
 ·replace hM := iteT h34 hM
  refine gg 1 rfl (Rn.q rfl (V.b2s Tryz.underlying33 Tryz.underlying9 Tryz.underlying5 rfl rfl (Own.sl (hm18.get 1 rfl))) (Rn.q rfl (V.eqlS rfl rfl) (gg 1 rfl ?_)))
  exact hk1 (decide (p6.1 = ([1, 120, 1, 1, 1, 0, 0, 10, 10] : List UInt8))) _ _ (Sub.cons rfl (Sub.cons rfl (Sub.cons rfl (Sub.cons rfl (Sub.cons rfl (Sub.cons rfl (Sub.nil _))))))) (hm18.pick [0, 1, 2, 3, 4, 5] rfl (by decide)) hM
 ·replace hM := iteF h34 hM
  refine gg 4 rfl ?_
  exact hk1 false _ _ (Sub.cons rfl (Sub.cons rfl (Sub.cons rfl (Sub.cons rfl (Sub.cons rfl (Sub.cons rfl (Sub.nil _))))))) (hm18.pick [0, 1, 2, 3, 4, 5] rfl (by decide)) hM

theorem m_limnographref11_Light_sim {Z0 : Nat → Prop} {w : World} {A0 : Option Addr} {c0 : Nat} {x0 : (List T_api_Pair)} {r : Bool} (hM : m_limnographref11_Light x0 = some r) (f0 : (slR A0 c0 T_api_Pair.rep x0).H Z0 w) :
    Calls Tryz.prog 16 #[.slice A0 (x0).length c0] w fun x w' => x = .returned (.bool (r)) ∧ Hp Z0 No w w' [] := by
 have hm0 := Hp.nil Z0 No w
 have hc0 := Calm.nil
 have hm2 := hm0.know (slR A0 c0 T_api_Pair.rep x0) (fun _ h => h) (hm0.in0 hc0 f0)
 replace hc0 := hc0.snoc (r := slR A0 c0 T_api_Pair.rep x0) (fun _ h => h)
 refine Rn.enter Tryz.func16 rfl rfl (Nat.le_of_ble_eq_true rfl) ?_
 refine gg 8 rfl (Rn.q rfl (V.lenV Tryz.underlying22 rfl) (gg 2 rfl ?_))
 refine Rn.condD rfl (fun h3 => ?_) (fun h3 => ?_)
 ·replace hM := iteT h3 hM
  refine gg 4 rfl ?_
  refine Rn.retG1 Tryz.func16 rfl (rvT rfl) ?_
  obtain rfl := someE hM
  exact ⟨rfl, hm2.pick [] rfl (by decide)⟩
 ·replace hM := iteF h3 hM
  refine gg 6 rfl ?_
  obtain ⟨j1, hj1, hM⟩ := jnE hM
  refine Rn.joinG (r := r) (G := Unit) (fun g => []) (fun g w' => Hp Z0 No w w' []) (fun g => j1 ()) ?_ ?_
  ·subst hj1
   clear hM
   rintro _ w4 hm4 hM
   try dsimp only at hM
   refine gg 4 rfl ?_
   refine Rn.retG1 Tryz.func16 rfl (rvT rfl) ?_
   obtain rfl := someE hM
   exact ⟨rfl, hm4.pick [] rfl (by decide)⟩
  intro hk1
  clear hj1
  refine gg 1 rfl ?_
  refine Rn.loopF (G := Int) (fun g => [(0, .slice A0 (x0).length c0), (3, .int .i64 (g))]) (fun g w' => Hp Z0 No w w' [slR A0 c0 T_api_Pair.rep x0]) (fun n g => m_limnographref11_Light_L1 x0 j1 n g) fuel 0 (Sub.cons rfl (Sub.cons rfl (Sub.nil _))) (hm2.pick [0] rfl (by decide)) hM (fun _ => rfl) ?_
  clear hM
  rintro m6 y5 w6 hm6 hM hn6
  replace hM : m_limnographref11_Light_L1 x0 j1 (m6 + 1) y5 = some r := hM
  rw [m_limnographref11_Light_L1] at hM
  refine gg 5 rfl (Rn.q rfl (V.lenV Tryz.underlying22 rfl) (gg 2 rfl ?_))
  refine Rn.condD rfl (fun h7 => ?_) (fun h7 => ?_)
  ·replace hM := iteT h7 hM
   refine gg 7 rfl ?_
   obtain ⟨z8, e8, hM⟩ := bindE hM
   refine Rn.ixH hm6 0 rfl e8 rfl rfl rfl Tryz.underlying22 Tryz.sizeOf42 rfl rfl rfl rfl ?_
   rintro b8 o8 vs8 ⟨_, _, rfl, ⟨rfl, _⟩, ⟨rfl, _⟩⟩ hm8
   refine gg 1 rfl (Rn.q rfl (V.ldR0 Tryz.isAgg9 rfl (hm8.get 1 rfl).2 rfl) (Rn.q rfl (V.lenS Tryz.underlying9 rfl) (gg 2 rfl ?_)))
   obtain ⟨j2, hj2, hM⟩ := jnE hM
   refine Rn.joinR (r := r) (G := Bool) [] (fun g => [(0, .slice A0 (x0).length c0), (3, .int .i64 (y5)), (28, .bool (g))]) (fun g w' => Hp Z0 No w w' [slR A0 c0 T_api_Pair.rep x0]) (fun g => j2 g) ?_ ?_
   ·subst hj2
    clear hM
    rintro y10 w11 hm11 hM
    try dsimp only at hM
    refine gg 1 rfl ?_
    refine Rn.condS rfl (fun h12 => ?_) (fun h12 => ?_)
    ·replace hM := iteT h12 hM
     refine gg 4 rfl ?_
     refine Rn.retG1 Tryz.func16 rfl (rvT rfl) ?_
     obtain rfl := someE hM
     exact ⟨rfl, hm11.pick [] rfl (by decide)⟩
    ·replace hM := iteFB hM h12
     refine gg 7 rfl ?_
     exact hn6 (W64 (y5 + 1)) _ _ (Sub.cons rfl (Sub.cons rfl (Sub.nil _))) (hm11.pick [0] rfl (by decide)) hM
   intro hk2
   clear hj2
   refine Rn.partD (t := 20) rfl (fun h13 => ?_) (fun h13 => ?_)
   ·replace hM := iteT h13 hM
    refine gg 8 rfl ?_
    exact hk2 true _ _ (Sub.cons rfl (Sub.cons rfl (Sub.cons rfl (Sub.nil _)))) (hm8.pick [0] rfl (by decide)) hM
   ·replace hM := iteF h13 hM
    refine gg 2 rfl ?_
    obtain ⟨z14, e14, hM⟩ := bindE hM
    refine Rn.ixH hm8 0 rfl e14 rfl rfl rfl Tryz.underlying22 Tryz.sizeOf42 rfl rfl rfl rfl ?_
    rintro b14 o14 vs14 ⟨_, _, rfl, ⟨rfl, _⟩, ⟨rfl, _⟩⟩ hm14
    refine gg 1 rfl (Rn.q rfl (V.ldR Tryz.isAgg9 rfl (hm14.get 2 rfl).2 rfl) (Rn.q rfl (V.lenS Tryz.underlying9 rfl) (gg 2 rfl ?_)))
    exact hk2 (decide ((z14.Val.length : Int) > 100)) _ _ (Sub.cons rfl (Sub.cons rfl (Sub.cons rfl (Sub.nil _)))) (hm14.pick [0] rfl (by decide)) hM
  ·replace hM := iteF h7 hM
   refine gg 1 rfl ?_
   exact hk1 () _ _ (Sub.nil _) (hm6.pick [] rfl (by decide)) hM

theorem m_limnographref08_Light_sim {Z0 : Nat → Prop} {w : World} {x0 : T_api_Hist} {cs0 : List Value} {r : Bool} (hM : m_limnographref08_Light x0 = some r) (h0 : T_api_Hist.rep.rel Z0 w cs0 x0) :
    Calls Tryz.prog 17 #[.agg cs0.toArray] w fun x w' => x = .returned (.bool (r)) ∧ Hp Z0 No w w' [] := by
 have hm0 := Hp.nil Z0 No w
 have hc0 := Calm.nil
 obtain ⟨_, _, rfl, ⟨rfl, _⟩, ⟨_, _, rfl, ⟨rfl, _⟩, ⟨_, _, rfl, ⟨_, _, rfl, ⟨rfl, _⟩, ⟨A1, c1, rfl, p1, q1, s1⟩⟩, ⟨_, _, rfl, ⟨rfl, _⟩, ⟨A3, c3, rfl, p3, q3, s3⟩⟩⟩⟩⟩ := h0
 have hm5 := hm0.know (slR A1 c1 w64R x0.Pos.Counts) (fun _ h => h) (hm0.in0 hc0 ⟨p1, q1, s1⟩)
 replace hc0 := hc0.snoc (r := slR A1 c1 w64R x0.Pos.Counts) (fun _ h => h)
 have hm6 := hm5.know (slR A3 c3 w64R x0.Neg.Counts) (fun _ h => h) (hm5.in0 hc0 ⟨p3, q3, s3⟩)
 replace hc0 := hc0.snoc (r := slR A3 c3 w64R x0.Neg.Counts) (fun _ h => h)
 refine Rn.enter Tryz.func17 rfl rfl (Nat.le_of_ble_eq_true rfl) ?_
 refine gg 2 rfl (Rn.box rfl rfl rfl rfl rfl ?_)
 intro b7 w7 hb7 m7 e7
 have hm9 := (hm6.addBox hb7 e7 m7).nf [_, _, boxR _ _ [_, _, _, _, _, _]] rfl
 refine gg 6 rfl (Rn.q rfl (V.ldB Tryz.isAgg24 rfl (hm9.get 2 rfl) rfl) (Rn.q rfl (V.lenV Tryz.underlying24 rfl) (gg 2 rfl ?_)))
 refine Rn.cutR [12] [(14, .bool (decide (((x0.Pos.Counts.length : Int) ≤ 300) ∧ ((x0.Neg.Counts.length : Int) ≤ 300))))] (fun hk10 => ?_) ?_
 ·refine Rn.partD (t := 8) rfl (fun h11 => ?_) (fun h11 => ?_)
  ·refine gg 2 rfl (Rn.q rfl (V.ldB Tryz.isAgg24 rfl (hm9.get 2 rfl) rfl) (Rn.q rfl (V.lenV Tryz.underlying24 rfl) (gg 2 rfl ?_)))
   refine hk10 _ ?_
   exact Sub.cons (lkv _ rfl (by first | exact andT h11 | exact andF h11 | exact orT h11 | exact orF h11 | exact nandF h11 | exact nandT h11 | exact norT h11 | exact norF h11 | (simp [h11]; done) | grind)) (Sub.nil _)
  ·refine gg 6 rfl ?_
   refine hk10 _ ?_
   exact Sub.cons (lkv _ rfl (by first | exact andT h11 | exact andF h11 | exact orT h11 | exact orF h11 | exact nandF h11 | exact nandT h11 | exact norT h11 | exact norF h11 | (simp [h11]; done) | grind)) (Sub.nil _)
 refine gg 2 rfl ?_
 refine Rn.retG1 Tryz.func17 rfl (rvT rfl) ?_
 obtain rfl := someE hM
 exact ⟨rfl, hm9.pick [] rfl (by decide)⟩

theorem m_limnographref12_Light_sim {Z0 : Nat → Prop} {w : World} {x0 : T_api_Point} {cs0 : List Value} {r : Bool} (hM : m_limnographref12_Light x0 = some r) (h0 : T_api_Point.rep.rel Z0 w cs0 x0) :
    Calls Tryz.prog 6 #[.agg cs0.toArray] w fun x w' => x = .returned (.bool (r)) ∧ Hp Z0 No w w' [] := by
 have hm0 := Hp.nil Z0 No w
 have hc0 := Calm.nil
 obtain ⟨_, _, rfl, ⟨rfl, _⟩, ⟨_, _, rfl, ⟨A1, c1, rfl, p1, q1, s1⟩, ⟨_, _, rfl, ⟨rfl, _⟩, ⟨_, _, rfl, ⟨rfl, _⟩, ⟨_, _, rfl, ⟨rfl, _⟩, ⟨_, _, rfl, ⟨rfl, _⟩, ⟨_, _, rfl, ⟨rfl, _⟩, ⟨_, _, rfl, ⟨rfl, _⟩, ⟨_, _, rfl, ⟨rfl, _⟩, ⟨_, _, rfl, ⟨rfl, _⟩, ⟨_, _, rfl, ⟨_, _, rfl, ⟨rfl, _⟩, ⟨_, _, rfl, ⟨rfl, _⟩, ⟨_, _, rfl, ⟨_, _, rfl, ⟨rfl, _⟩, ⟨A3, c3, rfl, p3, q3, s3⟩⟩, ⟨_, _, rfl, ⟨rfl, _⟩, ⟨A5, c5, rfl, p5, q5, s5⟩⟩⟩⟩⟩, ⟨rfl, _⟩⟩⟩⟩⟩⟩⟩⟩⟩⟩⟩⟩ := h0
 have hm7 := hm0.know (slR A1 c1 T_api_Pair.rep x0.Attrs) (fun _ h => h) (hm0.in0 hc0 ⟨p1, q1, s1⟩)
 replace hc0 := hc0.snoc (r := slR A1 c1 T_api_Pair.rep x0.Attrs) (fun _ h => h)
 have hm8 := hm7.know (slR A3 c3 w64R x0.Hist.Pos.Counts) (fun _ h => h) (hm7.in0 hc0 ⟨p3, q3, s3⟩)
 replace hc0 := hc0.snoc (r := slR A3 c3 w64R x0.Hist.Pos.Counts) (fun _ h => h)
 have hm9 := hm8.know (slR A5 c5 w64R x0.Hist.Neg.Counts) (fun _ h => h) (hm8.in0 hc0 ⟨p5, q5, s5⟩)
 replace hc0 := hc0.snoc (r := slR A5 c5 w64R x0.Hist.Neg.Counts) (fun _ h => h)
 refine Rn.enter Tryz.func6 rfl rfl (Nat.le_of_ble_eq_true rfl) ?_
 refine gg 2 rfl (Rn.box rfl rfl rfl rfl rfl ?_)
 intro b10 w10 hb10 m10 e10
 have hm12 := (hm9.addBox hb10 e10 m10).nf [_, _, _, boxR _ _ [_, _, _, _, _, _, _, _, _, _, _, _, _, _, _, _, _]] rfl
 refine gg 5 rfl (Rn.q rfl (V.ldB Tryz.isAgg9 rfl (hm12.get 3 rfl) rfl) (Rn.q rfl (V.lenS Tryz.underlying9 rfl) (gg 2 rfl ?_)))
 obtain ⟨j1, hj1, hM⟩ := jnE hM
 refine Rn.joinR (r := r) (G := Bool) [9, 10, 11, 12, 13, 14] (fun g => [(1, .pointer (some ⟨b10, 0, none⟩)), (11, .bool (g))]) (fun g w' => Hp Z0 No w w' [slR A1 c1 T_api_Pair.rep x0.Attrs, slR A3 c3 w64R x0.Hist.Pos.Counts, slR A5 c5 w64R x0.Hist.Neg.Counts, boxR b10 30 [Str (x0.Name), .slice A1 (x0.Attrs).length c1, .int .i64 (x0.Kind), .int .i64 (x0.Temp), .bool (x0.Mono), .int .i64 (x0.Start), .int .i64 (x0.Time), .int .i64 (x0.Int_), .int .u64 (((x0.Re).toNat : Nat) : Int), .int .u64 (((x0.Im).toNat : Nat) : Int), .int .i64 (x0.Hist.Scale), .int .u64 (((x0.Hist.Zero).toNat : Nat) : Int), .int .i64 (x0.Hist.Pos.Offset), .slice A3 (x0.Hist.Pos.Counts).length c3, .int .i64 (x0.Hist.Neg.Offset), .slice A5 (x0.Hist.Neg.Counts).length c5, .int .i64 (x0.Flags)]]) (fun g => j1 g) ?_ ?_
 ·subst hj1
  clear hM
  rintro y13 w14 hm14 hM
  try dsimp only at hM
  refine gg 1 rfl ?_
  obtain ⟨j2, hj2, hM⟩ := jnE hM
  refine Rn.joinR (r := r) (G := Bool) [14] (fun g => [(16, .bool (g))]) (fun g w' => Hp Z0 No w w' [slR A1 c1 T_api_Pair.rep x0.Attrs, slR A3 c3 w64R x0.Hist.Pos.Counts, slR A5 c5 w64R x0.Hist.Neg.Counts, boxR b10 30 [Str (x0.Name), .slice A1 (x0.Attrs).length c1, .int .i64 (x0.Kind), .int .i64 (x0.Temp), .bool (x0.Mono), .int .i64 (x0.Start), .int .i64 (x0.Time), .int .i64 (x0.Int_), .int .u64 (((x0.Re).toNat : Nat) : Int), .int .u64 (((x0.Im).toNat : Nat) : Int), .int .i64 (x0.Hist.Scale), .int .u64 (((x0.Hist.Zero).toNat : Nat) : Int), .int .i64 (x0.Hist.Pos.Offset), .slice A3 (x0.Hist.Pos.Counts).length c3, .int .i64 (x0.Hist.Neg.Offset), .slice A5 (x0.Hist.Neg.Counts).length c5, .int .i64 (x0.Flags)]]) (fun g => j2 g) ?_ ?_
  ·subst hj2
   clear hM
   rintro y15 w16 hm16 hM
   try dsimp only at hM
   refine gg 2 rfl ?_
   refine Rn.retG1 Tryz.func6 rfl (rvT rfl) ?_
   obtain rfl := someE hM
   exact ⟨rfl, hm16.pick [] rfl (by decide)⟩
  intro hk2
  clear hj2
  refine Rn.part (t := 12) rfl (fun h17 => ?_) (fun h17 => ?_)
  ·replace hM := iteT h17 hM
   refine gg 1 rfl (Rn.q rfl (V.ldBA [_, _, _, _, _, _] Tryz.isAgg28 Tryz.sizeOf28 rfl (hm14.get 3 rfl) rfl rfl) ?_)
   obtain ⟨p18, e18, hM⟩ := bindE hM
   refine Rn.cl ck17 rfl rfl rfl rfl (m_limnographref08_Light_sim (Z0 := All) e18 (show T_api_Hist.rep.rel All _ _ _ from ⟨_, _, rfl, ⟨rfl, trivial⟩, ⟨_, _, rfl, ⟨rfl, trivial⟩, ⟨_, _, rfl, ⟨_, _, rfl, ⟨rfl, trivial⟩, ⟨_, _, rfl, (slR_all (hm14.get 1 rfl)).1, (slR_all (hm14.get 1 rfl)).2.1, (slR_all (hm14.get 1 rfl)).2.2⟩⟩, ⟨_, _, rfl, ⟨rfl, trivial⟩, ⟨_, _, rfl, (slR_all (hm14.get 2 rfl)).1, (slR_all (hm14.get 2 rfl)).2.1, (slR_all (hm14.get 2 rfl)).2.2⟩⟩⟩⟩⟩) :) ?_
   rintro _ w18 ⟨rfl, hq18⟩
   refine ⟨_, rfl, ?_⟩
   have hm19 := hm14.call0 hq18
   refine gg 1 rfl ?_
   exact hk2 p18 _ _ (Sub.cons rfl (Sub.nil _)) (hm19.pick [0, 1, 2, 3] rfl (by decide)) hM
  ·replace hM := iteFB hM h17
   refine gg 4 rfl ?_
   exact hk2 false _ _ (Sub.cons rfl (Sub.nil _)) (hm14.pick [0, 1, 2, 3] rfl (by decide)) hM
 intro hk1
 clear hj1
 refine Rn.partD (t := 7) rfl (fun h20 => ?_) (fun h20 => ?_)
 ·replace hM := iteT h20 hM
  refine gg 1 rfl (Rn.q rfl (V.ldB Tryz.isAgg22 rfl (hm12.get 3 rfl) rfl) ?_)
  obtain ⟨p21, e21, hM⟩ := bindE hM
  refine Rn.cl ck16 rfl rfl rfl rfl (m_limnographref11_Light_sim (Z0 := All) e21 (slR_all (hm12.get 0 rfl)) :) ?_
  rintro _ w21 ⟨rfl, hq21⟩
  refine ⟨_, rfl, ?_⟩
  have hm22 := hm12.call0 hq21
  refine gg 1 rfl ?_
  exact hk1 p21 _ _ (Sub.cons rfl (Sub.cons rfl (Sub.nil _))) (hm22.pick [0, 1, 2, 3] rfl (by decide)) hM
 ·replace hM := iteF h20 hM
  refine gg 4 rfl ?_
  exact hk1 false _ _ (Sub.cons rfl (Sub.cons rfl (Sub.nil _))) (hm12.pick [0, 1, 2, 3] rfl (by decide)) hM

theorem m_slices_Clone_uint64_uint64_sim {Z0 : Nat → Prop} {w : World} {A0 : Option Addr} {c0 : Nat} {x0 : (List UInt64)} {r : (List UInt64)} (hM : m_slices_Clone_uint64_uint64 x0 = some r) (f0 : (slR A0 c0 w64R x0).H Z0 w) :
    Calls Tryz.prog 73 #[.slice A0 (x0).length c0] w fun x w' => ∃ A_0_0 c_0_0, x = .returned (.slice A_0_0 (r).length c_0_0) ∧ Hp Z0 No w w' [ownR 23 A_0_0 c_0_0 w64R r] := by
  exact clone_73 w A0 c0 x0 f0 hM

theorem m_hist_Clone_sim {Z0 : Nat → Prop} {w : World} {x0 : T_api_Hist} {cs0 : List Value} {r : T_api_Hist} (hM : m_hist_Clone x0 = some r) (h0 : T_api_Hist.rep.rel Z0 w cs0 x0) :
    Calls Tryz.prog 42 #[.agg cs0.toArray] w fun x w' => ∃ A_0_0 c_0_0 A_0_1 c_0_1, x = .returned (.agg [.int .i64 (r.Scale), .int .u64 (((r.Zero).toNat : Nat) : Int), .int .i64 (r.Pos.Offset), .slice A_0_0 (r.Pos.Counts).length c_0_0, .int .i64 (r.Neg.Offset), .slice A_0_1 (r.Neg.Counts).length c_0_1].toArray) ∧ Hp Z0 No w w' [ownR 23 A_0_0 c_0_0 w64R r.Pos.Counts, ownR 23 A_0_1 c_0_1 w64R r.Neg.Counts] := by
 have hm0 := Hp.nil Z0 No w
 have hc0 := Calm.nil
 obtain ⟨_, _, rfl, ⟨rfl, _⟩, ⟨_, _, rfl, ⟨rfl, _⟩, ⟨_, _, rfl, ⟨_, _, rfl, ⟨rfl, _⟩, ⟨A1, c1, rfl, p1, q1, s1⟩⟩, ⟨_, _, rfl, ⟨rfl, _⟩, ⟨A3, c3, rfl, p3, q3, s3⟩⟩⟩⟩⟩ := h0
 have hm5 := hm0.know (slR A1 c1 w64R x0.Pos.Counts) (fun _ h => h) (hm0.in0 hc0 ⟨p1, q1, s1⟩)
 replace hc0 := hc0.snoc (r := slR A1 c1 w64R x0.Pos.Counts) (fun _ h => h)
 have hm6 := hm5.know (slR A3 c3 w64R x0.Neg.Counts) (fun _ h => h) (hm5.in0 hc0 ⟨p3, q3, s3⟩)
 replace hc0 := hc0.snoc (r := slR A3 c3 w64R x0.Neg.Counts) (fun _ h => h)
 refine Rn.enter Tryz.func42 rfl rfl (Nat.le_of_ble_eq_true rfl) ?_
 refine gg 2 rfl (Rn.box rfl rfl rfl rfl rfl ?_)
 intro b7 w7 hb7 m7 e7
 have hm9 := (hm6.addBox hb7 e7 m7).nf [_, _, boxR _ _ [_, _, _, _, _, _]] rfl
 refine Rn.alloc rfl rfl rfl Tryz.zeroValue28 rfl ?_
 intro b10 w10 hb10 m10 e10
 have hm12 := (hm9.addBox hb10 e10 m10).nf [_, _, _, boxR _ _ [_, _, _, _, _, _]] rfl
 refine gg 2 rfl ?_
 refine Rn.drawK 10 rfl hm12 (by kernel_rfl) ?_
 intro w13 hm13
 refine dd [0, 1] (by kernel_rfl) rfl rfl ?_
 refine RH.take 2 (by kernel_rfl) rfl rfl rfl rfl (fun w' hDr => V.ldB Tryz.isAgg24 rfl ((hm13.ext hDr).get 2 rfl) rfl) ?_
 refine dd [4, 5] (by kernel_rfl) rfl rfl ?_
 refine RH.take 6 (by kernel_rfl) rfl rfl rfl rfl (fun w' hDr => V.ldB Tryz.isAgg24 rfl ((hm13.ext hDr).get 2 rfl) rfl) ?_
 obtain ⟨p14, e14, hM⟩ := bindE hM
 refine RH.cl ck73 3 (by kernel_rfl) rfl rfl rfl rfl (m_slices_Clone_uint64_uint64_sim (Z0 := All) e14 (slR_all (hm13.get 0 rfl)) :) ?_
 rintro _ w14 ⟨A14_0_0, c14_0_0, rfl, hq14⟩
 refine ⟨_, rfl, ((Ext.refl _).trans hq14.fr), ?_⟩
 have hm16 := hm13.callF (flC (ownR_flat w64_flat _ _ _ _) fl0) hq14
 refine dd [8, 9] (by kernel_rfl) rfl rfl ?_
 obtain ⟨p17, e17, hM⟩ := bindE hM
 refine RH.cl ck73 7 (by kernel_rfl) rfl rfl rfl rfl (m_slices_Clone_uint64_uint64_sim (Z0 := All) e17 (slR_all (hm16.get 1 rfl)) :) ?_
 rintro _ w17 ⟨A17_0_0, c17_0_0, rfl, hq17⟩
 refine ⟨_, rfl, (((Ext.refl _).trans hq14.fr).trans hq17.fr), ?_⟩
 have hm19 := hm16.callF (flC (ownR_flat w64_flat _ _ _ _) fl0) hq17
 refine RG.tailK (by kernel_rfl) ?_
 refine RH.st 10 (by kernel_rfl) rfl rfl Tryz.sizeOf24 rfl rfl rfl rfl (by first | exact ones rfl | (simp [Value.oneCell']; done)) (hm19.get 2 rfl) (by first | exact Nat.le_of_ble_eq_true rfl | (simp; done)) ?_
 intro w20 m20 x20
 have hm21 := (hm19.st 2 rfl x20 m20).nf [_, _, boxR _ _ [_, _, _, _, _, _], _, _, _] rfl
 refine ⟨trivial, ?_⟩
 refine dd [11, 12] (by kernel_rfl) rfl rfl ?_
 refine RH.st 13 (by kernel_rfl) rfl rfl Tryz.sizeOf24 rfl rfl rfl rfl (by first | exact ones rfl | (simp [Value.oneCell']; done)) (hm21.get 2 rfl) (by first | exact Nat.le_of_ble_eq_true rfl | (simp; done)) ?_
 intro w22 m22 x22
 have hm23 := (hm21.st 2 rfl x22 m22).nf [_, _, boxR _ _ [_, _, _, _, _, _], _, _, _] rfl
 refine ⟨trivial, ?_⟩
 refine RH.doneP (by kernel_rfl) ?_
 refine gg 2 rfl (Rn.q rfl (V.ldBA [_, _, _, _, _, _] Tryz.isAgg28 Tryz.sizeOf28 rfl (hm23.get 2 rfl) rfl rfl) (Rn.st rfl rfl Tryz.sizeOf28 rfl rfl rfl rfl (by first | exact ones rfl | (simp [Value.oneCell']; done)) (hm23.get 3 rfl) (by first | exact Nat.le_of_ble_eq_true rfl | (simp; done)) ?_))
 intro w24 m24 x24
 have hm25 := (hm23.st 3 rfl x24 m24).nf [_, _, _, boxR _ _ [_, _, _, _, _, _], _, _] rfl
 refine gg 1 rfl ?_
 refine Rn.retG1 Tryz.func42 rfl (rvC rfl Tryz.isAgg28 Tryz.sizeOf28 (hm25.get 3 rfl) rfl) ?_
 obtain rfl := someE hM
 exact ⟨A14_0_0, c14_0_0, A17_0_0, c17_0_0, rfl, hm25.pick [4, 5] rfl (by decide)⟩

theorem m_point_Clone_sim {Z0 : Nat → Prop} {w : World} {x0 : T_api_Point} {cs0 : List Value} {r : T_api_Point} (hM : m_point_Clone x0 = some r) (h0 : T_api_Point.rep.rel Z0 w cs0 x0) :
    Calls Tryz.prog 10 #[.agg cs0.toArray] w fun x w' => ∃ A_0_0 c_0_0 A_0_1 c_0_1 A_0_2 c_0_2, x = .returned (.agg [Str (r.Name), .slice A_0_0 (r.Attrs).length c_0_0, .int .i64 (r.Kind), .int .i64 (r.Temp), .bool (r.Mono), .int .i64 (r.Start), .int .i64 (r.Time), .int .i64 (r.Int_), .int .u64 (((r.Re).toNat : Nat) : Int), .int .u64 (((r.Im).toNat : Nat) : Int), .int .i64 (r.Hist.Scale), .int .u64 (((r.Hist.Zero).toNat : Nat) : Int), .int .i64 (r.Hist.Pos.Offset), .slice A_0_1 (r.Hist.Pos.Counts).length c_0_1, .int .i64 (r.Hist.Neg.Offset), .slice A_0_2 (r.Hist.Neg.Counts).length c_0_2, .int .i64 (r.Flags)].toArray) ∧ Hp Z0 No w w' [ownR 42 A_0_0 c_0_0 T_api_Pair.rep r.Attrs, ownR 23 A_0_1 c_0_1 w64R r.Hist.Pos.Counts, ownR 23 A_0_2 c_0_2 w64R r.Hist.Neg.Counts] := by
 have hm0 := Hp.nil Z0 No w
 have hc0 := Calm.nil
 obtain ⟨_, _, rfl, ⟨rfl, _⟩, ⟨_, _, rfl, ⟨A1, c1, rfl, p1, q1, s1⟩, ⟨_, _, rfl, ⟨rfl, _⟩, ⟨_, _, rfl, ⟨rfl, _⟩, ⟨_, _, rfl, ⟨rfl, _⟩, ⟨_, _, rfl, ⟨rfl, _⟩, ⟨_, _, rfl, ⟨rfl, _⟩, ⟨_, _, rfl, ⟨rfl, _⟩, ⟨_, _, rfl, ⟨rfl, _⟩, ⟨_, _, rfl, ⟨rfl, _⟩, ⟨_, _, rfl, ⟨_, _, rfl, ⟨rfl, _⟩, ⟨_, _, rfl, ⟨rfl, _⟩, ⟨_, _, rfl, ⟨_, _, rfl, ⟨rfl, _⟩, ⟨A3, c3, rfl, p3, q3, s3⟩⟩, ⟨_, _, rfl, ⟨rfl, _⟩, ⟨A5, c5, rfl, p5, q5, s5⟩⟩⟩⟩⟩, ⟨rfl, _⟩⟩⟩⟩⟩⟩⟩⟩⟩⟩⟩⟩ := h0
 have hm7 := hm0.know (slR A1 c1 T_api_Pair.rep x0.Attrs) (fun _ h => h) (hm0.in0 hc0 ⟨p1, q1, s1⟩)
 replace hc0 := hc0.snoc (r := slR A1 c1 T_api_Pair.rep x0.Attrs) (fun _ h => h)
 have hm8 := hm7.know (slR A3 c3 w64R x0.Hist.Pos.Counts) (fun _ h => h) (hm7.in0 hc0 ⟨p3, q3, s3⟩)
 replace hc0 := hc0.snoc (r := slR A3 c3 w64R x0.Hist.Pos.Counts) (fun _ h => h)
 have hm9 := hm8.know (slR A5 c5 w64R x0.Hist.Neg.Counts) (fun _ h => h) (hm8.in0 hc0 ⟨p5, q5, s5⟩)
 replace hc0 := hc0.snoc (r := slR A5 c5 w64R x0.Hist.Neg.Counts) (fun _ h => h)
 refine Rn.enter Tryz.func10 rfl rfl (Nat.le_of_ble_eq_true rfl) ?_
 refine gg 2 rfl (Rn.box rfl rfl rfl rfl rfl ?_)
 intro b10 w10 hb10 m10 e10
 have hm12 := (hm9.addBox hb10 e10 m10).nf [_, _, _, boxR _ _ [_, _, _, _, _, _, _, _, _, _, _, _, _, _, _, _, _]] rfl
 refine Rn.alloc rfl rfl rfl Tryz.zeroValue30 rfl ?_
 intro b13 w13 hb13 m13 e13
 have hm15 := (hm12.addBox hb13 e13 m13).nf [_, _, _, _, boxR _ _ [_, _, _, _, _, _, _, _, _, _, _, _, _, _, _, _, _]] rfl
 refine gg 4 rfl (Rn.q rfl (V.ldB Tryz.isAgg22 rfl (hm15.get 3 rfl) rfl) ?_)
 obtain ⟨p16, e16, hM⟩ := bindE hM
 refine Rn.cl ck41 rfl rfl rfl rfl (m_slices_Clone_api_Pair_api_Pair_sim (Z0 := All) e16 (slR_all (hm15.get 0 rfl)) :) ?_
 rintro _ w16 ⟨A16_0_0, c16_0_0, rfl, hq16⟩
 refine ⟨_, rfl, ?_⟩
 have hm18 := hm15.callF (flC (ownR_flat T_api_Pair.flat _ _ _ _) fl0) hq16
 refine gg 1 rfl (Rn.st rfl rfl Tryz.sizeOf22 rfl rfl rfl rfl (by first | exact ones rfl | (simp [Value.oneCell']; done)) (hm18.get 3 rfl) (by first | exact Nat.le_of_ble_eq_true rfl | (simp; done)) ?_)
 intro w19 m19 x19
 have hm20 := (hm18.st 3 rfl x19 m19).nf [_, _, _, boxR _ _ [_, _, _, _, _, _, _, _, _, _, _, _, _, _, _, _, _], _, _] rfl
 refine gg 4 rfl (Rn.q rfl (V.ldBA [_, _, _, _, _, _] Tryz.isAgg28 Tryz.sizeOf28 rfl (hm20.get 3 rfl) rfl rfl) ?_)
 obtain ⟨p21, e21, hM⟩ := bindE hM
 refine Rn.cl ck42 rfl rfl rfl rfl (m_hist_Clone_sim (Z0 := All) e21 (show T_api_Hist.rep.rel All _ _ _ from ⟨_, _, rfl, ⟨rfl, trivial⟩, ⟨_, _, rfl, ⟨rfl, trivial⟩, ⟨_, _, rfl, ⟨_, _, rfl, ⟨rfl, trivial⟩, ⟨_, _, rfl, (slR_all (hm20.get 1 rfl)).1, (slR_all (hm20.get 1 rfl)).2.1, (slR_all (hm20.get 1 rfl)).2.2⟩⟩, ⟨_, _, rfl, ⟨rfl, trivial⟩, ⟨_, _, rfl, (slR_all (hm20.get 2 rfl)).1, (slR_all (hm20.get 2 rfl)).2.1, (slR_all (hm20.get 2 rfl)).2.2⟩⟩⟩⟩⟩) :) ?_
 rintro _ w21 ⟨A21_0_0, c21_0_0, A21_0_1, c21_0_1, rfl, hq21⟩
 refine ⟨_, rfl, ?_⟩
 have hm24 := hm20.callF (flC (ownR_flat w64_flat _ _ _ _) (flC (ownR_flat w64_flat _ _ _ _) fl0)) hq21
 refine gg 1 rfl (Rn.st rfl rfl Tryz.sizeOf28 rfl rfl rfl rfl (by first | exact ones rfl | (simp [Value.oneCell']; done)) (hm24.get 3 rfl) (by first | exact Nat.le_of_ble_eq_true rfl | (simp; done)) ?_)
 intro w25 m25 x25
 have hm26 := (hm24.st 3 rfl x25 m25).nf [_, _, _, boxR _ _ [_, _, _, _, _, _, _, _, _, _, _, _, _, _, _, _, _], _, _, _, _] rfl
 refine gg 3 rfl (Rn.q rfl (V.ldBA [_, _, _, _, _, _, _, _, _, _, _, _, _, _, _, _, _] Tryz.isAgg30 Tryz.sizeOf30 rfl (hm26.get 3 rfl) rfl rfl) (Rn.st rfl rfl Tryz.sizeOf30 rfl rfl rfl rfl (by first | exact ones rfl | (simp [Value.oneCell']; done)) (hm26.get 4 rfl) (by first | exact Nat.le_of_ble_eq_true rfl | (simp; done)) ?_))
 intro w27 m27 x27
 have hm28 := (hm26.st 4 rfl x27 m27).nf [_, _, _, _, boxR _ _ [_, _, _, _, _, _, _, _, _, _, _, _, _, _, _, _, _], _, _, _] rfl
 refine gg 1 rfl ?_
 refine Rn.retG1 Tryz.func10 rfl (rvC rfl Tryz.isAgg30 Tryz.sizeOf30 (hm28.get 4 rfl) rfl) ?_
 obtain rfl := someE hM
 exact ⟨A16_0_0, c16_0_0, A21_0_0, c21_0_0, A21_0_1, c21_0_1, rfl, hm28.pick [5, 6, 7] rfl (by decide)⟩

theorem m_limnographref11_Sorted_sim {Z0 : Nat → Prop} {w : World} {A0 : Option Addr} {c0 : Nat} {x0 : (List T_api_Pair)} {r : (List T_api_Pair)} (hM : m_limnographref11_Sorted x0 = some r) (f0 : (slR A0 c0 T_api_Pair.rep x0).H Z0 w) :
    Calls Tryz.prog 15 #[.slice A0 (x0).length c0] w fun x w' => ∃ A_0_0 c_0_0, x = .returned (.slice A_0_0 (r).length c_0_0) ∧ Hp Z0 No w w' [ownR 42 A_0_0 c_0_0 T_api_Pair.rep r] := by
 have hm0 := Hp.nil Z0 No w
 have hc0 := Calm.nil
 have hm2 := hm0.know (slR A0 c0 T_api_Pair.rep x0) (fun _ h => h) (hm0.in0 hc0 f0)
 replace hc0 := hc0.snoc (r := slR A0 c0 T_api_Pair.rep x0) (fun _ h => h)
 refine Rn.enter Tryz.func15 rfl rfl (Nat.le_of_ble_eq_true rfl) ?_
 refine gg 13 rfl ?_
 obtain ⟨j1, hj1, hM⟩ := jnE hM
 refine Rn.joinG (r := r) (G := (List T_api_Pair) × Option Addr × Nat) (fun g => [(3, .slice (g.2.1) ((g.1)).length (g.2.2))]) (fun g w' => Hp Z0 No w w' [ownR 42 (g.2.1) (g.2.2) T_api_Pair.rep (g.1)]) (fun g => j1 g.1) ?_ ?_
 ·subst hj1
  clear hM
  rintro ⟨y3, A4, c4⟩ w6 hm6 hM
  try dsimp only at hM
  refine gg 5 rfl ?_
  refine Rn.retG1 Tryz.func15 rfl (rvT rfl) ?_
  obtain rfl := someE hM
  exact ⟨A4, c4, rfl, hm6.pick [0] rfl (by decide)⟩
 intro hk1
 clear hj1
 refine gg 1 rfl ?_
 have hm11 := hm2.addNil 42 T_api_Pair.rep
 refine Rn.loopF (G := (List T_api_Pair) × Int × Option Addr × Nat) (fun g => [(0, .slice A0 (x0).length c0), (3, .slice (g.2.2.1) ((g.1)).length (g.2.2.2)), (4, .int .i64 ((g.2.1)))]) (fun g w' => Hp Z0 No w w' [slR A0 c0 T_api_Pair.rep x0, ownR 42 (g.2.2.1) (g.2.2.2) T_api_Pair.rep (g.1)]) (fun n g => m_limnographref11_Sorted_L1 x0 j1 n g.1 g.2.1) fuel (([] : List T_api_Pair), 0, none, 0) (Sub.cons rfl (Sub.cons rfl (Sub.cons rfl (Sub.nil _)))) (hm11.pick [0, 1] rfl (by decide)) hM (fun _ => rfl) ?_
 clear hM
 rintro m13 ⟨y7, y10, A8, c8⟩ w13 hm13 hM hn13
 replace hM : m_limnographref11_Sorted_L1 x0 j1 (m13 + 1) y7 y10 = some r := hM
 rw [m_limnographref11_Sorted_L1] at hM
 refine gg 5 rfl (Rn.q rfl (V.lenV Tryz.underlying22 rfl) (gg 2 rfl ?_))
 refine Rn.condD rfl (fun h14 => ?_) (fun h14 => ?_)
 ·replace hM := iteT h14 hM
  refine gg 6 rfl (Rn.q rfl (V.lenV Tryz.underlying22 rfl) (gg 3 rfl ?_))
  obtain ⟨j2, hj2, hM⟩ := jnE hM
  refine Rn.joinG (r := r) (G := Int) (fun g => [(0, .slice A0 (x0).length c0), (3, .slice A8 (y7).length c8), (4, .int .i64 (y10)), (5, .int .i64 (g))]) (fun g w' => Hp Z0 No w w' [slR A0 c0 T_api_Pair.rep x0, ownR 42 A8 c8 T_api_Pair.rep y7]) (fun g => j2 g) ?_ ?_
  ·subst hj2
   clear hM
   rintro y15 w16 hm16 hM
   try dsimp only at hM
   refine gg 9 rfl ?_
   have hm19 := hm16.freeze 1 rfl
   obtain ⟨z17, e17, hM⟩ := bindE hM
   refine Rn.cutH hm19 1 rfl e17 rfl rfl rfl Tryz.underlying22 Tryz.sizeOf42 rfl rfl rfl rfl rfl ?_
   intro A17 c17 hm17
   have hm22 := hm17.addNil 42 T_api_Pair.rep
   obtain ⟨z21, e21, hM⟩ := bindE hM
   refine Rn.appH hm22 3 rfl e21 rfl rfl rfl Tryz.underlying22 el42 rfl rfl rfl rfl (hm22.src 2 rfl) ?_
   intro A21 c21 w21 hm21
   refine gg 7 rfl ?_
   obtain ⟨z25, e25, hM⟩ := bindE hM
   refine Rn.ixH hm21 0 rfl e25 rfl rfl rfl Tryz.underlying22 Tryz.sizeOf42 rfl rfl rfl rfl ?_
   rintro b25 o25 vs25 ⟨_, _, rfl, ⟨rfl, _⟩, ⟨rfl, _⟩⟩ hm25
   refine Rn.q rfl (V.ldA (vs := [_, _]) Tryz.isAgg42 Tryz.sizeOf42 rfl (Rd.pre (hm25.get 4 rfl).2 2) rfl) ?_
   obtain ⟨z27, e27, hM⟩ := bindE hM
   refine Rn.pushH (z := z25) (vs := [Str (z25.Key), Str (z25.Val)]) hm25 3 rfl e27 rfl rfl rfl rfl Tryz.underlying22 el42 rfl rfl rfl rfl (fun _ => rfl) (⟨_, _, rfl, ⟨rfl, trivial⟩, ⟨rfl, trivial⟩⟩) ?_
   intro A27 c27 w27 u27 hm27
   refine gg 6 rfl ?_
   obtain ⟨z29, e29, hM⟩ := bindE hM
   refine Rn.cutH hm27 1 rfl e29 rfl rfl rfl Tryz.underlying22 Tryz.sizeOf42 rfl rfl rfl rfl rfl ?_
   intro A29 c29 hm29
   obtain ⟨z31, e31, hM⟩ := bindE hM
   refine Rn.appH hm29 3 rfl e31 rfl rfl rfl Tryz.underlying22 el42 rfl rfl rfl rfl (hm29.src 5 rfl) ?_
   intro A31 c31 w31 hm31
   refine gg 8 rfl ?_
   exact hn13 (z31, (W64 (y10 + 1)), A31, c31) _ _ (Sub.cons rfl (Sub.cons rfl (Sub.cons rfl (Sub.nil _)))) (hm31.pick [0, 3] rfl (by decide)) hM
  intro hk2
  clear hj2
  refine gg 1 rfl ?_
  refine Rn.loopF (G := Int) (fun g => [(0, .slice A0 (x0).length c0), (3, .slice A8 (y7).length c8), (4, .int .i64 (y10)), (5, .int .i64 (g))]) (fun g w' => Hp Z0 No w w' [slR A0 c0 T_api_Pair.rep x0, ownR 42 A8 c8 T_api_Pair.rep y7]) (fun n g => m_limnographref11_Sorted_L2 x0 y7 y10 j2 n g) fuel (y7.length : Int) (Sub.cons rfl (Sub.cons rfl (Sub.cons rfl (Sub.cons rfl (Sub.nil _))))) (hm13.pick [0, 1] rfl (by decide)) hM (fun _ => rfl) ?_
  clear hM
  rintro m34 y33 w34 hm34 hM hn34
  replace hM : m_limnographref11_Sorted_L2 x0 y7 y10 j2 (m34 + 1) y33 = some r := hM
  rw [m_limnographref11_Sorted_L2] at hM
  refine gg 2 rfl ?_
  obtain ⟨j3, hj3, hM⟩ := jnE hM
  refine Rn.joinG (r := r) (G := Bool) (fun g => [(0, .slice A0 (x0).length c0), (3, .slice A8 (y7).length c8), (4, .int .i64 (y10)), (5, .int .i64 (y33)), (30, .bool (g))]) (fun g w' => Hp Z0 No w w' [slR A0 c0 T_api_Pair.rep x0, ownR 42 A8 c8 T_api_Pair.rep y7]) (fun g => j3 g) ?_ ?_
  ·subst hj3
   clear hM
   rintro y35 w36 hm36 hM
   try dsimp only at hM
   refine Rn.condS rfl (fun h37 => ?_) (fun h37 => ?_)
   ·replace hM := iteT h37 hM
    refine gg 8 rfl ?_
    exact hn34 (W64 (y33 - 1)) _ _ (Sub.cons rfl (Sub.cons rfl (Sub.cons rfl (Sub.cons rfl (Sub.nil _))))) (hm36.pick [0, 1] rfl (by decide)) hM
   ·replace hM := iteFB hM h37
    refine gg 1 rfl ?_
    exact hk2 y33 _ _ (Sub.cons rfl (Sub.cons rfl (Sub.cons rfl (Sub.cons rfl (Sub.nil _))))) (hm36.pick [0, 1] rfl (by decide)) hM
  intro hk3
  clear hj3
  refine Rn.drawP rfl hm34 ?_
  intro w38 hm38
  refine dd [0, 1, 2] (by kernel_rfl) rfl rfl ?_
  refine RH.partD (t := 17) rfl (fun h39 => ?_) (fun h39 => ?_)
  ·replace hM := iteT h39 hM
   refine dd [3, 4, 5] (by kernel_rfl) rfl rfl ?_
   obtain ⟨z40, e40, hM⟩ := bindE hM
   obtain ⟨kk40, ke40, kz40, kl40⟩ := idxE e40
   obtain ⟨g40, vs40, hA40, hR40, hrel40⟩ := hm38.ownAt 1 rfl kz40
   subst hA40
   obtain ⟨_, _, rfl, ⟨rfl, _⟩, ⟨rfl, _⟩⟩ := hrel40
   refine RH.takeP 6 (by kernel_rfl) rfl rfl rfl rfl (V.ixE kk40 Tryz.underlying22 Tryz.sizeOf42 rfl rfl ke40 kl40) ?_
   refine dd [7] (by kernel_rfl) rfl rfl ?_
   refine RH.takeP 8 (by kernel_rfl) rfl rfl rfl rfl (V.ldR0 Tryz.isAgg9 rfl hR40 rfl) ?_
   refine dd [9, 10] (by kernel_rfl) rfl rfl ?_
   obtain ⟨z41, e41, hM⟩ := bindE hM
   obtain ⟨kk41, ke41, kz41, kl41⟩ := idxE e41
   obtain ⟨b41, o41, vs41, hA41, hD41, hR41, hrel41⟩ := Hp.at hm38 0 rfl kz41
   obtain ⟨_, _, rfl, ⟨rfl, _⟩, ⟨rfl, _⟩⟩ := hrel41
   have hm43 := Hp.knowL [rdR b41 (o41 + kk41 * 2) [Str (z41.Key), Str (z41.Val)]] _ hm38 (knC (fun _ h => h) ⟨fun _ => hD41, hR41⟩ kn0)
   refine RH.takeP 11 (by kernel_rfl) rfl rfl rfl rfl (V.ixA' hA41 kk41 Tryz.underlying22 Tryz.sizeOf42 rfl rfl ke41 kl41) ?_
   refine dd [12] (by kernel_rfl) rfl rfl ?_
   refine RH.takeP 13 (by kernel_rfl) rfl rfl rfl rfl (V.ldR0 Tryz.isAgg9 rfl (hm43.get 2 rfl).2 rfl) ?_
   refine RH.takeP 14 (by kernel_rfl) rfl rfl rfl rfl (V.gtrS rfl rfl) ?_
   refine dd [15] (by kernel_rfl) rfl rfl ?_
   refine RH.doneP (by kernel_rfl) ?_
   exact hk3 (Op.bytesLess z41.Key z40.Key) _ _ (Sub.cons rfl (Sub.cons rfl (Sub.cons rfl (Sub.cons rfl (Sub.cons rfl (Sub.nil _)))))) (hm43.pick [0, 1] rfl (by decide)) hM
  ·replace hM := iteF h39 hM
   refine dd [3, 4, 5, 6, 7, 8, 9, 10, 11, 12, 13, 14, 15] (by kernel_rfl) rfl rfl ?_
   refine RH.doneP (by kernel_rfl) ?_
   exact hk3 false _ _ (Sub.cons rfl (Sub.cons rfl (Sub.cons rfl (Sub.cons rfl (Sub.cons rfl (Sub.nil _)))))) (hm38.pick [0, 1] rfl (by decide)) hM
 ·replace hM := iteF h14 hM
  refine gg 1 rfl ?_
  exact hk1 (y7, A8, c8) _ _ (Sub.cons rfl (Sub.nil _)) (hm13.pick [1] rfl (by decide)) hM

theorem m_limnographref11_Same_sim {Z0 : Nat → Prop} {w : World} {A0 : Option Addr} {c0 : Nat} {x0 : (List T_api_Pair)} {A1 : Option Addr} {c1 : Nat} {x1 : (List T_api_Pair)} {r : Bool} (hM : m_limnographref11_Same x0 x1 = some r) (f0 : (slR A0 c0 T_api_Pair.rep x0).H Z0 w) (f1 : (slR A1 c1 T_api_Pair.rep x1).H Z0 w) :
    Calls Tryz.prog 14 #[.slice A0 (x0).length c0, .slice A1 (x1).length c1] w fun x w' => x = .returned (.bool (r)) ∧ Hp Z0 No w w' [] := by
 have hm0 := Hp.nil Z0 No w
 have hc0 := Calm.nil
 have hm3 := hm0.know (slR A0 c0 T_api_Pair.rep x0) (fun _ h => h) (hm0.in0 hc0 f0)
 replace hc0 := hc0.snoc (r := slR A0 c0 T_api_Pair.rep x0) (fun _ h => h)
 have hm4 := hm3.know (slR A1 c1 T_api_Pair.rep x1) (fun _ h => h) (hm3.in0 hc0 f1)
 replace hc0 := hc0.snoc (r := slR A1 c1 T_api_Pair.rep x1) (fun _ h => h)
 refine Rn.enter Tryz.func14 rfl rfl (Nat.le_of_ble_eq_true rfl) ?_
 refine gg 8 rfl (Rn.q rfl (V.lenV Tryz.underlying22 rfl) (gg 1 rfl (Rn.q rfl (V.lenV Tryz.underlying22 rfl) (gg 2 rfl ?_))))
 refine Rn.condD rfl (fun h5 => ?_) (fun h5 => ?_)
 ·replace hM := iteT h5 hM
  refine gg 4 rfl ?_
  refine Rn.retG1 Tryz.func14 rfl (rvT rfl) ?_
  obtain rfl := someE hM
  exact ⟨rfl, hm4.pick [] rfl (by decide)⟩
 ·replace hM := iteF h5 hM
  refine gg 6 rfl ?_
  obtain ⟨j1, hj1, hM⟩ := jnE hM
  refine Rn.joinG (r := r) (G := Unit) (fun g => []) (fun g w' => Hp Z0 No w w' []) (fun g => j1 ()) ?_ ?_
  ·subst hj1
   clear hM
   rintro _ w6 hm6 hM
   try dsimp only at hM
   refine gg 4 rfl ?_
   refine Rn.retG1 Tryz.func14 rfl (rvT rfl) ?_
   obtain rfl := someE hM
   exact ⟨rfl, hm6.pick [] rfl (by decide)⟩
  intro hk1
  clear hj1
  refine gg 1 rfl ?_
  refine Rn.loopF (G := Int) (fun g => [(0, .slice A0 (x0).length c0), (1, .slice A1 (x1).length c1), (5, .int .i64 (g))]) (fun g w' => Hp Z0 No w w' [slR A0 c0 T_api_Pair.rep x0, slR A1 c1 T_api_Pair.rep x1]) (fun n g => m_limnographref11_Same_L1 x0 x1 j1 n g) fuel 0 (Sub.cons rfl (Sub.cons rfl (Sub.cons rfl (Sub.nil _)))) (hm4.pick [0, 1] rfl (by decide)) hM (fun _ => rfl) ?_
  clear hM
  rintro m8 y7 w8 hm8 hM hn8
  replace hM : m_limnographref11_Same_L1 x0 x1 j1 (m8 + 1) y7 = some r := hM
  rw [m_limnographref11_Same_L1] at hM
  refine gg 5 rfl (Rn.q rfl (V.lenV Tryz.underlying22 rfl) (gg 2 rfl ?_))
  refine Rn.condD rfl (fun h9 => ?_) (fun h9 => ?_)
  ·replace hM := iteT h9 hM
   refine gg 4 rfl ?_
   refine Rn.drawP rfl hm8 ?_
   intro w10 hm10
   refine dd [0, 1] (by kernel_rfl) rfl rfl ?_
   obtain ⟨z11, e11, hM⟩ := bindE hM
   obtain ⟨kk11, ke11, kz11, kl11⟩ := idxE e11
   obtain ⟨b11, o11, vs11, hA11, hD11, hR11, hrel11⟩ := Hp.at hm10 0 rfl kz11
   obtain ⟨_, _, rfl, ⟨rfl, _⟩, ⟨rfl, _⟩⟩ := hrel11
   have hm13 := Hp.knowL [rdR b11 (o11 + kk11 * 2) [Str (z11.Key), Str (z11.Val)]] _ hm10 (knC (fun _ h => h) ⟨fun _ => hD11, hR11⟩ kn0)
   refine RH.takeP 2 (by kernel_rfl) rfl rfl rfl rfl (V.ixA' hA11 kk11 Tryz.underlying22 Tryz.sizeOf42 rfl rfl ke11 kl11) ?_
   refine RH.takeP 3 (by kernel_rfl) rfl rfl rfl rfl (V.ldA (vs := [_, _]) Tryz.isAgg42 Tryz.sizeOf42 rfl (Rd.pre (hm13.get 2 rfl).2 2) rfl) ?_
   refine dd [4, 5] (by kernel_rfl) rfl rfl ?_
   obtain ⟨z14, e14, hM⟩ := bindE hM
   obtain ⟨kk14, ke14, kz14, kl14⟩ := idxE e14
   obtain ⟨b14, o14, vs14, hA14, hD14, hR14, hrel14⟩ := Hp.at hm13 1 rfl kz14
   obtain ⟨_, _, rfl, ⟨rfl, _⟩, ⟨rfl, _⟩⟩ := hrel14
   have hm16 := Hp.knowL [rdR b14 (o14 + kk14 * 2) [Str (z14.Key), Str (z14.Val)]] _ hm13 (knC (fun _ h => h) ⟨fun _ => hD14, hR14⟩ kn0)
   refine RH.takeP 6 (by kernel_rfl) rfl rfl rfl rfl (V.ixA' hA14 kk14 Tryz.underlying22 Tryz.sizeOf42 rfl rfl ke14 kl14) ?_
   refine RH.takeP 7 (by kernel_rfl) rfl rfl rfl rfl (V.ldA (vs := [_, _]) Tryz.isAgg42 Tryz.sizeOf42 rfl (Rd.pre (hm16.get 3 rfl).2 2) rfl) ?_
   refine RH.takeP 8 (by kernel_rfl) rfl rfl rfl rfl (V.neqT Tryz.eqGuardType42 rfl rfl (eq42 _ _)) ?_
   refine RH.doneP (by kernel_rfl) ?_
   refine Rn.condD rfl (fun h17 => ?_) (fun h17 => ?_)
   ·replace hM := iteT h17 hM
    refine gg 4 rfl ?_
    refine Rn.retG1 Tryz.func14 rfl (rvT rfl) ?_
    obtain rfl := someE hM
    exact ⟨rfl, hm16.pick [] rfl (by decide)⟩
   ·replace hM := iteF h17 hM
    refine gg 7 rfl ?_
    exact hn8 (W64 (y7 + 1)) _ _ (Sub.cons rfl (Sub.cons rfl (Sub.cons rfl (Sub.nil _)))) (hm16.pick [0, 1] rfl (by decide)) hM
  ·replace hM := iteF h9 hM
   refine gg 1 rfl ?_
   exact hk1 () _ _ (Sub.nil _) (hm8.pick [] rfl (by decide)) hM

theorem m_limnographref08_SameSide_sim {Z0 : Nat → Prop} {w : World} {x0 : T_api_Side} {cs0 : List Value} {x1 : T_api_Side} {cs1 : List Value} {r : Bool} (hM : m_limnographref08_SameSide x0 x1 = some r) (h0 : T_api_Side.rep.rel Z0 w cs0 x0) (h1 : T_api_Side.rep.rel Z0 w cs1 x1) :
    Calls Tryz.prog 74 #[.agg cs0.toArray, .agg cs1.toArray] w fun x w' => x = .returned (.bool (r)) ∧ Hp Z0 No w w' [] := by
 have hm0 := Hp.nil Z0 No w
 have hc0 := Calm.nil
 obtain ⟨_, _, rfl, ⟨rfl, _⟩, ⟨A1, c1, rfl, p1, q1, s1⟩⟩ := h0
 have hm5 := hm0.know (slR A1 c1 w64R x0.Counts) (fun _ h => h) (hm0.in0 hc0 ⟨p1, q1, s1⟩)
 replace hc0 := hc0.snoc (r := slR A1 c1 w64R x0.Counts) (fun _ h => h)
 obtain ⟨_, _, rfl, ⟨rfl, _⟩, ⟨A3, c3, rfl, p3, q3, s3⟩⟩ := h1
 have hm6 := hm5.know (slR A3 c3 w64R x1.Counts) (fun _ h => h) (hm5.in0 hc0 ⟨p3, q3, s3⟩)
 replace hc0 := hc0.snoc (r := slR A3 c3 w64R x1.Counts) (fun _ h => h)
 refine Rn.enter Tryz.func74 rfl rfl (Nat.le_of_ble_eq_true rfl) ?_
 refine gg 2 rfl (Rn.box rfl rfl rfl rfl rfl ?_)
 intro b7 w7 hb7 m7 e7
 have hm9 := (hm6.addBox hb7 e7 m7).nf [_, _, boxR _ _ [_, _]] rfl
 refine Rn.box rfl rfl rfl rfl rfl ?_
 intro b10 w10 hb10 m10 e10
 have hm12 := (hm9.addBox hb10 e10 m10).nf [_, _, _, boxR _ _ [_, _]] rfl
 refine gg 6 rfl (Rn.q rfl (V.ldB Tryz.isAgg3 rfl (hm12.get 2 rfl) rfl) (gg 1 rfl (Rn.q rfl (V.ldB Tryz.isAgg3 rfl (hm12.get 3 rfl) rfl) (gg 2 rfl ?_))))
 refine Rn.cutR [] [(2, .pointer (some ⟨b7, 0, none⟩)), (3, .pointer (some ⟨b10, 0, none⟩)), (19, .bool (decide ((x0.Offset ≠ x1.Offset) ∨ ((x0.Counts.length : Int) ≠ (x1.Counts.length : Int)))))] (fun hk13 => ?_) ?_
 ·refine Rn.partD (t := 11) rfl (fun h14 => ?_) (fun h14 => ?_)
  ·refine gg 8 rfl ?_
   refine hk13 _ ?_
   exact Sub.cons rfl (Sub.cons rfl (Sub.cons (lkv _ rfl (by first | exact andT h14 | exact andF h14 | exact orT h14 | exact orF h14 | exact nandF h14 | exact nandT h14 | exact norT h14 | exact norF h14 | (simp [h14]; done) | grind)) (Sub.nil _)))
  ·refine gg 1 rfl (Rn.q rfl (V.ldB Tryz.isAgg24 rfl (hm12.get 2 rfl) rfl) (Rn.q rfl (V.lenV Tryz.underlying24 rfl) (gg 1 rfl (Rn.q rfl (V.ldB Tryz.isAgg24 rfl (hm12.get 3 rfl) rfl) (Rn.q rfl (V.lenV Tryz.underlying24 rfl) (gg 2 rfl ?_))))))
   refine hk13 _ ?_
   exact Sub.cons rfl (Sub.cons rfl (Sub.cons (lkv _ rfl (by first | exact andT h14 | exact andF h14 | exact orT h14 | exact orF h14 | exact nandF h14 | exact nandT h14 | exact norT h14 | exact norF h14 | (simp [h14]; done) | grind)) (Sub.nil _)))
 refine gg 1 rfl ?_
 refine Rn.condD rfl (fun h15 => ?_) (fun h15 => ?_)
 ·replace hM := iteT h15 hM
  refine gg 4 rfl ?_
  refine Rn.retG1 Tryz.func74 rfl (rvT rfl) ?_
  obtain rfl := someE hM
  exact ⟨rfl, hm12.pick [] rfl (by decide)⟩
 ·replace hM := iteF h15 hM
  refine gg 6 rfl ?_
  obtain ⟨j1, hj1, hM⟩ := jnE hM
  refine Rn.joinG (r := r) (G := Unit) (fun g => []) (fun g w' => Hp Z0 No w w' [slR A1 c1 w64R x0.Counts, slR A3 c3 w64R x1.Counts, boxR b7 26 [.int .i64 (x0.Offset), .slice A1 (x0.Counts).length c1], boxR b10 26 [.int .i64 (x1.Offset), .slice A3 (x1.Counts).length c3]]) (fun g => j1 ()) ?_ ?_
  ·subst hj1
   clear hM
   rintro _ w16 hm16 hM
   try dsimp only at hM
   refine gg 4 rfl ?_
   refine Rn.retG1 Tryz.func74 rfl (rvT rfl) ?_
   obtain rfl := someE hM
   exact ⟨rfl, hm16.pick [] rfl (by decide)⟩
  intro hk1
  clear hj1
  refine gg 1 rfl ?_
  refine Rn.loopF (G := Int) (fun g => [(2, .pointer (some ⟨b7, 0, none⟩)), (3, .pointer (some ⟨b10, 0, none⟩)), (5, .int .i64 (g))]) (fun g w' => Hp Z0 No w w' [slR A1 c1 w64R x0.Counts, slR A3 c3 w64R x1.Counts, boxR b7 26 [.int .i64 (x0.Offset), .slice A1 (x0.Counts).length c1], boxR b10 26 [.int .i64 (x1.Offset), .slice A3 (x1.Counts).length c3]]) (fun n g => m_limnographref08_SameSide_L1 x0 x1 j1 n g) fuel 0 (Sub.cons rfl (Sub.cons rfl (Sub.cons rfl (Sub.nil _)))) (hm12.pick [0, 1, 2, 3] rfl (by decide)) hM (fun _ => rfl) ?_
  clear hM
  rintro m18 y17 w18 hm18 hM hn18
  replace hM : m_limnographref08_SameSide_L1 x0 x1 j1 (m18 + 1) y17 = some r := hM
  rw [m_limnographref08_SameSide_L1] at hM
  refine gg 5 rfl (Rn.q rfl (V.ldB Tryz.isAgg24 rfl (hm18.get 2 rfl) rfl) (Rn.q rfl (V.lenV Tryz.underlying24 rfl) (gg 2 rfl ?_)))
  refine Rn.condD rfl (fun h19 => ?_) (fun h19 => ?_)
  ·replace hM := iteT h19 hM
   refine gg 4 rfl ?_
   refine Rn.drawP rfl hm18 ?_
   intro w20 hm20
   refine dd [0] (by kernel_rfl) rfl rfl ?_
   refine RH.takeP 1 (by kernel_rfl) rfl rfl rfl rfl (V.ldB Tryz.isAgg24 rfl (hm20.get 2 rfl) rfl) ?_
   refine dd [2] (by kernel_rfl) rfl rfl ?_
   obtain ⟨z21, e21, hM⟩ := bindE hM
   obtain ⟨kk21, ke21, kz21, kl21⟩ := idxE e21
   obtain ⟨b21, o21, vs21, hA21, hD21, hR21, hrel21⟩ := Hp.at hm20 0 rfl kz21
   obtain ⟨rfl, _⟩ := hrel21
   have hm23 := Hp.knowL [rdR b21 (o21 + kk21 * 1) [.int .u64 (((z21).toNat : Nat) : Int)]] _ hm20 (knC (fun _ h => h) ⟨fun _ => hD21, hR21⟩ kn0)
   refine RH.takeP 3 (by kernel_rfl) rfl rfl rfl rfl (V.ixA' hA21 kk21 Tryz.underlying24 Tryz.sizeOf23 rfl rfl ke21 kl21) ?_
   refine RH.takeP 4 (by kernel_rfl) rfl rfl rfl rfl (V.ldR0 Tryz.isAgg23 rfl (hm23.get 4 rfl).2 rfl) ?_
   refine dd [5] (by kernel_rfl) rfl rfl ?_
   refine RH.takeP 6 (by kernel_rfl) rfl rfl rfl rfl (V.ldB Tryz.isAgg24 rfl (hm23.get 3 rfl) rfl) ?_
   refine dd [7] (by kernel_rfl) rfl rfl ?_
   obtain ⟨z24, e24, hM⟩ := bindE hM
   obtain ⟨kk24, ke24, kz24, kl24⟩ := idxE e24
   obtain ⟨b24, o24, vs24, hA24, hD24, hR24, hrel24⟩ := Hp.at hm23 1 rfl kz24
   obtain ⟨rfl, _⟩ := hrel24
   have hm26 := Hp.knowL [rdR b24 (o24 + kk24 * 1) [.int .u64 (((z24).toNat : Nat) : Int)]] _ hm23 (knC (fun _ h => h) ⟨fun _ => hD24, hR24⟩ kn0)
   refine RH.takeP 8 (by kernel_rfl) rfl rfl rfl rfl (V.ixA' hA24 kk24 Tryz.underlying24 Tryz.sizeOf23 rfl rfl ke24 kl24) ?_
   refine RH.takeP 9 (by kernel_rfl) rfl rfl rfl rfl (V.ldR0 Tryz.isAgg23 rfl (hm26.get 5 rfl).2 rfl) ?_
   refine RH.takeP 10 (by kernel_rfl) rfl rfl rfl rfl (V.neq rfl rfl) ?_
   refine RH.doneP (by kernel_rfl) ?_
   refine Rn.condD rfl (fun h27 => ?_) (fun h27 => ?_)
   ·replace hM := iteT h27 hM
    refine gg 4 rfl ?_
    refine Rn.retG1 Tryz.func74 rfl (rvT rfl) ?_
    obtain rfl := someE hM
    exact ⟨rfl, hm26.pick [] rfl (by decide)⟩
   ·replace hM := iteF h27 hM
    refine gg 7 rfl ?_
    exact hn18 (W64 (y17 + 1)) _ _ (Sub.cons rfl (Sub.cons rfl (Sub.cons rfl (Sub.nil _)))) (hm26.pick [0, 1, 2, 3] rfl (by decide)) hM
  ·replace hM := iteF h19 hM
   refine gg 1 rfl ?_
   exact hk1 () _ _ (Sub.nil _) (hm18.pick [0, 1, 2, 3] rfl (by decide)) hM

theorem m_limnographref08_Same_sim {Z0 : Nat → Prop} {w : World} {x0 : T_api_Hist} {cs0 : List Value} {x1 : T_api_Hist} {cs1 : List Value} {r : Bool} (hM : m_limnographref08_Same x0 x1 = some r) (h0 : T_api_Hist.rep.rel Z0 w cs0 x0) (h1 : T_api_Hist.rep.rel Z0 w cs1 x1) :
    Calls Tryz.prog 43 #[.agg cs0.toArray, .agg cs1.toArray] w fun x w' => x = .returned (.bool (r)) ∧ Hp Z0 No w w' [] := by
 have hm0 := Hp.nil Z0 No w
 have hc0 := Calm.nil
 obtain ⟨_, _, rfl, ⟨rfl, _⟩, ⟨_, _, rfl, ⟨rfl, _⟩, ⟨_, _, rfl, ⟨_, _, rfl, ⟨rfl, _⟩, ⟨A1, c1, rfl, p1, q1, s1⟩⟩, ⟨_, _, rfl, ⟨rfl, _⟩, ⟨A3, c3, rfl, p3, q3, s3⟩⟩⟩⟩⟩ := h0
 have hm9 := hm0.know (slR A1 c1 w64R x0.Pos.Counts) (fun _ h => h) (hm0.in0 hc0 ⟨p1, q1, s1⟩)
 replace hc0 := hc0.snoc (r := slR A1 c1 w64R x0.Pos.Counts) (fun _ h => h)
 have hm10 := hm9.know (slR A3 c3 w64R x0.Neg.Counts) (fun _ h => h) (hm9.in0 hc0 ⟨p3, q3, s3⟩)
 replace hc0 := hc0.snoc (r := slR A3 c3 w64R x0.Neg.Counts) (fun _ h => h)
 obtain ⟨_, _, rfl, ⟨rfl, _⟩, ⟨_, _, rfl, ⟨rfl, _⟩, ⟨_, _, rfl, ⟨_, _, rfl, ⟨rfl, _⟩, ⟨A5, c5, rfl, p5, q5, s5⟩⟩, ⟨_, _, rfl, ⟨rfl, _⟩, ⟨A7, c7, rfl, p7, q7, s7⟩⟩⟩⟩⟩ := h1
 have hm11 := hm10.know (slR A5 c5 w64R x1.Pos.Counts) (fun _ h => h) (hm10.in0 hc0 ⟨p5, q5, s5⟩)
 replace hc0 := hc0.snoc (r := slR A5 c5 w64R x1.Pos.Counts) (fun _ h => h)
 have hm12 := hm11.know (slR A7 c7 w64R x1.Neg.Counts) (fun _ h => h) (hm11.in0 hc0 ⟨p7, q7, s7⟩)
 replace hc0 := hc0.snoc (r := slR A7 c7 w64R x1.Neg.Counts) (fun _ h => h)
 refine Rn.enter Tryz.func43 rfl rfl (Nat.le_of_ble_eq_true rfl) ?_
 refine gg 2 rfl (Rn.box rfl rfl rfl rfl rfl ?_)
 intro b13 w13 hb13 m13 e13
 have hm15 := (hm12.addBox hb13 e13 m13).nf [_, _, _, _, boxR _ _ [_, _, _, _, _, _]] rfl
 refine Rn.box rfl rfl rfl rfl rfl ?_
 intro b16 w16 hb16 m16 e16
 have hm18 := (hm15.addBox hb16 e16 m16).nf [_, _, _, _, _, boxR _ _ [_, _, _, _, _, _]] rfl
 refine gg 5 rfl (Rn.q rfl (V.ldB Tryz.isAgg3 rfl (hm18.get 4 rfl) rfl) (gg 1 rfl (Rn.q rfl (V.ldB Tryz.isAgg3 rfl (hm18.get 5 rfl) rfl) (gg 2 rfl ?_))))
 refine Rn.cutR [12, 13, 14, 15, 16, 17, 18, 19, 20, 21, 22, 23, 24, 25, 26] [(2, .pointer (some ⟨b13, 0, none⟩)), (3, .pointer (some ⟨b16, 0, none⟩)), (16, .bool (decide ((x0.Scale = x1.Scale) ∧ (((x0.Zero).toNat : Int) = ((x1.Zero).toNat : Int)))))] (fun hk19 => ?_) ?_
 ·refine Rn.partD (t := 10) rfl (fun h20 => ?_) (fun h20 => ?_)
  ·refine gg 1 rfl (Rn.q rfl (V.ldB Tryz.isAgg23 rfl (hm18.get 4 rfl) rfl) (gg 1 rfl (Rn.q rfl (V.ldB Tryz.isAgg23 rfl (hm18.get 5 rfl) rfl) (Rn.q rfl (V.eql rfl rfl) (gg 1 rfl ?_)))))
   refine hk19 _ ?_
   exact Sub.cons rfl (Sub.cons rfl (Sub.cons (lkv _ rfl (by first | exact andT h20 | exact andF h20 | exact orT h20 | exact orF h20 | exact nandF h20 | exact nandT h20 | exact norT h20 | exact norF h20 | (simp [h20]; done) | grind)) (Sub.nil _)))
  ·refine gg 6 rfl ?_
   refine hk19 _ ?_
   exact Sub.cons rfl (Sub.cons rfl (Sub.cons (lkv _ rfl (by first | exact andT h20 | exact andF h20 | exact orT h20 | exact orF h20 | exact nandF h20 | exact nandT h20 | exact norT h20 | exact norF h20 | (simp [h20]; done) | grind)) (Sub.nil _)))
 refine gg 1 rfl ?_
 obtain ⟨j1, hj1, hM⟩ := jnE hM
 refine Rn.joinR (r := r) (G := Bool) [19, 20, 21, 22, 23, 24, 25, 26] (fun g => [(2, .pointer (some ⟨b13, 0, none⟩)), (3, .pointer (some ⟨b16, 0, none⟩)), (23, .bool (g))]) (fun g w' => Hp Z0 No w w' [slR A1 c1 w64R x0.Pos.Counts, slR A3 c3 w64R x0.Neg.Counts, slR A5 c5 w64R x1.Pos.Counts, slR A7 c7 w64R x1.Neg.Counts, boxR b13 28 [.int .i64 (x0.Scale), .int .u64 (((x0.Zero).toNat : Nat) : Int), .int .i64 (x0.Pos.Offset), .slice A1 (x0.Pos.Counts).length c1, .int .i64 (x0.Neg.Offset), .slice A3 (x0.Neg.Counts).length c3], boxR b16 28 [.int .i64 (x1.Scale), .int .u64 (((x1.Zero).toNat : Nat) : Int), .int .i64 (x1.Pos.Offset), .slice A5 (x1.Pos.Counts).length c5, .int .i64 (x1.Neg.Offset), .slice A7 (x1.Neg.Counts).length c7]]) (fun g => j1 g) ?_ ?_
 ·subst hj1
  clear hM
  rintro y21 w22 hm22 hM
  try dsimp only at hM
  refine gg 1 rfl ?_
  obtain ⟨j2, hj2, hM⟩ := jnE hM
  refine Rn.joinR (r := r) (G := Bool) [26] (fun g => [(30, .bool (g))]) (fun g w' => Hp Z0 No w w' [slR A1 c1 w64R x0.Pos.Counts, slR A3 c3 w64R x0.Neg.Counts, slR A5 c5 w64R x1.Pos.Counts, slR A7 c7 w64R x1.Neg.Counts, boxR b13 28 [.int .i64 (x0.Scale), .int .u64 (((x0.Zero).toNat : Nat) : Int), .int .i64 (x0.Pos.Offset), .slice A1 (x0.Pos.Counts).length c1, .int .i64 (x0.Neg.Offset), .slice A3 (x0.Neg.Counts).length c3], boxR b16 28 [.int .i64 (x1.Scale), .int .u64 (((x1.Zero).toNat : Nat) : Int), .int .i64 (x1.Pos.Offset), .slice A5 (x1.Pos.Counts).length c5, .int .i64 (x1.Neg.Offset), .slice A7 (x1.Neg.Counts).length c7]]) (fun g => j2 g) ?_ ?_
  ·subst hj2
   clear hM
   rintro y23 w24 hm24 hM
   try dsimp only at hM
   refine gg 2 rfl ?_
   refine Rn.retG1 Tryz.func43 rfl (rvT rfl) ?_
   obtain rfl := someE hM
   exact ⟨rfl, hm24.pick [] rfl (by decide)⟩
  intro hk2
  clear hj2
  refine Rn.part (t := 24) rfl (fun h25 => ?_) (fun h25 => ?_)
  ·replace hM := iteT h25 hM
   refine gg 1 rfl (Rn.q rfl (V.ldBA [_, _] Tryz.isAgg26 Tryz.sizeOf26 rfl (hm22.get 4 rfl) rfl rfl) (gg 1 rfl (Rn.q rfl (V.ldBA [_, _] Tryz.isAgg26 Tryz.sizeOf26 rfl (hm22.get 5 rfl) rfl rfl) ?_)))
   obtain ⟨p26, e26, hM⟩ := bindE hM
   refine Rn.cl ck74 rfl rfl rfl rfl (m_limnographref08_SameSide_sim (Z0 := All) e26 (show T_api_Side.rep.rel All _ _ _ from ⟨_, _, rfl, ⟨rfl, trivial⟩, ⟨_, _, rfl, (slR_all (hm22.get 1 rfl)).1, (slR_all (hm22.get 1 rfl)).2.1, (slR_all (hm22.get 1 rfl)).2.2⟩⟩) (show T_api_Side.rep.rel All _ _ _ from ⟨_, _, rfl, ⟨rfl, trivial⟩, ⟨_, _, rfl, (slR_all (hm22.get 3 rfl)).1, (slR_all (hm22.get 3 rfl)).2.1, (slR_all (hm22.get 3 rfl)).2.2⟩⟩) :) ?_
   rintro _ w26 ⟨rfl, hq26⟩
   refine ⟨_, rfl, ?_⟩
   have hm27 := hm22.call0 hq26
   refine gg 1 rfl ?_
   exact hk2 p26 _ _ (Sub.cons rfl (Sub.nil _)) (hm27.pick [0, 1, 2, 3, 4, 5] rfl (by decide)) hM
  ·replace hM := iteFB hM h25
   refine gg 6 rfl ?_
   exact hk2 false _ _ (Sub.cons rfl (Sub.nil _)) (hm22.pick [0, 1, 2, 3, 4, 5] rfl (by decide)) hM
 intro hk1
 clear hj1
 refine Rn.partD (t := 17) rfl (fun h28 => ?_) (fun h28 => ?_)
 ·replace hM := iteT h28 hM
  refine gg 1 rfl (Rn.q rfl (V.ldBA [_, _] Tryz.isAgg26 Tryz.sizeOf26 rfl (hm18.get 4 rfl) rfl rfl) (gg 1 rfl (Rn.q rfl (V.ldBA [_, _] Tryz.isAgg26 Tryz.sizeOf26 rfl (hm18.get 5 rfl) rfl rfl) ?_)))
  obtain ⟨p29, e29, hM⟩ := bindE hM
  refine Rn.cl ck74 rfl rfl rfl rfl (m_limnographref08_SameSide_sim (Z0 := All) e29 (show T_api_Side.rep.rel All _ _ _ from ⟨_, _, rfl, ⟨rfl, trivial⟩, ⟨_, _, rfl, (slR_all (hm18.get 0 rfl)).1, (slR_all (hm18.get 0 rfl)).2.1, (slR_all (hm18.get 0 rfl)).2.2⟩⟩) (show T_api_Side.rep.rel All _ _ _ from ⟨_, _, rfl, ⟨rfl, trivial⟩, ⟨_, _, rfl, (slR_all (hm18.get 2 rfl)).1, (slR_all (hm18.get 2 rfl)).2.1, (slR_all (hm18.get 2 rfl)).2.2⟩⟩) :) ?_
  rintro _ w29 ⟨rfl, hq29⟩
  refine ⟨_, rfl, ?_⟩
  have hm30 := hm18.call0 hq29
  refine gg 1 rfl ?_
  exact hk1 p29 _ _ (Sub.cons rfl (Sub.cons rfl (Sub.cons rfl (Sub.nil _)))) (hm30.pick [0, 1, 2, 3, 4, 5] rfl (by decide)) hM
 ·replace hM := iteF h28 hM
  refine gg 6 rfl ?_
  exact hk1 false _ _ (Sub.cons rfl (Sub.cons rfl (Sub.cons rfl (Sub.nil _)))) (hm18.pick [0, 1, 2, 3, 4, 5] rfl (by decide)) hM

end Go.Proofs.YtfcpdojcfogkbaaGreat
