/-
  The calls of functions of the program answer as their plain forms say, part 3. Printed by a program.
-/
import Derived.Test.YtfcpdojcfogkbaaGreatRows
import Derived.Test.YtfcpdojcfogkbaaGreatSA2
set_option maxRecDepth 20000
set_option maxHeartbeats 4000000
set_option linter.unusedVariables false
set_option linter.unusedSimpArgs false
namespace Go.Proofs.YtfcpdojcfogkbaaGreat
open Go Go.RowKit Go.Wk
theorem m_slices_stableCmpFunc_api_Pair_s1_sim {Z0 : Nat → Prop} {w : World} {A0 : Option Addr} {c0 : Nat} {x0 : (List T_api_Pair)} {x1 : Int} {r : (List T_api_Pair)} (hM : m_slices_stableCmpFunc_api_Pair_s1 x0 x1 = some r) (hL : Lent Z0 w [ownR 42 A0 c0 T_api_Pair.rep x0]) :
    Calls Tryz.prog 89 #[.slice A0 (x0).length c0, .int .i64 (x1), .func (.func 76) #[] [].toArray] w fun x w' => x = .returned (.tuple #[]) ∧ Hp Z0 (LS [ownR 42 A0 c0 T_api_Pair.rep x0]) w w' [ownR 42 A0 c0 T_api_Pair.rep r] ∧ (r).length = (x0).length := by
 have hm0 := hL.start
 refine Rn.enter Tryz.func89 rfl rfl (Nat.le_of_ble_eq_true rfl) ?_
 refine gg 11 rfl ?_
 obtain ⟨j1, hj1, hM⟩ := jnE hM
 refine Rn.joinG (r := r) (G := (List T_api_Pair) × Int) (fun g => [(0, .slice A0 (x0).length c0), (1, .int .i64 (x1)), (2, .func (.func 76) #[] [].toArray), (6, .int .i64 (20)), (7, .int .i64 ((g.2)))]) (fun g w' => Hp Z0 (LS [ownR 42 A0 c0 T_api_Pair.rep x0]) w w' [ownR 42 A0 c0 T_api_Pair.rep (g.1)] ∧ (g.1).length = (x0).length) (fun g => j1 g.1 g.2) ?_ ?_
 ·subst hj1
  clear hM
  rintro ⟨y2, y3⟩ w4 ⟨hm4, hl2⟩ hM
  replace hl2 : y2.length = (x0).length := hl2
  try dsimp only at hM
  refine gg 6 rfl ?_
  refine Rn.say (t := 0) (.slice A0 (y2).length c0) rfl (by rw [show (x0).length = (y2).length from (hl2).symm.trans (rfl)]) ?_
  refine Rn.say (t := 23) (.slice A0 (y2).length c0) rfl (by rw [show (x0).length = (y2).length from (hl2).symm.trans (rfl)]) ?_
  obtain ⟨p5, e5, hM⟩ := bindE hM
  have hm6 := (hm4.cut [] [0] rfl (by decide)).nf ([] ++ [_]) rfl
  refine Rn.cl ck95 rfl rfl rfl rfl (m_slices_insertionSortCmpFunc_api_Pair_s2_sim e5 hm6.lend :) ?_
  rintro _ w5 ⟨rfl, hq5, hl5_0⟩
  refine ⟨_, rfl, ?_⟩
  have hm8 := hm6.callAZ hq5
  refine gg 1 rfl ?_
  obtain ⟨j2, hj2, hM⟩ := jnE hM
  refine Rn.joinG (r := r) (G := (List T_api_Pair)) (fun g => []) (fun g w' => Hp Z0 (LS [ownR 42 A0 c0 T_api_Pair.rep x0]) w w' [ownR 42 A0 c0 T_api_Pair.rep g] ∧ g.length = (y2).length) (fun g => j2 g) ?_ ?_
  ·subst hj2
   clear hM
   rintro y9 w10 ⟨hm10, hl9⟩ hM
   replace hl9 : y9.length = (y2).length := hl9
   try dsimp only at hM
   refine Rn.end0 Tryz.func89 rfl ?_
   obtain rfl := someE hM
   exact ⟨rfl, hm10.pick [0] rfl (by decide), (hl9.trans ((hl5_0).symm.trans ((hl5_0.trans hl2))))⟩
  intro hk2
  clear hj2
  refine gg 1 rfl ?_
  refine Rn.loopF (G := (List T_api_Pair) × Int) (fun g => [(0, .slice A0 (y2).length c0), (1, .int .i64 (x1)), (2, .func (.func 76) #[] [].toArray), (6, .int .i64 ((g.2)))]) (fun g w' => Hp Z0 (LS [ownR 42 A0 c0 T_api_Pair.rep x0]) w w' [ownR 42 A0 c0 T_api_Pair.rep (g.1)] ∧ (g.1).length = (y2).length) (fun n g => m_slices_stableCmpFunc_api_Pair_s1_L1 x1 j2 n g.1 g.2) fuel (p5, 20) (Sub.cons rfl (Sub.cons rfl (Sub.cons rfl (Sub.cons rfl (Sub.nil _))))) (⟨hm8.pick [0] rfl (by decide), hl5_0⟩) hM (fun _ => rfl) ?_
  clear hM
  rintro m13 ⟨y11, y12⟩ w13 ⟨hm13, hl11⟩ hM hn13
  replace hl11 : y11.length = (y2).length := hl11
  replace hM : m_slices_stableCmpFunc_api_Pair_s1_L1 x1 j2 (m13 + 1) y11 y12 = some r := hM
  rw [m_slices_stableCmpFunc_api_Pair_s1_L1] at hM
  refine gg 7 rfl ?_
  refine Rn.condD rfl (fun h14 => ?_) (fun h14 => ?_)
  ·replace hM := iteT h14 hM
   refine gg 10 rfl ?_
   obtain ⟨j3, hj3, hM⟩ := jnE hM
   refine Rn.joinG (r := r) (G := (List T_api_Pair) × Int) (fun g => [(0, .slice A0 (y2).length c0), (1, .int .i64 (x1)), (2, .func (.func 76) #[] [].toArray), (6, .int .i64 (y12)), (7, .int .i64 ((g.2)))]) (fun g w' => Hp Z0 (LS [ownR 42 A0 c0 T_api_Pair.rep x0]) w w' [ownR 42 A0 c0 T_api_Pair.rep (g.1)] ∧ (g.1).length = (y2).length) (fun g => j3 g.1 g.2) ?_ ?_
   ·subst hj3
    clear hM
    rintro ⟨y15, y16⟩ w17 ⟨hm17, hl15⟩ hM
    replace hl15 : y15.length = (y2).length := hl15
    try dsimp only at hM
    refine gg 14 rfl ?_
    obtain ⟨j4, hj4, hM⟩ := jnE hM
    refine Rn.joinG (r := r) (G := (List T_api_Pair)) (fun g => [(0, .slice A0 (y2).length c0), (1, .int .i64 (x1)), (2, .func (.func 76) #[] [].toArray), (6, .int .i64 (y12))]) (fun g w' => Hp Z0 (LS [ownR 42 A0 c0 T_api_Pair.rep x0]) w w' [ownR 42 A0 c0 T_api_Pair.rep g] ∧ g.length = (y2).length) (fun g => j4 g) ?_ ?_
    ·subst hj4
     clear hM
     rintro y18 w19 ⟨hm19, hl18⟩ hM
     replace hl18 : y18.length = (y2).length := hl18
     try dsimp only at hM
     refine gg 6 rfl ?_
     exact hn13 (y18, (W64 (y12 * 2))) _ _ (Sub.cons rfl (Sub.cons rfl (Sub.cons rfl (Sub.cons rfl (Sub.nil _))))) (⟨hm19.pick [0] rfl (by decide), hl18⟩) hM
    intro hk4
    clear hj4
    refine Rn.condD rfl (fun h20 => ?_) (fun h20 => ?_)
    ·replace hM := iteT h20 hM
     refine gg 6 rfl ?_
     refine Rn.say (t := 0) (.slice A0 (y15).length c0) rfl (by rw [show (y2).length = (y15).length from (hl15).symm.trans (rfl)]) ?_
     refine Rn.say (t := 55) (.slice A0 (y15).length c0) rfl (by rw [show (y2).length = (y15).length from (hl15).symm.trans (rfl)]) ?_
     obtain ⟨p21, e21, hM⟩ := bindE hM
     have hm22 := (hm17.cut [] [0] rfl (by decide)).nf ([] ++ [_]) rfl
     refine Rn.cl ck96 rfl rfl rfl rfl (m_slices_symMergeCmpFunc_api_Pair_s2_sim e21 hm22.lend :) ?_
     rintro _ w21 ⟨rfl, hq21, hl21_0⟩
     refine ⟨_, rfl, ?_⟩
     have hm24 := hm22.callAZ hq21
     refine gg 1 rfl ?_
     refine Rn.say (t := 0) (.slice A0 (y2).length c0) rfl (by rw [show (y15).length = (y2).length from (hl21_0).symm.trans ((hl21_0.trans hl15))]) ?_
     refine Rn.say (t := 55) (.slice A0 (y2).length c0) rfl (by rw [show (y15).length = (y2).length from (hl21_0).symm.trans ((hl21_0.trans hl15))]) ?_
     exact hk4 p21 _ _ (Sub.cons rfl (Sub.cons rfl (Sub.cons rfl (Sub.cons rfl (Sub.nil _))))) (⟨hm24.pick [0] rfl (by decide), (hl21_0.trans hl15)⟩) hM
    ·replace hM := iteF h20 hM
     refine gg 1 rfl ?_
     exact hk4 y15 _ _ (Sub.cons rfl (Sub.cons rfl (Sub.cons rfl (Sub.cons rfl (Sub.nil _))))) (⟨hm17.pick [0] rfl (by decide), hl15⟩) hM
   intro hk3
   clear hj3
   refine gg 1 rfl ?_
   refine Rn.loopF (G := (List T_api_Pair) × Int × Int) (fun g => [(0, .slice A0 (y2).length c0), (1, .int .i64 (x1)), (2, .func (.func 76) #[] [].toArray), (6, .int .i64 (y12)), (7, .int .i64 ((g.2.1))), (8, .int .i64 ((g.2.2)))]) (fun g w' => Hp Z0 (LS [ownR 42 A0 c0 T_api_Pair.rep x0]) w w' [ownR 42 A0 c0 T_api_Pair.rep (g.1)] ∧ (g.1).length = (y2).length) (fun n g => m_slices_stableCmpFunc_api_Pair_s1_L2 x1 y12 j3 n g.1 g.2.1 g.2.2) fuel (y11, 0, (W64 (2 * y12))) (Sub.cons rfl (Sub.cons rfl (Sub.cons rfl (Sub.cons rfl (Sub.cons rfl (Sub.cons rfl (Sub.nil _))))))) (⟨hm13.pick [0] rfl (by decide), hl11⟩) hM (fun _ => rfl) ?_
   clear hM
   rintro m28 ⟨y25, y26, y27⟩ w28 ⟨hm28, hl25⟩ hM hn28
   replace hl25 : y25.length = (y2).length := hl25
   replace hM : m_slices_stableCmpFunc_api_Pair_s1_L2 x1 y12 j3 (m28 + 1) y25 y26 y27 = some r := hM
   rw [m_slices_stableCmpFunc_api_Pair_s1_L2] at hM
   refine gg 7 rfl ?_
   refine Rn.condD rfl (fun h29 => ?_) (fun h29 => ?_)
   ·replace hM := iteT h29 hM
    refine gg 11 rfl ?_
    refine Rn.say (t := 0) (.slice A0 (y25).length c0) rfl (by rw [show (y2).length = (y25).length from (hl25).symm.trans (rfl)]) ?_
    refine Rn.say (t := 36) (.slice A0 (y25).length c0) rfl (by rw [show (y2).length = (y25).length from (hl25).symm.trans (rfl)]) ?_
    obtain ⟨p30, e30, hM⟩ := bindE hM
    have hm31 := (hm28.cut [] [0] rfl (by decide)).nf ([] ++ [_]) rfl
    refine Rn.cl ck96 rfl rfl rfl rfl (m_slices_symMergeCmpFunc_api_Pair_s2_sim e30 hm31.lend :) ?_
    rintro _ w30 ⟨rfl, hq30, hl30_0⟩
    refine ⟨_, rfl, ?_⟩
    have hm33 := hm31.callAZ hq30
    refine gg 14 rfl ?_
    refine Rn.say (t := 0) (.slice A0 (y2).length c0) rfl (by rw [show (y25).length = (y2).length from (hl30_0).symm.trans ((hl30_0.trans hl25))]) ?_
    refine Rn.say (t := 36) (.slice A0 (y2).length c0) rfl (by rw [show (y25).length = (y2).length from (hl30_0).symm.trans ((hl30_0.trans hl25))]) ?_
    exact hn28 (p30, y27, (W64 (y27 + (W64 (2 * y12))))) _ _ (Sub.cons rfl (Sub.cons rfl (Sub.cons rfl (Sub.cons rfl (Sub.cons rfl (Sub.cons rfl (Sub.nil _))))))) (⟨hm33.pick [0] rfl (by decide), (hl30_0.trans hl25)⟩) hM
   ·replace hM := iteF h29 hM
    refine gg 1 rfl ?_
    exact hk3 (y25, y26) _ _ (Sub.cons rfl (Sub.cons rfl (Sub.cons rfl (Sub.cons rfl (Sub.cons rfl (Sub.nil _)))))) (⟨hm28.pick [0] rfl (by decide), hl25⟩) hM
  ·replace hM := iteF h14 hM
   refine gg 1 rfl ?_
   exact hk2 y11 _ _ (Sub.nil _) (⟨hm13.pick [0] rfl (by decide), hl11⟩) hM
 intro hk1
 clear hj1
 refine gg 1 rfl ?_
 refine Rn.loopF (G := (List T_api_Pair) × Int × Int) (fun g => [(0, .slice A0 (x0).length c0), (1, .int .i64 (x1)), (2, .func (.func 76) #[] [].toArray), (6, .int .i64 (20)), (7, .int .i64 ((g.2.1))), (8, .int .i64 ((g.2.2)))]) (fun g w' => Hp Z0 (LS [ownR 42 A0 c0 T_api_Pair.rep x0]) w w' [ownR 42 A0 c0 T_api_Pair.rep (g.1)] ∧ (g.1).length = (x0).length) (fun n g => m_slices_stableCmpFunc_api_Pair_s1_L3 x1 j1 n g.1 g.2.1 g.2.2) fuel (x0, 0, 20) (Sub.cons rfl (Sub.cons rfl (Sub.cons rfl (Sub.cons rfl (Sub.cons rfl (Sub.cons rfl (Sub.nil _))))))) (⟨hm0.pick [0] rfl (by decide), rfl⟩) hM (fun _ => rfl) ?_
 clear hM
 rintro m37 ⟨y34, y35, y36⟩ w37 ⟨hm37, hl34⟩ hM hn37
 replace hl34 : y34.length = (x0).length := hl34
 replace hM : m_slices_stableCmpFunc_api_Pair_s1_L3 x1 j1 (m37 + 1) y34 y35 y36 = some r := hM
 rw [m_slices_stableCmpFunc_api_Pair_s1_L3] at hM
 refine gg 7 rfl ?_
 refine Rn.condD rfl (fun h38 => ?_) (fun h38 => ?_)
 ·replace hM := iteT h38 hM
  refine gg 8 rfl ?_
  refine Rn.say (t := 0) (.slice A0 (y34).length c0) rfl (by rw [show (x0).length = (y34).length from (hl34).symm.trans (rfl)]) ?_
  refine Rn.say (t := 14) (.slice A0 (y34).length c0) rfl (by rw [show (x0).length = (y34).length from (hl34).symm.trans (rfl)]) ?_
  obtain ⟨p39, e39, hM⟩ := bindE hM
  have hm40 := (hm37.cut [] [0] rfl (by decide)).nf ([] ++ [_]) rfl
  refine Rn.cl ck95 rfl rfl rfl rfl (m_slices_insertionSortCmpFunc_api_Pair_s2_sim e39 hm40.lend :) ?_
  rintro _ w39 ⟨rfl, hq39, hl39_0⟩
  refine ⟨_, rfl, ?_⟩
  have hm42 := hm40.callAZ hq39
  refine gg 13 rfl ?_
  refine Rn.say (t := 0) (.slice A0 (x0).length c0) rfl (by rw [show (y34).length = (x0).length from (hl39_0).symm.trans ((hl39_0.trans hl34))]) ?_
  refine Rn.say (t := 14) (.slice A0 (x0).length c0) rfl (by rw [show (y34).length = (x0).length from (hl39_0).symm.trans ((hl39_0.trans hl34))]) ?_
  exact hn37 (p39, y36, (W64 (y36 + 20))) _ _ (Sub.cons rfl (Sub.cons rfl (Sub.cons rfl (Sub.cons rfl (Sub.cons rfl (Sub.cons rfl (Sub.nil _))))))) (⟨hm42.pick [0] rfl (by decide), (hl39_0.trans hl34)⟩) hM
 ·replace hM := iteF h38 hM
  refine gg 1 rfl ?_
  exact hk1 (y34, y35) _ _ (Sub.cons rfl (Sub.cons rfl (Sub.cons rfl (Sub.cons rfl (Sub.cons rfl (Sub.nil _)))))) (⟨hm37.pick [0] rfl (by decide), hl34⟩) hM

theorem m_slices_SortStableFunc_api_Pair_api_Pair_s1_sim {Z0 : Nat → Prop} {w : World} {A0 : Option Addr} {c0 : Nat} {x0 : (List T_api_Pair)} {r : (List T_api_Pair)} (hM : m_slices_SortStableFunc_api_Pair_api_Pair_s1 x0 = some r) (hL : Lent Z0 w [ownR 42 A0 c0 T_api_Pair.rep x0]) :
    Calls Tryz.prog 75 #[.slice A0 (x0).length c0, .func (.func 76) #[] [].toArray] w fun x w' => x = .returned (.tuple #[]) ∧ Hp Z0 (LS [ownR 42 A0 c0 T_api_Pair.rep x0]) w w' [ownR 42 A0 c0 T_api_Pair.rep r] ∧ (r).length = (x0).length := by
 have hm0 := hL.start
 refine Rn.enter Tryz.func75 rfl rfl (Nat.le_of_ble_eq_true rfl) ?_
 refine gg 3 rfl (Rn.q rfl (V.lenV Tryz.underlying22 rfl) (gg 1 rfl ?_))
 obtain ⟨p2, e2, hM⟩ := bindE hM
 have hm3 := (hm0.cut [] [0] rfl (by decide)).nf ([] ++ [_]) rfl
 refine Rn.cl ck89 rfl rfl rfl rfl (m_slices_stableCmpFunc_api_Pair_s1_sim e2 hm3.lend :) ?_
 rintro _ w2 ⟨rfl, hq2, hl2_0⟩
 refine ⟨_, rfl, ?_⟩
 have hm5 := hm3.callAZ hq2
 refine gg 1 rfl ?_
 refine Rn.end0 Tryz.func75 rfl ?_
 obtain rfl := someE hM
 exact ⟨rfl, hm5.pick [0] rfl (by decide), hl2_0⟩

theorem m_label_Sorted_sim {Z0 : Nat → Prop} {w : World} {A0 : Option Addr} {c0 : Nat} {x0 : (List T_api_Pair)} {r : (List T_api_Pair)} (hM : m_label_Sorted x0 = some r) (f0 : (slR A0 c0 T_api_Pair.rep x0).H Z0 w) :
    Calls Tryz.prog 45 #[.slice A0 (x0).length c0] w fun x w' => ∃ A_0_0 c_0_0, x = .returned (.slice A_0_0 (r).length c_0_0) ∧ Hp Z0 No w w' [ownR 42 A_0_0 c_0_0 T_api_Pair.rep r] := by
 have hm0 := Hp.nil Z0 No w
 have hc0 := Calm.nil
 have hm2 := hm0.know (slR A0 c0 T_api_Pair.rep x0) (fun _ h => h) (hm0.in0 hc0 f0)
 replace hc0 := hc0.snoc (r := slR A0 c0 T_api_Pair.rep x0) (fun _ h => h)
 refine Rn.enter Tryz.func45 rfl rfl (Nat.le_of_ble_eq_true rfl) ?_
 refine gg 7 rfl ?_
 obtain ⟨p3, e3, hM⟩ := bindE hM
 refine Rn.cl ck41 rfl rfl rfl rfl (m_slices_Clone_api_Pair_api_Pair_sim (Z0 := All) e3 (slR_all (hm2.get 0 rfl)) :) ?_
 rintro _ w3 ⟨A3_0_0, c3_0_0, rfl, hq3⟩
 refine ⟨_, rfl, ?_⟩
 have hm5 := hm2.callF (flC (ownR_flat T_api_Pair.flat _ _ _ _) fl0) hq3
 refine gg 5 rfl ?_
 obtain ⟨p6, e6, hM⟩ := bindE hM
 have hm7 := (hm5.cut [0] [1] rfl (by decide)).nf ([_] ++ [_]) rfl
 refine Rn.cl ck75 rfl rfl rfl rfl (m_slices_SortStableFunc_api_Pair_api_Pair_s1_sim e6 hm7.lend :) ?_
 rintro _ w6 ⟨rfl, hq6, hl6_0⟩
 refine ⟨_, rfl, ?_⟩
 have hm9 := hm7.callAZ hq6
 refine gg 6 rfl ?_
 refine Rn.say (t := 2) (.slice A3_0_0 (p6).length c3_0_0) rfl (by rw [show (p3).length = (p6).length from (hl6_0).symm.trans (rfl)]) ?_
 refine Rn.say (t := 5) (.slice A3_0_0 (p6).length c3_0_0) rfl (by rw [show (p3).length = (p6).length from (hl6_0).symm.trans (rfl)]) ?_
 refine Rn.say (t := 3) (.slice A3_0_0 (p6).length c3_0_0) rfl (by rw [show (p3).length = (p6).length from (hl6_0).symm.trans (rfl)]) ?_
 refine Rn.say (t := 6) (.slice A3_0_0 (p6).length c3_0_0) rfl (by rw [show (p3).length = (p6).length from (hl6_0).symm.trans (rfl)]) ?_
 refine Rn.say (t := 8) (.slice A3_0_0 (p6).length c3_0_0) rfl (by rw [show (p3).length = (p6).length from (hl6_0).symm.trans (rfl)]) ?_
 refine Rn.retG1 Tryz.func45 rfl (rvT rfl) ?_
 obtain rfl := someE hM
 exact ⟨A3_0_0, c3_0_0, rfl, hm9.pick [1] rfl (by decide)⟩

theorem m_label_Text_sim {Z0 : Nat → Prop} {w : World} {x0 : (List UInt8)} {A1 : Option Addr} {c1 : Nat} {x1 : (List T_api_Pair)} {r : ((List UInt8) × Int)} (hM : m_label_Text x0 x1 = some r) (f0 : (slR A1 c1 T_api_Pair.rep x1).H Z0 w) :
    Calls Tryz.prog 19 #[Str (x0), .slice A1 (x1).length c1] w fun x w' => x = .returned (.tuple #[Str (r.1), .int .i64 (r.2)]) ∧ Hp Z0 No w w' [] := by
 have hm0 := Hp.nil Z0 No w
 have hc0 := Calm.nil
 have hm2 := hm0.know (slR A1 c1 T_api_Pair.rep x1) (fun _ h => h) (hm0.in0 hc0 f0)
 replace hc0 := hc0.snoc (r := slR A1 c1 T_api_Pair.rep x1) (fun _ h => h)
 refine Rn.enter Tryz.func19 rfl rfl (Nat.le_of_ble_eq_true rfl) ?_
 refine gg 10 rfl ?_
 obtain ⟨p3, e3, hM⟩ := bindE hM
 refine Rn.cl ck27 rfl rfl rfl rfl (m_label_Check_sim (Z0 := All) e3 (slR_all (hm2.get 0 rfl)) :) ?_
 rintro _ w3 ⟨rfl, hq3⟩
 refine ⟨_, rfl, ?_⟩
 have hm4 := hm2.call0 hq3
 refine gg 7 rfl ?_
 refine Rn.condD rfl (fun h5 => ?_) (fun h5 => ?_)
 ·replace hM := iteT h5 hM
  refine gg 6 rfl ?_
  refine Rn.retG2 Tryz.func19 rfl (rvT rfl) (rvT rfl) ?_
  obtain rfl := someE hM
  exact ⟨rfl, hm4.pick [] rfl (by decide)⟩
 ·replace hM := iteF h5 hM
  refine gg 3 rfl (Rn.alloc rfl rfl rfl Tryz.zeroValue85 rfl ?_)
  intro b6 w6 hb6 m6 e6
  have hm8 := (hm4.addBox hb6 e6 m6).nf [_, boxR _ _ [_, _]] rfl
  have hm9 : Hp Z0 No w w6 [slR A1 c1 T_api_Pair.rep x1, bldR 85 5 b6 none 0 ([] : List UInt8)] := hm8.toBld 1 rfl
  refine gg 4 rfl ?_
  obtain ⟨z10, e10, hM⟩ := bindE hM
  have hm11 := (hm9.cut [0] [1] rfl (by decide)).nf ([_] ++ [_]) rfl
  refine Rn.cl ck48 rfl rfl rfl rfl (bld_ws _ _ _ _ _ x0 hm11.lend e10) ?_
  rintro _ w10 ⟨A10, c10, rfl, hq10⟩
  refine ⟨_, rfl, ?_⟩
  have hm12 := hm11.callAZ hq10
  refine gg 5 rfl ?_
  obtain ⟨p13, e13, hM⟩ := bindE hM
  refine Rn.cl ck45 rfl rfl rfl rfl (m_label_Sorted_sim (Z0 := All) e13 (slR_all (hm12.get 0 rfl)) :) ?_
  rintro _ w13 ⟨A13_0_0, c13_0_0, rfl, hq13⟩
  refine ⟨_, rfl, ?_⟩
  have hm15 := hm12.callF (flC (ownR_flat T_api_Pair.flat _ _ _ _) fl0) hq13
  refine Rn.q rfl (V.lenV Tryz.underlying22 rfl) (gg 2 rfl ?_)
  obtain ⟨j1, hj1, hM⟩ := jnE hM
  refine Rn.joinG (r := r) (G := (List UInt8) × Option Addr × Nat) (fun g => [(7, .pointer (some ⟨b6, 0, none⟩))]) (fun g w' => Hp Z0 No w w' [ownR 42 A13_0_0 c13_0_0 T_api_Pair.rep p13, bldR 85 5 b6 (g.2.1) (g.2.2) (g.1)]) (fun g => j1 g.1) ?_ ?_
  ·subst hj1
   clear hM
   rintro ⟨y16, A17, c17⟩ w18 hm18 hM
   try dsimp only at hM
   refine gg 2 rfl ?_
   have hm20 := (hm18.cut [0] [1] rfl (by decide)).nf ([_] ++ [_]) rfl
   refine Rn.cl ck49 rfl rfl rfl rfl (bld_str _ _ _ _ _ hm20.lend) ?_
   rintro _ w19 ⟨rfl, hq19⟩
   refine ⟨_, rfl, ?_⟩
   have hm21 := hm20.callAZ hq19
   refine gg 3 rfl ?_
   refine Rn.retG2 Tryz.func19 rfl (rvT rfl) (rvT rfl) ?_
   obtain rfl := someE hM
   exact ⟨rfl, hm21.pick [] rfl (by decide)⟩
  intro hk1
  clear hj1
  refine gg 1 rfl ?_
  refine Rn.loopF (G := Int × (List UInt8) × Option Addr × Nat) (fun g => [(7, .pointer (some ⟨b6, 0, none⟩)), (19, .slice A13_0_0 (p13).length c13_0_0), (20, .int .i64 ((p13.length : Int))), (21, .int .i64 ((g.1)))]) (fun g w' => Hp Z0 No w w' [ownR 42 A13_0_0 c13_0_0 T_api_Pair.rep p13, bldR 85 5 b6 (g.2.2.1) (g.2.2.2) (g.2.1)]) (fun n g => m_label_Text_L1 p13 j1 n g.1 g.2.1) fuel (0, z10, A10, c10) (Sub.cons rfl (Sub.cons rfl (Sub.cons rfl (Sub.cons rfl (Sub.nil _))))) (hm15.pick [2, 1] rfl (by decide)) hM (fun _ => rfl) ?_
  clear hM
  rintro m25 ⟨y22, y23, A24, c24⟩ w25 hm25 hM hn25
  replace hM : m_label_Text_L1 p13 j1 (m25 + 1) y22 y23 = some r := hM
  rw [m_label_Text_L1] at hM
  refine gg 5 rfl ?_
  refine Rn.condD rfl (fun h26 => ?_) (fun h26 => ?_)
  ·replace hM := iteT h26 hM
   refine gg 5 rfl ?_
   obtain ⟨z27, e27, hM⟩ := bindE hM
   obtain ⟨kk27, ke27, kz27, kl27⟩ := idxE e27
   obtain ⟨g27, vs27, hA27, hR27, hrel27⟩ := hm25.ownAt 0 rfl kz27
   subst hA27
   obtain ⟨_, _, rfl, ⟨rfl, _⟩, ⟨rfl, _⟩⟩ := hrel27
   refine Rn.q rfl (V.ixE kk27 Tryz.underlying22 Tryz.sizeOf42 rfl rfl ke27 kl27) (Rn.q rfl (V.ldA (vs := [_, _]) Tryz.isAgg42 Tryz.sizeOf42 rfl (Rd.pre hR27 2) rfl) (Rn.als rfl rfl rfl Tryz.zeroValue42 rfl Tryz.sizeOf42 rfl rfl rfl rfl (by first | exact ones rfl | (simp [Value.oneCell']; done)) ?_))
   intro b28 w28 hb28 m28 e28
   have hm30 := (hm25.addBox hb28 e28 m28).nf [_, _, boxR _ _ [_, _]] rfl
   refine gg 3 rfl (Rn.q rfl (V.ldB Tryz.isAgg9 rfl (hm30.get 2 rfl) rfl) ?_)
   obtain ⟨z31, e31, hM⟩ := bindE hM
   refine Rn.q rfl (V.catZ rfl rfl e31) ?_
   obtain ⟨z32, e32, hM⟩ := bindE hM
   refine Rn.q rfl (V.catZ rfl rfl e32) (gg 1 rfl (Rn.q rfl (V.ldB Tryz.isAgg9 rfl (hm30.get 2 rfl) rfl) ?_))
   obtain ⟨z33, e33, hM⟩ := bindE hM
   refine Rn.q rfl (V.catZ rfl rfl e33) ?_
   obtain ⟨z34, e34, hM⟩ := bindE hM
   have hm35 := (hm30.cut [0, 2] [1] rfl (by decide)).nf ([_, _] ++ [_]) rfl
   refine Rn.cl ck48 rfl rfl rfl rfl (bld_ws _ _ _ _ _ z33 hm35.lend e34) ?_
   rintro _ w34 ⟨A34, c34, rfl, hq34⟩
   refine ⟨_, rfl, ?_⟩
   have hm36 := hm35.callAZ hq34
   refine gg 6 rfl ?_
   exact hn25 ((W64 (y22 + 1)), z34, A34, c34) _ _ (Sub.cons rfl (Sub.cons rfl (Sub.cons rfl (Sub.cons rfl (Sub.nil _))))) (hm36.pick [0, 2] rfl (by decide)) hM
  ·replace hM := iteF h26 hM
   refine gg 1 rfl ?_
   exact hk1 (y23, A24, c24) _ _ (Sub.cons rfl (Sub.nil _)) (hm25.pick [0, 1] rfl (by decide)) hM

theorem m_point_bit_sim {Z0 : Nat → Prop} {w : World} {x0 : Bool} {r : Int} (hM : m_point_bit x0 = some r)  :
    Calls Tryz.prog 21 #[.bool (x0)] w fun x w' => x = .returned (.int .i64 (r)) ∧ Hp Z0 No w w' [] := by
 have hm0 := Hp.nil Z0 No w
 have hc0 := Calm.nil
 refine Rn.enter Tryz.func21 rfl rfl (Nat.le_of_ble_eq_true rfl) ?_
 refine gg 9 rfl ?_
 refine Rn.condS rfl (fun h1 => ?_) (fun h1 => ?_)
 ·replace hM := iteT h1 hM
  refine gg 4 rfl ?_
  refine Rn.retG1 Tryz.func21 rfl (rvT rfl) ?_
  obtain rfl := someE hM
  exact ⟨rfl, hm0.pick [] rfl (by decide)⟩
 ·replace hM := iteFB hM h1
  refine gg 5 rfl ?_
  refine Rn.retG1 Tryz.func21 rfl (rvT rfl) ?_
  obtain rfl := someE hM
  exact ⟨rfl, hm0.pick [] rfl (by decide)⟩

theorem m_point_Key_sim {Z0 : Nat → Prop} {w : World} {x0 : T_api_Point} {cs0 : List Value} {r : ((List UInt8) × Int)} (hM : m_point_Key x0 = some r) (h0 : T_api_Point.rep.rel Z0 w cs0 x0) :
    Calls Tryz.prog 13 #[.agg cs0.toArray] w fun x w' => x = .returned (.tuple #[Str (r.1), .int .i64 (r.2)]) ∧ Hp Z0 No w w' [] := by
 have hm0 := Hp.nil Z0 No w
 have hc0 := Calm.nil
 obtain ⟨_, _, rfl, ⟨rfl, _⟩, ⟨_, _, rfl, ⟨A1, c1, rfl, p1, q1, s1⟩, ⟨_, _, rfl, ⟨rfl, _⟩, ⟨_, _, rfl, ⟨rfl, _⟩, ⟨_, _, rfl, ⟨rfl, _⟩, ⟨_, _, rfl, ⟨rfl, _⟩, ⟨_, _, rfl, ⟨rfl, _⟩, ⟨_, _, rfl, ⟨rfl, _⟩, ⟨_, _, rfl, ⟨rfl, _⟩, ⟨_, _, rfl, ⟨rfl, _⟩, ⟨_, _, rfl, ⟨_, _, rfl, ⟨rfl, _⟩, ⟨_, _, rfl, ⟨rfl, _⟩, ⟨_, _, rfl, ⟨_, _, rfl, ⟨rfl, _⟩, ⟨A3, c3, rfl, p3, q3, s3⟩⟩, ⟨_, _, rfl, ⟨rfl, _⟩, ⟨A5, c5, rfl, p5, q5, s5⟩⟩⟩⟩⟩, ⟨rfl, _⟩⟩⟩⟩⟩⟩⟩⟩⟩⟩⟩⟩ := h0
 have hm7 := hm0.know (slR A1 c1 T_api_Pair.rep x0.Attrs) (fun _ h => h) (hm0.in0 hc0 ⟨p1, q1, s1⟩)
 replace hc0 := hc0.snoc (r := slR A1 c1 T_api_Pair.rep x0.Attrs) (fun _ h => h)
 have hm8 := hm7.know (slR A3 c3 w64R x0.Hist.Pos.Counts) (fun _ h => h) (hm7.in0 hc0 ⟨p3, q3, s3⟩)
 replace hc0 := hc0.snoc (r := slR A3 c3 w64R x0.Hist.Pos.Counts) (fun _ h => h)
 have hm9 := hm8.know (slR A5 c5 w64R x0.Hist.Neg.Counts) (fun _ h => h) (hm8.in0 hc0 ⟨p5, q5, s5⟩)
 replace hc0 := hc0.snoc (r := slR A5 c5 w64R x0.Hist.Neg.Counts) (fun _ h => h)
 refine Rn.enter Tryz.func13 rfl rfl (Nat.le_of_ble_eq_true rfl) ?_
 refine gg 2 rfl (Rn.box rfl rfl rfl rfl rfl ?_)
 intro b10 w10 hb10 m10 e10
 have hm12 := (hm9.addBox hb10 e10 m10).nf [_, _, _, boxR _ _ [_, _, _, _, _, _, _, _, _, _, _, _, _, _, _, _, _]] rfl
 refine gg 6 rfl (Rn.q rfl (V.ldBA [_, _, _, _, _, _, _, _, _, _, _, _, _, _, _, _, _] Tryz.isAgg30 Tryz.sizeOf30 rfl (hm12.get 3 rfl) rfl rfl) ?_)
 obtain ⟨p13, e13, hM⟩ := bindE hM
 refine Rn.cl ck8 rfl rfl rfl rfl (m_point_Check_sim (Z0 := All) e13 (show T_api_Point.rep.rel All _ _ _ from ⟨_, _, rfl, ⟨rfl, trivial⟩, ⟨_, _, rfl, ⟨_, _, rfl, (slR_all (hm12.get 0 rfl)).1, (slR_all (hm12.get 0 rfl)).2.1, (slR_all (hm12.get 0 rfl)).2.2⟩, ⟨_, _, rfl, ⟨rfl, trivial⟩, ⟨_, _, rfl, ⟨rfl, trivial⟩, ⟨_, _, rfl, ⟨rfl, trivial⟩, ⟨_, _, rfl, ⟨rfl, trivial⟩, ⟨_, _, rfl, ⟨rfl, trivial⟩, ⟨_, _, rfl, ⟨rfl, trivial⟩, ⟨_, _, rfl, ⟨rfl, trivial⟩, ⟨_, _, rfl, ⟨rfl, trivial⟩, ⟨_, _, rfl, ⟨_, _, rfl, ⟨rfl, trivial⟩, ⟨_, _, rfl, ⟨rfl, trivial⟩, ⟨_, _, rfl, ⟨_, _, rfl, ⟨rfl, trivial⟩, ⟨_, _, rfl, (slR_all (hm12.get 1 rfl)).1, (slR_all (hm12.get 1 rfl)).2.1, (slR_all (hm12.get 1 rfl)).2.2⟩⟩, ⟨_, _, rfl, ⟨rfl, trivial⟩, ⟨_, _, rfl, (slR_all (hm12.get 2 rfl)).1, (slR_all (hm12.get 2 rfl)).2.1, (slR_all (hm12.get 2 rfl)).2.2⟩⟩⟩⟩⟩, ⟨rfl, trivial⟩⟩⟩⟩⟩⟩⟩⟩⟩⟩⟩⟩) :) ?_
 rintro _ w13 ⟨rfl, hq13⟩
 refine ⟨_, rfl, ?_⟩
 have hm14 := hm12.call0 hq13
 refine gg 7 rfl ?_
 refine Rn.condD rfl (fun h15 => ?_) (fun h15 => ?_)
 ·replace hM := iteT h15 hM
  refine gg 6 rfl ?_
  refine Rn.retG2 Tryz.func13 rfl (rvT rfl) (rvT rfl) ?_
  obtain rfl := someE hM
  exact ⟨rfl, hm14.pick [] rfl (by decide)⟩
 ·replace hM := iteF h15 hM
  refine gg 4 rfl (Rn.q rfl (V.ldB Tryz.isAgg9 rfl (hm14.get 3 rfl) rfl) (gg 1 rfl (Rn.q rfl (V.ldB Tryz.isAgg22 rfl (hm14.get 3 rfl) rfl) ?_)))
  obtain ⟨p16, e16, hM⟩ := bindE hM
  refine Rn.cl ck19 rfl rfl rfl rfl (m_label_Text_sim (Z0 := All) e16 (slR_all (hm14.get 0 rfl)) :) ?_
  rintro _ w16 ⟨rfl, hq16⟩
  refine ⟨_, rfl, ?_⟩
  have hm17 := hm14.call0 hq16
  refine gg 7 rfl ?_
  refine Rn.drawH rfl hm17 ?_
  intro w18 hm18
  refine dd [0] (by kernel_rfl) rfl rfl ?_
  obtain ⟨z19, e19, hM⟩ := bindE hM
  refine RH.take 1 (by kernel_rfl) rfl rfl rfl rfl (fun w' hDr => V.catZ rfl rfl e19) ?_
  refine dd [2] (by kernel_rfl) rfl rfl ?_
  refine RH.take 3 (by kernel_rfl) rfl rfl rfl rfl (fun w' hDr => V.ldB Tryz.isAgg3 rfl ((hm18.ext hDr).get 3 rfl) rfl) ?_
  refine dd [4] (by kernel_rfl) rfl rfl ?_
  refine RH.take 5 (by kernel_rfl) rfl rfl rfl rfl (fun w' hDr => V.cv8 Tryz.underlying3 Tryz.underlying5 rfl) ?_
  refine dd [6] (by kernel_rfl) rfl rfl ?_
  refine RH.take 7 (by kernel_rfl) rfl rfl rfl rfl (fun w' hDr => V.ldB Tryz.isAgg3 rfl ((hm18.ext hDr).get 3 rfl) rfl) ?_
  refine dd [8] (by kernel_rfl) rfl rfl ?_
  refine RH.take 9 (by kernel_rfl) rfl rfl rfl rfl (fun w' hDr => V.cv8 Tryz.underlying3 Tryz.underlying5 rfl) ?_
  refine dd [10] (by kernel_rfl) rfl rfl ?_
  refine RH.here fun hS11 => RH.one 11 (by kernel_rfl) rfl rfl rfl rfl (V.ldB Tryz.isAgg4 rfl (hm18.get 3 rfl) rfl) hS11 ?_
  obtain ⟨p20, e20, hM⟩ := bindE hM
  refine RH.cl ck21 12 (by kernel_rfl) rfl rfl rfl rfl (m_point_bit_sim (Z0 := All) e20  :) ?_
  rintro _ w20 ⟨rfl, hq20⟩
  refine ⟨_, rfl, ((Ext.refl _).trans hq20.fr), ?_⟩
  have hm21 := hm18.call0 hq20
  refine dd [13] (by kernel_rfl) rfl rfl ?_
  refine RH.here fun hS14 => RH.one 14 (by kernel_rfl) rfl rfl rfl rfl (V.cv8 Tryz.underlying3 Tryz.underlying5 rfl) hS14 ?_
  refine RH.bslS 15 (by kernel_rfl) rfl rfl rfl Tryz.underlying33 el5 rfl rfl rfl rfl (by first | exact szs rfl | (simp [Value.cells]; done)) (by decide) ?_
  intro b22 w22 hb22 m22 e22
  have hm23 := hm21.addLit (rep := byteR) (xs := ([toU8 (W64 (48 + x0.Kind)), toU8 (W64 (48 + x0.Temp)), toU8 (W64 (48 + p20))] : List UInt8)) (vss := [[.int .u8 (((toU8 (W64 (48 + x0.Kind))).toNat : Nat) : Int)], [.int .u8 (((toU8 (W64 (48 + x0.Temp))).toNat : Nat) : Int)], [.int .u8 (((toU8 (W64 (48 + p20))).toNat : Nat) : Int)]]) hb22 e22 m22 rfl rfl rfl ((rels_cons (fun _ _ => ⟨rfl, trivial⟩) (rels_cons (fun _ _ => ⟨rfl, trivial⟩) (rels_cons (fun _ _ => ⟨rfl, trivial⟩) rels0))))
  refine ⟨(((Ext.refl _).trans hq20.fr).trans e22), ?_⟩
  refine RH.here fun hS16 => RH.one 16 (by kernel_rfl) rfl rfl rfl rfl (V.b2s Tryz.underlying33 Tryz.underlying9 Tryz.underlying5 rfl rfl (Own.sl (hm23.get 4 rfl))) hS16 ?_
  obtain ⟨z25, e25, hM⟩ := bindE hM
  refine RH.here fun hS17 => RH.one 17 (by kernel_rfl) rfl rfl rfl rfl (V.catZ rfl rfl e25) hS17 ?_
  refine dd [18, 19] (by kernel_rfl) rfl rfl ?_
  refine RH.doneP (by kernel_rfl) ?_
  refine Rn.retG2 Tryz.func13 rfl (rvT rfl) (rvT rfl) ?_
  obtain rfl := someE hM
  exact ⟨rfl, hm23.pick [] rfl (by decide)⟩

theorem m_pack_NewWriter_sim {Z0 : Nat → Prop} {w : World}  {r : T_pack_Writer} (hM : m_pack_NewWriter  = some r)  :
    Calls Tryz.prog 18 #[] w fun x w' => ∃ F_0 b_0, x = .returned (.pointer (some ⟨b_0, 0, none⟩)) ∧ Hp Z0 No w w' [T_pack_Writer.obj F_0 b_0 r] := by
 have hm0 := Hp.nil Z0 No w
 have hc0 := Calm.nil
 refine Rn.enter Tryz.func18 rfl rfl (Nat.le_of_ble_eq_true rfl) ?_
 refine gg 6 rfl (Rn.q rfl (V.bldS (cs := [_]) st82 rfl rfl) (Rn.box rfl rfl rfl rfl rfl ?_))
 intro b1 w1 hb1 m1 e1
 have hm3 := (hm0.addBox hb1 e1 m1).nf [boxR _ _ [_]] rfl
 refine gg 2 rfl ?_
 have hm4 := hm3.addNil 5 byteR
 have hm7 := (hm4.cut [] [0, 1] rfl (by decide)).nf ([] ++ [_, _]) rfl
 obtain ⟨F6, hm6⟩ := hm7.fold (T_pack_Writer.sh b1 ({ b := ([] : List UInt8) } : T_pack_Writer)) ⟨none, 0, rfl⟩
 refine Rn.retG1 Tryz.func18 rfl (rvT rfl) ?_
 obtain rfl := someE hM
 exact ⟨F6, b1, rfl, hm6.pick [0] rfl (by decide)⟩

theorem m_math_bits_Len64_sim {Z0 : Nat → Prop} {w : World} {x0 : UInt64} {r : Int} (hM : m_math_bits_Len64 x0 = some r)  :
    Calls Tryz.prog 80 #[.int .u64 (((x0).toNat : Nat) : Int)] w fun x w' => x = .returned (.int .i64 (r)) ∧ Hp Z0 No w w' [] := by
 have hm0 := Hp.nil Z0 No w
 have hc0 := Calm.nil
 refine Rn.enter Tryz.func80 rfl rfl (Nat.le_of_ble_eq_true rfl) ?_
 refine gg 8 rfl (Rn.q rfl (V.geq rfl rfl) (gg 1 rfl ?_))
 obtain ⟨j1, hj1, hM⟩ := jnE hM
 refine Rn.joinG (r := r) (G := UInt64 × Int) (fun g => [(0, .int .u64 ((((g.1)).toNat : Nat) : Int)), (2, .int .i64 ((g.2)))]) (fun g w' => Hp Z0 No w w' []) (fun g => j1 g.1 g.2) ?_ ?_
 ·subst hj1
  clear hM
  rintro ⟨y1, y2⟩ w3 hm3 hM
  try dsimp only at hM
  refine gg 4 rfl (Rn.q rfl (V.geq rfl rfl) (gg 1 rfl ?_))
  obtain ⟨j2, hj2, hM⟩ := jnE hM
  refine Rn.joinG (r := r) (G := UInt64 × Int) (fun g => [(0, .int .u64 ((((g.1)).toNat : Nat) : Int)), (2, .int .i64 ((g.2)))]) (fun g w' => Hp Z0 No w w' []) (fun g => j2 g.1 g.2) ?_ ?_
  ·subst hj2
   clear hM
   rintro ⟨y4, y5⟩ w6 hm6 hM
   try dsimp only at hM
   refine gg 4 rfl (Rn.q rfl (V.geq rfl rfl) (gg 1 rfl ?_))
   obtain ⟨j3, hj3, hM⟩ := jnE hM
   refine Rn.joinG (r := r) (G := UInt64 × Int) (fun g => [(0, .int .u64 ((((g.1)).toNat : Nat) : Int)), (2, .int .i64 ((g.2)))]) (fun g w' => Hp Z0 No w w' []) (fun g => j3 g.1 g.2) ?_ ?_
   ·subst hj3
    clear hM
    rintro ⟨y7, y8⟩ w9 hm9 hM
    try dsimp only at hM
    refine gg 4 rfl (Rn.q rfl (V.cv8 Tryz.underlying23 Tryz.underlying5 rfl) ?_)
    obtain ⟨z10, e10, hM⟩ := bindE hM
    refine Rn.q rfl (V.idxSZ Tryz.underlying9 rfl rfl e10) (Rn.q rfl (V.cv8i (a := z10) Tryz.underlying5 Tryz.underlying3 rfl) (gg 3 rfl ?_))
    refine Rn.retG1 Tryz.func80 rfl (rvT rfl) ?_
    obtain rfl := someE hM
    exact ⟨rfl, hm9.pick [] rfl (by decide)⟩
   intro hk3
   clear hj3
   refine Rn.condD rfl (fun h11 => ?_) (fun h11 => ?_)
   ·replace hM := iteT h11 hM
    refine gg 3 rfl (Rn.q rfl (V.sh64 rfl rfl _ 8 rfl rfl (b64_shr _ _ _ 8 (by decide))) (gg 7 rfl ?_))
    exact hk3 ((y4 >>> UInt64.ofNat 8), (W64 (y5 + 8))) _ _ (Sub.cons rfl (Sub.cons rfl (Sub.nil _))) (hm6.pick [] rfl (by decide)) hM
   ·replace hM := iteF h11 hM
    refine gg 1 rfl ?_
    exact hk3 (y4, y5) _ _ (Sub.cons rfl (Sub.cons rfl (Sub.nil _))) (hm6.pick [] rfl (by decide)) hM
  intro hk2
  clear hj2
  refine Rn.condD rfl (fun h12 => ?_) (fun h12 => ?_)
  ·replace hM := iteT h12 hM
   refine gg 3 rfl (Rn.q rfl (V.sh64 rfl rfl _ 16 rfl rfl (b64_shr _ _ _ 16 (by decide))) (gg 7 rfl ?_))
   exact hk2 ((y1 >>> UInt64.ofNat 16), (W64 (y2 + 16))) _ _ (Sub.cons rfl (Sub.cons rfl (Sub.nil _))) (hm3.pick [] rfl (by decide)) hM
  ·replace hM := iteF h12 hM
   refine gg 1 rfl ?_
   exact hk2 (y1, y2) _ _ (Sub.cons rfl (Sub.cons rfl (Sub.nil _))) (hm3.pick [] rfl (by decide)) hM
 intro hk1
 clear hj1
 refine Rn.condD rfl (fun h13 => ?_) (fun h13 => ?_)
 ·replace hM := iteT h13 hM
  refine gg 3 rfl (Rn.q rfl (V.sh64 rfl rfl _ 32 rfl rfl (b64_shr _ _ _ 32 (by decide))) (gg 5 rfl ?_))
  exact hk1 ((x0 >>> UInt64.ofNat 32), 32) _ _ (Sub.cons rfl (Sub.cons rfl (Sub.nil _))) (hm0.pick [] rfl (by decide)) hM
 ·replace hM := iteF h13 hM
  refine gg 1 rfl ?_
  exact hk1 (x0, 0) _ _ (Sub.cons rfl (Sub.cons rfl (Sub.nil _))) (hm0.pick [] rfl (by decide)) hM

theorem m_pack_others_sim {Z0 : Nat → Prop} {w : World} {x0 : UInt64} {r : Int} (hM : m_pack_others x0 = some r)  :
    Calls Tryz.prog 50 #[.int .u64 (((x0).toNat : Nat) : Int)] w fun x w' => x = .returned (.int .i64 (r)) ∧ Hp Z0 No w w' [] := by
 have hm0 := Hp.nil Z0 No w
 have hc0 := Calm.nil
 refine Rn.enter Tryz.func50 rfl rfl (Nat.le_of_ble_eq_true rfl) ?_
 refine gg 7 rfl ?_
 obtain ⟨p1, e1, hM⟩ := bindE hM
 refine Rn.cl ck80 rfl rfl rfl rfl (m_math_bits_Len64_sim (Z0 := All) e1  :) ?_
 rintro _ w1 ⟨rfl, hq1⟩
 refine ⟨_, rfl, ?_⟩
 have hm2 := hm0.call0 hq1
 refine gg 8 rfl ?_
 refine Rn.condD rfl (fun h3 => ?_) (fun h3 => ?_)
 ·replace hM := iteT h3 hM
  refine gg 4 rfl ?_
  refine Rn.retG1 Tryz.func50 rfl (rvT rfl) ?_
  obtain rfl := someE hM
  exact ⟨rfl, hm2.pick [] rfl (by decide)⟩
 ·replace hM := iteF h3 hM
  refine gg 5 rfl (Rn.q rfl (V.maxi rfl rfl) ?_)
  obtain ⟨z4, e4, hM⟩ := bindE hM
  refine Rn.q rfl (V.quoZ rfl rfl e4) (gg 2 rfl ?_)
  refine Rn.retG1 Tryz.func50 rfl (rvT rfl) ?_
  obtain rfl := someE hM
  exact ⟨rfl, hm2.pick [] rfl (by decide)⟩

theorem m_pack_Writer_Num_sim {Z0 : Nat → Prop} {w : World} {F0 : Nat → Prop} {b0 : Nat} {x0 : T_pack_Writer} {x1 : UInt64} {r : T_pack_Writer} (hM : m_pack_Writer_Num x0 x1 = some r) (hL : Lent Z0 w [T_pack_Writer.obj F0 b0 x0]) :
    Calls Tryz.prog 22 #[.pointer (some ⟨b0, 0, none⟩), .int .u64 (((x1).toNat : Nat) : Int)] w fun x w' => ∃ F_p0, x = .returned (.tuple #[]) ∧ Hp Z0 (LS [T_pack_Writer.obj F0 b0 x0]) w w' [T_pack_Writer.obj F_p0 b0 r] := by
 have hm0 := hL.start
 refine Rn.enter Tryz.func22 rfl rfl (Nat.le_of_ble_eq_true rfl) ?_
 refine gg 3 rfl ?_
 obtain ⟨p2, e2, hM⟩ := bindE hM
 refine Rn.cl ck50 rfl rfl rfl rfl (m_pack_others_sim (Z0 := All) e2  :) ?_
 rintro _ w2 ⟨rfl, hq2⟩
 refine ⟨_, rfl, ?_⟩
 have hm3 := hm0.call0 hq2
 refine gg 6 rfl (Rn.q rfl (V.cv64 Tryz.underlying3 Tryz.underlying92 rfl) (Rn.q rfl (V.shl8 (a := (255 : UInt8)) (m := (toU64 (W64 (8 - p2))).toNat) rfl rfl) (gg 8 rfl ?_)))
 obtain ⟨j1, hj1, hM⟩ := jnE hM
 refine Rn.joinG (r := r) (G := UInt8 × (Nat → Prop)) (fun g => [(0, .pointer (some ⟨b0, 0, none⟩)), (1, .int .u64 (((x1).toNat : Nat) : Int)), (4, .int .i64 (p2)), (5, .int .u8 ((((g.1)).toNat : Nat) : Int))]) (fun g w' => Hp Z0 (LS [T_pack_Writer.obj F0 b0 x0]) w w' [T_pack_Writer.obj (g.2) b0 x0]) (fun g => j1 g.1) ?_ ?_
 ·subst hj1
  clear hM
  rintro ⟨y5, F4⟩ w6 hm6 hM
  try dsimp only at hM
  refine gg 6 rfl ?_
  obtain ⟨_, ⟨A7_0, c7_0, rfl⟩, hm7⟩ := hm6.unf 0 rfl
  replace hm7 := hm7.nf [_, _] rfl
  refine Rn.q rfl (V.ldB Tryz.isAgg33 rfl (hm7.get 0 rfl) rfl) (gg 1 rfl ?_)
  obtain ⟨z9, e9, hM⟩ := bindE hM
  refine Rn.pushH (z := y5) (vs := [.int .u8 (((y5).toNat : Nat) : Int)]) hm7 1 rfl e9 rfl rfl rfl rfl Tryz.underlying33 el5 rfl rfl rfl rfl (fun _ => rfl) (⟨rfl, trivial⟩) ?_
  intro A9 c9 w9 u9 hm9
  refine gg 2 rfl (Rn.st rfl rfl Tryz.sizeOf33 rfl rfl rfl rfl (by first | exact ones rfl | (simp [Value.oneCell']; done)) (hm9.get 0 rfl) (by first | exact Nat.le_of_ble_eq_true rfl | (simp; done)) ?_)
  intro w11 m11 x11
  have hm12 := (hm9.st 0 rfl x11 m11).nf [boxR _ _ [_], _] rfl
  refine gg 1 rfl ?_
  have hm14 := (hm12.cut [] [0, 1] rfl (by decide)).nf ([] ++ [_, _]) rfl
  obtain ⟨F13, hm13⟩ := hm14.fold (T_pack_Writer.sh b0 ({ b := z9 } : T_pack_Writer)) ⟨A9, c9, rfl⟩
  obtain ⟨j2, hj2, hM⟩ := jnE hM
  refine Rn.joinG (r := r) (G := T_pack_Writer × (Nat → Prop)) (fun g => []) (fun g w' => Hp Z0 (LS [T_pack_Writer.obj F0 b0 x0]) w w' [T_pack_Writer.obj (g.2) b0 (g.1)]) (fun g => j2 g.1) ?_ ?_
  ·subst hj2
   clear hM
   rintro ⟨y15, F15⟩ w16 hm16 hM
   try dsimp only at hM
   refine Rn.end0 Tryz.func22 rfl ?_
   obtain rfl := someE hM
   exact ⟨F15, rfl, hm16.pick [0] rfl (by decide)⟩
  intro hk2
  clear hj2
  refine gg 1 rfl ?_
  refine Rn.loopF (G := Int × T_pack_Writer × (Nat → Prop)) (fun g => [(0, .pointer (some ⟨b0, 0, none⟩)), (1, .int .u64 (((x1).toNat : Nat) : Int)), (4, .int .i64 ((g.1)))]) (fun g w' => Hp Z0 (LS [T_pack_Writer.obj F0 b0 x0]) w w' [T_pack_Writer.obj (g.2.2) b0 (g.2.1)]) (fun n g => m_pack_Writer_Num_L1 x1 j2 n g.1 g.2.1) fuel (p2, ({ b := z9 } : T_pack_Writer), F13) (Sub.cons rfl (Sub.cons rfl (Sub.cons rfl (Sub.nil _)))) (hm13.pick [0] rfl (by decide)) hM (fun _ => rfl) ?_
  clear hM
  rintro m19 ⟨y17, y18, F18⟩ w19 hm19 hM hn19
  replace hM : m_pack_Writer_Num_L1 x1 j2 (m19 + 1) y17 y18 = some r := hM
  rw [m_pack_Writer_Num_L1] at hM
  refine gg 6 rfl ?_
  refine Rn.condD rfl (fun h20 => ?_) (fun h20 => ?_)
  ·replace hM := iteT h20 hM
   refine gg 8 rfl ?_
   obtain ⟨_, ⟨A21_0, c21_0, rfl⟩, hm21⟩ := hm19.unf 0 rfl
   replace hm21 := hm21.nf [_, _] rfl
   refine Rn.q rfl (V.ldB Tryz.isAgg33 rfl (hm21.get 0 rfl) rfl) (gg 4 rfl (Rn.q rfl (V.cv64 Tryz.underlying3 Tryz.underlying92 rfl) (Rn.q rfl (V.shr64 (a := x1) (m := (toU64 (W64 ((W64 (8 * y17)) - 8))).toNat) rfl rfl) (Rn.q rfl (V.cv8 Tryz.underlying23 Tryz.underlying5 rfl) ?_))))
   obtain ⟨z23, e23, hM⟩ := bindE hM
   refine Rn.pushH (z := toU8 ((shr64 x1 ((toU64 (W64 ((W64 (8 * y17)) - 8))).toNat)).toNat : Int)) (vs := [.int .u8 (((toU8 ((shr64 x1 ((toU64 (W64 ((W64 (8 * y17)) - 8))).toNat)).toNat : Int)).toNat : Nat) : Int)]) hm21 1 rfl e23 rfl rfl rfl rfl Tryz.underlying33 el5 rfl rfl rfl rfl (fun _ => rfl) (⟨rfl, trivial⟩) ?_
   intro A23 c23 w23 u23 hm23
   refine gg 2 rfl (Rn.st rfl rfl Tryz.sizeOf33 rfl rfl rfl rfl (by first | exact ones rfl | (simp [Value.oneCell']; done)) (hm23.get 0 rfl) (by first | exact Nat.le_of_ble_eq_true rfl | (simp; done)) ?_)
   intro w25 m25 x25
   have hm26 := (hm23.st 0 rfl x25 m25).nf [boxR _ _ [_], _] rfl
   refine gg 7 rfl ?_
   have hm28 := (hm26.cut [] [0, 1] rfl (by decide)).nf ([] ++ [_, _]) rfl
   obtain ⟨F27, hm27⟩ := hm28.fold (T_pack_Writer.sh b0 ({ b := z23 } : T_pack_Writer)) ⟨A23, c23, rfl⟩
   exact hn19 ((W64 (y17 - 1)), ({ b := z23 } : T_pack_Writer), F27) _ _ (Sub.cons rfl (Sub.cons rfl (Sub.cons rfl (Sub.nil _)))) (hm27.pick [0] rfl (by decide)) hM
  ·replace hM := iteF h20 hM
   refine gg 1 rfl ?_
   exact hk2 (y18, F18) _ _ (Sub.nil _) (hm19.pick [0] rfl (by decide)) hM
 intro hk1
 clear hj1
 refine Rn.condD rfl (fun h29 => ?_) (fun h29 => ?_)
 ·replace hM := iteT h29 hM
  refine gg 5 rfl (Rn.q rfl (V.cv64 Tryz.underlying3 Tryz.underlying92 rfl) (Rn.q rfl (V.shr64 (a := x1) (m := (toU64 (W64 (8 * p2))).toNat) rfl rfl) (Rn.q rfl (V.cv8 Tryz.underlying23 Tryz.underlying5 rfl) (Rn.q rfl (V.or8 (a := shl8 (255 : UInt8) ((toU64 (W64 (8 - p2))).toNat)) (b := toU8 ((shr64 x1 ((toU64 (W64 (8 * p2))).toNat)).toNat : Int)) rfl rfl) (gg 2 rfl ?_)))))
  exact hk1 (((shl8 (255 : UInt8) ((toU64 (W64 (8 - p2))).toNat)) ||| (toU8 ((shr64 x1 ((toU64 (W64 (8 * p2))).toNat)).toNat : Int))), F0) _ _ (Sub.cons rfl (Sub.cons rfl (Sub.cons rfl (Sub.cons rfl (Sub.nil _))))) (hm3.pick [0] rfl (by decide)) hM
 ·replace hM := iteF h29 hM
  refine gg 1 rfl ?_
  exact hk1 ((shl8 (255 : UInt8) ((toU64 (W64 (8 - p2))).toNat)), F0) _ _ (Sub.cons rfl (Sub.cons rfl (Sub.cons rfl (Sub.cons rfl (Sub.nil _))))) (hm3.pick [0] rfl (by decide)) hM

theorem m_pack_Writer_Text_sim {Z0 : Nat → Prop} {w : World} {F0 : Nat → Prop} {b0 : Nat} {x0 : T_pack_Writer} {x1 : (List UInt8)} {r : T_pack_Writer} (hM : m_pack_Writer_Text x0 x1 = some r) (hL : Lent Z0 w [T_pack_Writer.obj F0 b0 x0]) :
    Calls Tryz.prog 20 #[.pointer (some ⟨b0, 0, none⟩), Str (x1)] w fun x w' => ∃ F_p0, x = .returned (.tuple #[]) ∧ Hp Z0 (LS [T_pack_Writer.obj F0 b0 x0]) w w' [T_pack_Writer.obj F_p0 b0 r] := by
 have hm0 := hL.start
 refine Rn.enter Tryz.func20 rfl rfl (Nat.le_of_ble_eq_true rfl) ?_
 refine gg 4 rfl (Rn.q rfl (V.lenS Tryz.underlying9 rfl) (Rn.q rfl (V.cv64 Tryz.underlying3 Tryz.underlying23 rfl) ?_))
 obtain ⟨p2, e2, hM⟩ := bindE hM
 have hm3 := (hm0.cut [] [0] rfl (by decide)).nf ([] ++ [_]) rfl
 refine Rn.cl ck22 rfl rfl rfl rfl (m_pack_Writer_Num_sim e2 hm3.lend :) ?_
 rintro _ w2 ⟨F2_p0, rfl, hq2⟩
 refine ⟨_, rfl, ?_⟩
 have hm5 := hm3.callAZ hq2
 refine gg 6 rfl ?_
 obtain ⟨_, ⟨A6_0, c6_0, rfl⟩, hm6⟩ := hm5.unf 0 rfl
 replace hm6 := hm6.nf [_, _] rfl
 refine Rn.q rfl (V.ldB Tryz.isAgg33 rfl (hm6.get 0 rfl) rfl) (gg 1 rfl ?_)
 obtain ⟨z8, e8, hM⟩ := bindE hM
 refine Rn.appSH hm6 1 rfl e8 rfl rfl rfl Tryz.underlying33 Tryz.underlying9 el5 rfl rfl rfl ?_
 intro A8 c8 w8 hm8
 refine gg 2 rfl (Rn.st rfl rfl Tryz.sizeOf33 rfl rfl rfl rfl (by first | exact ones rfl | (simp [Value.oneCell']; done)) (hm8.get 0 rfl) (by first | exact Nat.le_of_ble_eq_true rfl | (simp; done)) ?_)
 intro w10 m10 x10
 have hm11 := (hm8.st 0 rfl x10 m10).nf [boxR _ _ [_], _] rfl
 refine gg 1 rfl ?_
 have hm13 := (hm11.cut [] [0, 1] rfl (by decide)).nf ([] ++ [_, _]) rfl
 obtain ⟨F12, hm12⟩ := hm13.fold (T_pack_Writer.sh b0 ({ b := z8 } : T_pack_Writer)) ⟨A8, c8, rfl⟩
 refine Rn.end0 Tryz.func20 rfl ?_
 obtain rfl := someE hM
 exact ⟨F12, rfl, hm12.pick [0] rfl (by decide)⟩

theorem m_pack_Zig_sim {Z0 : Nat → Prop} {w : World} {x0 : Int} {r : UInt64} (hM : m_pack_Zig x0 = some r)  :
    Calls Tryz.prog 51 #[.int .i64 (x0)] w fun x w' => x = .returned (.int .u64 (((r).toNat : Nat) : Int)) ∧ Hp Z0 No w w' [] := by
 have hm0 := Hp.nil Z0 No w
 have hc0 := Calm.nil
 refine Rn.enter Tryz.func51 rfl rfl (Nat.le_of_ble_eq_true rfl) ?_
 refine gg 7 rfl (Rn.q rfl (V.cv64 Tryz.underlying3 Tryz.underlying23 rfl) (Rn.q rfl (V.sh64 rfl rfl _ 1 rfl rfl (b64_shl _ _ _ 1 (by decide))) (gg 1 rfl (Rn.q rfl (V.shrZ (m := 63) rfl rfl) (Rn.q rfl (V.cv64 Tryz.underlying3 Tryz.underlying23 rfl) (Rn.q rfl (V.o64 rfl rfl ((toU64 x0) <<< UInt64.ofNat 1) (toU64 (shrZ x0 63)) rfl rfl (b64_xor _ _ _)) (gg 2 rfl ?_)))))))
 refine Rn.retG1 Tryz.func51 rfl (rvT rfl) ?_
 obtain rfl := someE hM
 exact ⟨rfl, hm0.pick [] rfl (by decide)⟩

theorem m_pack_Writer_Int_sim {Z0 : Nat → Prop} {w : World} {F0 : Nat → Prop} {b0 : Nat} {x0 : T_pack_Writer} {x1 : Int} {r : T_pack_Writer} (hM : m_pack_Writer_Int x0 x1 = some r) (hL : Lent Z0 w [T_pack_Writer.obj F0 b0 x0]) :
    Calls Tryz.prog 23 #[.pointer (some ⟨b0, 0, none⟩), .int .i64 (x1)] w fun x w' => ∃ F_p0, x = .returned (.tuple #[]) ∧ Hp Z0 (LS [T_pack_Writer.obj F0 b0 x0]) w w' [T_pack_Writer.obj F_p0 b0 r] := by
 have hm0 := hL.start
 refine Rn.enter Tryz.func23 rfl rfl (Nat.le_of_ble_eq_true rfl) ?_
 refine gg 3 rfl ?_
 obtain ⟨p2, e2, hM⟩ := bindE hM
 refine Rn.cl ck51 rfl rfl rfl rfl (m_pack_Zig_sim (Z0 := All) e2  :) ?_
 rintro _ w2 ⟨rfl, hq2⟩
 refine ⟨_, rfl, ?_⟩
 have hm3 := hm0.call0 hq2
 obtain ⟨p4, e4, hM⟩ := bindE hM
 have hm5 := (hm3.cut [] [0] rfl (by decide)).nf ([] ++ [_]) rfl
 refine Rn.cl ck22 rfl rfl rfl rfl (m_pack_Writer_Num_sim e4 hm5.lend :) ?_
 rintro _ w4 ⟨F4_p0, rfl, hq4⟩
 refine ⟨_, rfl, ?_⟩
 have hm7 := hm5.callAZ hq4
 refine gg 1 rfl ?_
 refine Rn.end0 Tryz.func23 rfl ?_
 obtain rfl := someE hM
 exact ⟨F4_p0, rfl, hm7.pick [0] rfl (by decide)⟩

theorem m_pack_Writer_Fix_sim {Z0 : Nat → Prop} {w : World} {F0 : Nat → Prop} {b0 : Nat} {x0 : T_pack_Writer} {x1 : UInt64} {r : T_pack_Writer} (hM : m_pack_Writer_Fix x0 x1 = some r) (hL : Lent Z0 w [T_pack_Writer.obj F0 b0 x0]) :
    Calls Tryz.prog 24 #[.pointer (some ⟨b0, 0, none⟩), .int .u64 (((x1).toNat : Nat) : Int)] w fun x w' => ∃ F_p0, x = .returned (.tuple #[]) ∧ Hp Z0 (LS [T_pack_Writer.obj F0 b0 x0]) w w' [T_pack_Writer.obj F_p0 b0 r] := by
 have hm0 := hL.start
 refine Rn.enter Tryz.func24 rfl rfl (Nat.le_of_ble_eq_true rfl) ?_
 refine gg 4 rfl ?_
 obtain ⟨j1, hj1, hM⟩ := jnE hM
 refine Rn.joinG (r := r) (G := T_pack_Writer × (Nat → Prop)) (fun g => []) (fun g w' => Hp Z0 (LS [T_pack_Writer.obj F0 b0 x0]) w w' [T_pack_Writer.obj (g.2) b0 (g.1)]) (fun g => j1 g.1) ?_ ?_
 ·subst hj1
  clear hM
  rintro ⟨y2, F2⟩ w3 hm3 hM
  try dsimp only at hM
  refine Rn.end0 Tryz.func24 rfl ?_
  obtain rfl := someE hM
  exact ⟨F2, rfl, hm3.pick [0] rfl (by decide)⟩
 intro hk1
 clear hj1
 refine gg 1 rfl ?_
 refine Rn.loopF (G := Int × T_pack_Writer × (Nat → Prop)) (fun g => [(0, .pointer (some ⟨b0, 0, none⟩)), (1, .int .u64 (((x1).toNat : Nat) : Int)), (5, .int .i64 ((g.1)))]) (fun g w' => Hp Z0 (LS [T_pack_Writer.obj F0 b0 x0]) w w' [T_pack_Writer.obj (g.2.2) b0 (g.2.1)]) (fun n g => m_pack_Writer_Fix_L1 x1 j1 n g.1 g.2.1) fuel (0, x0, F0) (Sub.cons rfl (Sub.cons rfl (Sub.cons rfl (Sub.nil _)))) (hm0.pick [0] rfl (by decide)) hM (fun _ => rfl) ?_
 clear hM
 rintro m6 ⟨y4, y5, F5⟩ w6 hm6 hM hn6
 replace hM : m_pack_Writer_Fix_L1 x1 j1 (m6 + 1) y4 y5 = some r := hM
 rw [m_pack_Writer_Fix_L1] at hM
 refine gg 5 rfl ?_
 refine Rn.condD rfl (fun h7 => ?_) (fun h7 => ?_)
 ·replace hM := iteT h7 hM
  refine gg 13 rfl ?_
  obtain ⟨_, ⟨A8_0, c8_0, rfl⟩, hm8⟩ := hm6.unf 0 rfl
  replace hm8 := hm8.nf [_, _] rfl
  refine Rn.q rfl (V.ldB Tryz.isAgg33 rfl (hm8.get 0 rfl) rfl) (gg 3 rfl (Rn.q rfl (V.cv64 Tryz.underlying3 Tryz.underlying92 rfl) (Rn.q rfl (V.shr64 (a := x1) (m := (toU64 (W64 (8 * y4))).toNat) rfl rfl) (Rn.q rfl (V.cv8 Tryz.underlying23 Tryz.underlying5 rfl) ?_))))
  obtain ⟨z10, e10, hM⟩ := bindE hM
  refine Rn.pushH (z := toU8 ((shr64 x1 ((toU64 (W64 (8 * y4))).toNat)).toNat : Int)) (vs := [.int .u8 (((toU8 ((shr64 x1 ((toU64 (W64 (8 * y4))).toNat)).toNat : Int)).toNat : Nat) : Int)]) hm8 1 rfl e10 rfl rfl rfl rfl Tryz.underlying33 el5 rfl rfl rfl rfl (fun _ => rfl) (⟨rfl, trivial⟩) ?_
  intro A10 c10 w10 u10 hm10
  refine gg 2 rfl (Rn.st rfl rfl Tryz.sizeOf33 rfl rfl rfl rfl (by first | exact ones rfl | (simp [Value.oneCell']; done)) (hm10.get 0 rfl) (by first | exact Nat.le_of_ble_eq_true rfl | (simp; done)) ?_)
  intro w12 m12 x12
  have hm13 := (hm10.st 0 rfl x12 m12).nf [boxR _ _ [_], _] rfl
  refine gg 6 rfl ?_
  have hm15 := (hm13.cut [] [0, 1] rfl (by decide)).nf ([] ++ [_, _]) rfl
  obtain ⟨F14, hm14⟩ := hm15.fold (T_pack_Writer.sh b0 ({ b := z10 } : T_pack_Writer)) ⟨A10, c10, rfl⟩
  exact hn6 ((W64 (y4 + 1)), ({ b := z10 } : T_pack_Writer), F14) _ _ (Sub.cons rfl (Sub.cons rfl (Sub.cons rfl (Sub.nil _)))) (hm14.pick [0] rfl (by decide)) hM
 ·replace hM := iteF h7 hM
  refine gg 1 rfl ?_
  exact hk1 (y5, F5) _ _ (Sub.nil _) (hm6.pick [0] rfl (by decide)) hM

theorem m_point_side_sim {Z0 : Nat → Prop} {w : World} {F0 : Nat → Prop} {b0 : Nat} {x0 : T_pack_Writer} {x1 : T_api_Side} {cs1 : List Value} {r : T_pack_Writer} (hM : m_point_side x0 x1 = some r) (hL : Lent Z0 w [T_pack_Writer.obj F0 b0 x0, relR T_api_Side.rep cs1 x1]) :
    Calls Tryz.prog 25 #[.pointer (some ⟨b0, 0, none⟩), .agg cs1.toArray] w fun x w' => ∃ F_p0, x = .returned (.tuple #[]) ∧ Hp Z0 (LS [T_pack_Writer.obj F0 b0 x0, relR T_api_Side.rep cs1 x1]) w w' [T_pack_Writer.obj F_p0 b0 r] := by
 have hm0 := hL.start
 have h1 := hm0.get 1 rfl
 obtain ⟨_, _, rfl, ⟨rfl, _⟩, ⟨A2, c2, rfl, p2, q2, s2⟩⟩ := h1
 have hm5 := Hp.knowL [slR A2 c2 w64R x1.Counts] _ hm0 (knC (fun _ h => h) ⟨p2, q2, s2⟩ kn0)
 refine Rn.enter Tryz.func25 rfl rfl (Nat.le_of_ble_eq_true rfl) ?_
 refine gg 2 rfl (Rn.box rfl rfl rfl rfl rfl ?_)
 intro b6 w6 hb6 m6 e6
 have hm8 := (hm5.addBox hb6 e6 m6).nf [_, _, _, boxR _ _ [_, _]] rfl
 refine gg 5 rfl (Rn.q rfl (V.ldB Tryz.isAgg24 rfl (hm8.get 3 rfl) rfl) (Rn.q rfl (V.lenV Tryz.underlying24 rfl) (Rn.q rfl (V.cv64 Tryz.underlying3 Tryz.underlying23 rfl) ?_)))
 obtain ⟨p9, e9, hM⟩ := bindE hM
 have hm10 := (hm8.cut [1, 2, 3] [0] rfl (by decide)).nf ([_, _, _] ++ [_]) rfl
 refine Rn.cl ck22 rfl rfl rfl rfl (m_pack_Writer_Num_sim e9 hm10.lend :) ?_
 rintro _ w9 ⟨F9_p0, rfl, hq9⟩
 refine ⟨_, rfl, ?_⟩
 have hm12 := hm10.callAZ hq9
 refine gg 5 rfl (Rn.q rfl (V.ldB Tryz.isAgg24 rfl (hm12.get 2 rfl) rfl) (Rn.q rfl (V.lenV Tryz.underlying24 rfl) (gg 2 rfl ?_)))
 obtain ⟨j1, hj1, hM⟩ := jnE hM
 refine Rn.joinG (r := r) (G := T_pack_Writer × (Nat → Prop)) (fun g => [(0, .pointer (some ⟨b0, 0, none⟩)), (3, .pointer (some ⟨b6, 0, none⟩))]) (fun g w' => Hp Z0 (LS [T_pack_Writer.obj F0 b0 x0, relR T_api_Side.rep [.int .i64 (x1.Offset), .slice A2 (x1.Counts).length c2] x1]) w w' [slR A2 c2 w64R x1.Counts, boxR b6 26 [.int .i64 (x1.Offset), .slice A2 (x1.Counts).length c2], T_pack_Writer.obj (g.2) b0 (g.1)]) (fun g => j1 g.1) ?_ ?_
 ·subst hj1
  clear hM
  rintro ⟨y13, F13⟩ w14 hm14 hM
  try dsimp only at hM
  refine gg 3 rfl (Rn.q rfl (V.ldB Tryz.isAgg24 rfl (hm14.get 1 rfl) rfl) (Rn.q rfl (V.lenV Tryz.underlying24 rfl) (gg 2 rfl ?_)))
  obtain ⟨j2, hj2, hM⟩ := jnE hM
  refine Rn.joinG (r := r) (G := T_pack_Writer × (Nat → Prop)) (fun g => []) (fun g w' => Hp Z0 (LS [T_pack_Writer.obj F0 b0 x0, relR T_api_Side.rep [.int .i64 (x1.Offset), .slice A2 (x1.Counts).length c2] x1]) w w' [slR A2 c2 w64R x1.Counts, boxR b6 26 [.int .i64 (x1.Offset), .slice A2 (x1.Counts).length c2], T_pack_Writer.obj (g.2) b0 (g.1)]) (fun g => j2 g.1) ?_ ?_
  ·subst hj2
   clear hM
   rintro ⟨y15, F15⟩ w16 hm16 hM
   try dsimp only at hM
   refine Rn.end0 Tryz.func25 rfl ?_
   obtain rfl := someE hM
   exact ⟨F15, rfl, hm16.pick [2] rfl (by decide)⟩
  intro hk2
  clear hj2
  refine gg 1 rfl ?_
  refine Rn.loopF (G := Int × T_pack_Writer × (Nat → Prop)) (fun g => [(0, .pointer (some ⟨b0, 0, none⟩)), (21, .slice A2 (x1.Counts).length c2), (22, .int .i64 ((x1.Counts.length : Int))), (23, .int .i64 ((g.1)))]) (fun g w' => Hp Z0 (LS [T_pack_Writer.obj F0 b0 x0, relR T_api_Side.rep [.int .i64 (x1.Offset), .slice A2 (x1.Counts).length c2] x1]) w w' [slR A2 c2 w64R x1.Counts, boxR b6 26 [.int .i64 (x1.Offset), .slice A2 (x1.Counts).length c2], T_pack_Writer.obj (g.2.2) b0 (g.2.1)]) (fun n g => m_point_side_L1 x1 j2 n g.1 g.2.1) fuel (0, y13, F13) (Sub.cons rfl (Sub.cons rfl (Sub.cons rfl (Sub.cons rfl (Sub.nil _))))) (hm14.pick [0, 1, 2] rfl (by decide)) hM (fun _ => rfl) ?_
  clear hM
  rintro m19 ⟨y17, y18, F18⟩ w19 hm19 hM hn19
  replace hM : m_point_side_L1 x1 j2 (m19 + 1) y17 y18 = some r := hM
  rw [m_point_side_L1] at hM
  refine gg 5 rfl ?_
  refine Rn.condD rfl (fun h20 => ?_) (fun h20 => ?_)
  ·replace hM := iteT h20 hM
   refine gg 5 rfl ?_
   obtain ⟨z21, e21, hM⟩ := bindE hM
   refine Rn.ixH hm19 0 rfl e21 rfl rfl rfl Tryz.underlying24 Tryz.sizeOf23 rfl rfl rfl rfl ?_
   rintro b21 o21 vs21 ⟨rfl, _⟩ hm21
   refine Rn.q rfl (V.ldR0 Tryz.isAgg23 rfl (hm21.get 3 rfl).2 rfl) (gg 5 rfl ?_)
   obtain ⟨p23, e23, hM⟩ := bindE hM
   have hm24 := (hm21.cut [0, 1, 3] [2] rfl (by decide)).nf ([_, _, _] ++ [_]) rfl
   refine Rn.cl ck22 rfl rfl rfl rfl (m_pack_Writer_Num_sim e23 hm24.lend :) ?_
   rintro _ w23 ⟨F23_p0, rfl, hq23⟩
   refine ⟨_, rfl, ?_⟩
   have hm26 := hm24.callAZ hq23
   refine gg 6 rfl ?_
   exact hn19 ((W64 (y17 + 1)), p23, F23_p0) _ _ (Sub.cons rfl (Sub.cons rfl (Sub.cons rfl (Sub.cons rfl (Sub.nil _))))) (hm26.pick [0, 1, 3] rfl (by decide)) hM
  ·replace hM := iteF h20 hM
   refine gg 1 rfl ?_
   exact hk2 (y18, F18) _ _ (Sub.nil _) (hm19.pick [0, 1, 2] rfl (by decide)) hM
 intro hk1
 clear hj1
 refine Rn.condD rfl (fun h27 => ?_) (fun h27 => ?_)
 ·replace hM := iteT h27 hM
  refine gg 3 rfl (Rn.q rfl (V.ldB Tryz.isAgg3 rfl (hm12.get 2 rfl) rfl) ?_)
  obtain ⟨p28, e28, hM⟩ := bindE hM
  have hm29 := (hm12.cut [0, 1, 2] [3] rfl (by decide)).nf ([_, _, _] ++ [_]) rfl
  refine Rn.cl ck23 rfl rfl rfl rfl (m_pack_Writer_Int_sim e28 hm29.lend :) ?_
  rintro _ w28 ⟨F28_p0, rfl, hq28⟩
  refine ⟨_, rfl, ?_⟩
  have hm31 := hm29.callAZ hq28
  refine gg 1 rfl ?_
  exact hk1 (p28, F28_p0) _ _ (Sub.cons rfl (Sub.cons rfl (Sub.nil _))) (hm31.pick [1, 2, 3] rfl (by decide)) hM
 ·replace hM := iteF h27 hM
  refine gg 1 rfl ?_
  exact hk1 (p9, F9_p0) _ _ (Sub.cons rfl (Sub.cons rfl (Sub.nil _))) (hm12.pick [1, 2, 3] rfl (by decide)) hM

theorem m_bytes_Clone_sim {Z0 : Nat → Prop} {w : World} {A0 : Option Addr} {c0 : Nat} {x0 : (List UInt8)} {r : (List UInt8)} (hM : m_bytes_Clone x0 = some r) (f0 : (slR A0 c0 byteR x0).H Z0 w) :
    Calls Tryz.prog 52 #[.slice A0 (x0).length c0] w fun x w' => ∃ A_0_0 c_0_0, x = .returned (.slice A_0_0 (r).length c_0_0) ∧ Hp Z0 No w w' [ownR 5 A_0_0 c_0_0 byteR r] := by
  exact clone_52 w A0 c0 x0 f0 hM

theorem m_pack_Writer_Bytes_sim {Z0 : Nat → Prop} {w : World} {F0 : Nat → Prop} {b0 : Nat} {x0 : T_pack_Writer} {r : (List UInt8)} (hM : m_pack_Writer_Bytes x0 = some r) (f0 : (fzR (T_pack_Writer.obj F0 b0 x0)).H Z0 w) :
    Calls Tryz.prog 26 #[.pointer (some ⟨b0, 0, none⟩)] w fun x w' => ∃ A_0_0 c_0_0, x = .returned (.slice A_0_0 (r).length c_0_0) ∧ Hp Z0 No w w' [ownR 5 A_0_0 c_0_0 byteR r] := by
 have hm0 := Hp.nil Z0 No w
 have hc0 := Calm.nil
 have hm2 := hm0.know (fzR (T_pack_Writer.obj F0 b0 x0)) (fun _ h => h) (hm0.in0 hc0 f0)
 replace hc0 := hc0.snoc (r := fzR (T_pack_Writer.obj F0 b0 x0)) (fun _ h => h)
 refine Rn.enter Tryz.func26 rfl rfl (Nat.le_of_ble_eq_true rfl) ?_
 refine gg 9 rfl ?_
 obtain ⟨_, ⟨A3_0, c3_0, rfl⟩, hm3⟩ := hm2.unfz 0 rfl
 replace hm3 := hm3.nf [_, _, _] rfl
 have hm7 := hm3.fzSl 2 rfl
 refine Rn.q rfl (V.ldB Tryz.isAgg33 rfl (hm7.getz 1 rfl) rfl) ?_
 obtain ⟨p8, e8, hM⟩ := bindE hM
 refine Rn.cl ck52 rfl rfl rfl rfl (m_bytes_Clone_sim (Z0 := All) e8 (slR_all (hm7.get 3 rfl)) :) ?_
 rintro _ w8 ⟨A8_0_0, c8_0_0, rfl, hq8⟩
 refine ⟨_, rfl, ?_⟩
 have hm10 := hm7.callF (flC (ownR_flat byte_flat _ _ _ _) fl0) hq8
 refine gg 2 rfl ?_
 refine Rn.retG1 Tryz.func26 rfl (rvT rfl) ?_
 obtain rfl := someE hM
 exact ⟨A8_0_0, c8_0_0, rfl, hm10.pick [4] rfl (by decide)⟩

theorem m_point_Bytes_sim {Z0 : Nat → Prop} {w : World} {x0 : T_api_Point} {cs0 : List Value} {r : ((List UInt8) × Int)} (hM : m_point_Bytes x0 = some r) (h0 : T_api_Point.rep.rel Z0 w cs0 x0) :
    Calls Tryz.prog 7 #[.agg cs0.toArray] w fun x w' => ∃ A_0_0 c_0_0, x = .returned (.tuple #[.slice A_0_0 (r.1).length c_0_0, .int .i64 (r.2)]) ∧ Hp Z0 No w w' [ownR 5 A_0_0 c_0_0 byteR r.1] := by
 have hm0 := Hp.nil Z0 No w
 have hc0 := Calm.nil
 obtain ⟨_, _, rfl, ⟨rfl, _⟩, ⟨_, _, rfl, ⟨A1, c1, rfl, p1, q1, s1⟩, ⟨_, _, rfl, ⟨rfl, _⟩, ⟨_, _, rfl, ⟨rfl, _⟩, ⟨_, _, rfl, ⟨rfl, _⟩, ⟨_, _, rfl, ⟨rfl, _⟩, ⟨_, _, rfl, ⟨rfl, _⟩, ⟨_, _, rfl, ⟨rfl, _⟩, ⟨_, _, rfl, ⟨rfl, _⟩, ⟨_, _, rfl, ⟨rfl, _⟩, ⟨_, _, rfl, ⟨_, _, rfl, ⟨rfl, _⟩, ⟨_, _, rfl, ⟨rfl, _⟩, ⟨_, _, rfl, ⟨_, _, rfl, ⟨rfl, _⟩, ⟨A3, c3, rfl, p3, q3, s3⟩⟩, ⟨_, _, rfl, ⟨rfl, _⟩, ⟨A5, c5, rfl, p5, q5, s5⟩⟩⟩⟩⟩, ⟨rfl, _⟩⟩⟩⟩⟩⟩⟩⟩⟩⟩⟩⟩ := h0
 have hm7 := hm0.know (slR A1 c1 T_api_Pair.rep x0.Attrs) (fun _ h => h) (hm0.in0 hc0 ⟨p1, q1, s1⟩)
 replace hc0 := hc0.snoc (r := slR A1 c1 T_api_Pair.rep x0.Attrs) (fun _ h => h)
 have hm8 := hm7.know (slR A3 c3 w64R x0.Hist.Pos.Counts) (fun _ h => h) (hm7.in0 hc0 ⟨p3, q3, s3⟩)
 replace hc0 := hc0.snoc (r := slR A3 c3 w64R x0.Hist.Pos.Counts) (fun _ h => h)
 have hm9 := hm8.know (slR A5 c5 w64R x0.Hist.Neg.Counts) (fun _ h => h) (hm8.in0 hc0 ⟨p5, q5, s5⟩)
 replace hc0 := hc0.snoc (r := slR A5 c5 w64R x0.Hist.Neg.Counts) (fun _ h => h)
 refine Rn.enter Tryz.func7 rfl rfl (Nat.le_of_ble_eq_true rfl) ?_
 refine gg 2 rfl (Rn.box rfl rfl rfl rfl rfl ?_)
 intro b10 w10 hb10 m10 e10
 have hm12 := (hm9.addBox hb10 e10 m10).nf [_, _, _, boxR _ _ [_, _, _, _, _, _, _, _, _, _, _, _, _, _, _, _, _]] rfl
 refine gg 6 rfl (Rn.q rfl (V.ldBA [_, _, _, _, _, _, _, _, _, _, _, _, _, _, _, _, _] Tryz.isAgg30 Tryz.sizeOf30 rfl (hm12.get 3 rfl) rfl rfl) ?_)
 obtain ⟨p13, e13, hM⟩ := bindE hM
 refine Rn.cl ck8 rfl rfl rfl rfl (m_point_Check_sim (Z0 := All) e13 (show T_api_Point.rep.rel All _ _ _ from ⟨_, _, rfl, ⟨rfl, trivial⟩, ⟨_, _, rfl, ⟨_, _, rfl, (slR_all (hm12.get 0 rfl)).1, (slR_all (hm12.get 0 rfl)).2.1, (slR_all (hm12.get 0 rfl)).2.2⟩, ⟨_, _, rfl, ⟨rfl, trivial⟩, ⟨_, _, rfl, ⟨rfl, trivial⟩, ⟨_, _, rfl, ⟨rfl, trivial⟩, ⟨_, _, rfl, ⟨rfl, trivial⟩, ⟨_, _, rfl, ⟨rfl, trivial⟩, ⟨_, _, rfl, ⟨rfl, trivial⟩, ⟨_, _, rfl, ⟨rfl, trivial⟩, ⟨_, _, rfl, ⟨rfl, trivial⟩, ⟨_, _, rfl, ⟨_, _, rfl, ⟨rfl, trivial⟩, ⟨_, _, rfl, ⟨rfl, trivial⟩, ⟨_, _, rfl, ⟨_, _, rfl, ⟨rfl, trivial⟩, ⟨_, _, rfl, (slR_all (hm12.get 1 rfl)).1, (slR_all (hm12.get 1 rfl)).2.1, (slR_all (hm12.get 1 rfl)).2.2⟩⟩, ⟨_, _, rfl, ⟨rfl, trivial⟩, ⟨_, _, rfl, (slR_all (hm12.get 2 rfl)).1, (slR_all (hm12.get 2 rfl)).2.1, (slR_all (hm12.get 2 rfl)).2.2⟩⟩⟩⟩⟩, ⟨rfl, trivial⟩⟩⟩⟩⟩⟩⟩⟩⟩⟩⟩⟩) :) ?_
 rintro _ w13 ⟨rfl, hq13⟩
 refine ⟨_, rfl, ?_⟩
 have hm14 := hm12.call0 hq13
 refine gg 7 rfl ?_
 refine Rn.condD rfl (fun h15 => ?_) (fun h15 => ?_)
 ·replace hM := iteT h15 hM
  refine gg 6 rfl ?_
  have hm16 := hm14.addNil 5 byteR
  refine Rn.retG2 Tryz.func7 rfl (rvT rfl) (rvT rfl) ?_
  obtain rfl := someE hM
  exact ⟨none, 0, rfl, hm16.pick [4] rfl (by decide)⟩
 ·replace hM := iteF h15 hM
  refine gg 3 rfl ?_
  obtain ⟨p18, e18, hM⟩ := bindE hM
  refine Rn.cl ck18 rfl rfl rfl rfl (m_pack_NewWriter_sim (Z0 := hm14.Z) e18  :) ?_
  rintro _ w18 ⟨F18_0, b18_0, rfl, hq18⟩
  refine ⟨_, rfl, ?_⟩
  have hm20 := hm14.callZ hq18
  refine gg 5 rfl (Rn.q rfl (V.ldB Tryz.isAgg9 rfl (hm20.get 3 rfl) rfl) (gg 1 rfl (Rn.q rfl (V.ldB Tryz.isAgg22 rfl (hm20.get 3 rfl) rfl) ?_)))
  obtain ⟨p21, e21, hM⟩ := bindE hM
  refine Rn.cl ck19 rfl rfl rfl rfl (m_label_Text_sim (Z0 := All) e21 (slR_all (hm20.get 0 rfl)) :) ?_
  rintro _ w21 ⟨rfl, hq21⟩
  refine ⟨_, rfl, ?_⟩
  have hm22 := hm20.call0 hq21
  refine gg 10 rfl ?_
  obtain ⟨p23, e23, hM⟩ := bindE hM
  have hm24 := (hm22.cut [0, 1, 2, 3] [4] rfl (by decide)).nf ([_, _, _, _] ++ [_]) rfl
  refine Rn.cl ck20 rfl rfl rfl rfl (m_pack_Writer_Text_sim e23 hm24.lend :) ?_
  rintro _ w23 ⟨F23_p0, rfl, hq23⟩
  refine ⟨_, rfl, ?_⟩
  have hm26 := hm24.callAZ hq23
  refine gg 3 rfl ?_
  refine Rn.drawH rfl hm26 ?_
  intro w27 hm27
  refine dd [0] (by kernel_rfl) rfl rfl ?_
  refine RH.take 1 (by kernel_rfl) rfl rfl rfl rfl (fun w' hDr => V.ldB Tryz.isAgg3 rfl ((hm27.ext hDr).get 3 rfl) rfl) ?_
  refine dd [2] (by kernel_rfl) rfl rfl ?_
  refine RH.take 3 (by kernel_rfl) rfl rfl rfl rfl (fun w' hDr => V.ldB Tryz.isAgg3 rfl ((hm27.ext hDr).get 3 rfl) rfl) ?_
  refine dd [4] (by kernel_rfl) rfl rfl ?_
  refine RH.take 5 (by kernel_rfl) rfl rfl rfl rfl (fun w' hDr => V.ldB Tryz.isAgg4 rfl ((hm27.ext hDr).get 3 rfl) rfl) ?_
  refine dd [7] (by kernel_rfl) rfl rfl ?_
  refine RH.take 8 (by kernel_rfl) rfl rfl rfl rfl (fun w' hDr => V.ldB Tryz.isAgg3 rfl ((hm27.ext hDr).get 3 rfl) rfl) ?_
  refine dd [9] (by kernel_rfl) rfl rfl ?_
  refine RH.take 10 (by kernel_rfl) rfl rfl rfl rfl (fun w' hDr => V.ldB Tryz.isAgg3 rfl ((hm27.ext hDr).get 3 rfl) rfl) ?_
  refine dd [11] (by kernel_rfl) rfl rfl ?_
  refine RH.take 12 (by kernel_rfl) rfl rfl rfl rfl (fun w' hDr => V.ldB Tryz.isAgg3 rfl ((hm27.ext hDr).get 3 rfl) rfl) ?_
  refine dd [13] (by kernel_rfl) rfl rfl ?_
  refine RH.take 14 (by kernel_rfl) rfl rfl rfl rfl (fun w' hDr => V.ldB Tryz.isAgg3 rfl ((hm27.ext hDr).get 3 rfl) rfl) ?_
  refine dd [15, 18] (by kernel_rfl) rfl rfl ?_
  obtain ⟨p28, e28, hM⟩ := bindE hM
  refine RH.cl ck21 6 (by kernel_rfl) rfl rfl rfl rfl (m_point_bit_sim (Z0 := All) e28  :) ?_
  rintro _ w28 ⟨rfl, hq28⟩
  refine ⟨_, rfl, ((Ext.refl _).trans hq28.fr), ?_⟩
  have hm29 := hm27.call0 hq28
  refine RH.bslS 16 (by kernel_rfl) rfl rfl rfl Tryz.underlying55 el3 rfl rfl rfl rfl (by first | exact szs rfl | (simp [Value.cells]; done)) (by decide) ?_
  intro b30 w30 hb30 m30 e30
  have hm31 := hm29.addLit (rep := (intR .i64)) (xs := ([x0.Kind, x0.Temp, p28, x0.Flags, x0.Start, W64 (x0.Time - x0.Start)] : List Int)) (vss := [[.int .i64 (x0.Kind)], [.int .i64 (x0.Temp)], [.int .i64 (p28)], [.int .i64 (x0.Flags)], [.int .i64 (x0.Start)], [.int .i64 (W64 (x0.Time - x0.Start))]]) hb30 e30 m30 rfl rfl rfl ((rels_cons (fun _ _ => ⟨rfl, trivial⟩) (rels_cons (fun _ _ => ⟨rfl, trivial⟩) (rels_cons (fun _ _ => ⟨rfl, trivial⟩) (rels_cons (fun _ _ => ⟨rfl, trivial⟩) (rels_cons (fun _ _ => ⟨rfl, trivial⟩) (rels_cons (fun _ _ => ⟨rfl, trivial⟩) rels0)))))))
  refine ⟨(((Ext.refl _).trans hq28.fr).trans e30), ?_⟩
  refine RH.here fun hS17 => RH.one 17 (by kernel_rfl) rfl rfl rfl rfl (V.lenV Tryz.underlying55 rfl) hS17 ?_
  refine RH.doneP (by kernel_rfl) ?_
  obtain ⟨j1, hj1, hM⟩ := jnE hM
  refine Rn.joinG (r := r) (G := T_pack_Writer × (Nat → Prop)) (fun g => [(1, .pointer (some ⟨b10, 0, none⟩)), (5, .pointer (some ⟨b18_0, 0, none⟩))]) (fun g w' => Hp Z0 No w w' [slR A1 c1 T_api_Pair.rep x0.Attrs, slR A3 c3 w64R x0.Hist.Pos.Counts, slR A5 c5 w64R x0.Hist.Neg.Counts, boxR b10 30 [Str (x0.Name), .slice A1 (x0.Attrs).length c1, .int .i64 (x0.Kind), .int .i64 (x0.Temp), .bool (x0.Mono), .int .i64 (x0.Start), .int .i64 (x0.Time), .int .i64 (x0.Int_), .int .u64 (((x0.Re).toNat : Nat) : Int), .int .u64 (((x0.Im).toNat : Nat) : Int), .int .i64 (x0.Hist.Scale), .int .u64 (((x0.Hist.Zero).toNat : Nat) : Int), .int .i64 (x0.Hist.Pos.Offset), .slice A3 (x0.Hist.Pos.Counts).length c3, .int .i64 (x0.Hist.Neg.Offset), .slice A5 (x0.Hist.Neg.Counts).length c5, .int .i64 (x0.Flags)], ownR 3 (some ⟨b30, 0, none⟩) 6 (intR .i64) ([x0.Kind, x0.Temp, p28, x0.Flags, x0.Start, W64 (x0.Time - x0.Start)] : List Int), T_pack_Writer.obj (g.2) b18_0 (g.1)]) (fun g => j1 g.1) ?_ ?_
  ·subst hj1
   clear hM
   rintro ⟨y33, F33⟩ w34 hm34 hM
   try dsimp only at hM
   refine gg 4 rfl (Rn.q rfl (V.ldB Tryz.isAgg3 rfl (hm34.get 3 rfl) rfl) (gg 1 rfl ?_))
   obtain ⟨j2, hj2, hM⟩ := jnE hM
   refine Rn.joinG (r := r) (G := T_pack_Writer × (Nat → Prop)) (fun g => [(5, .pointer (some ⟨b18_0, 0, none⟩))]) (fun g w' => Hp Z0 No w w' [slR A1 c1 T_api_Pair.rep x0.Attrs, slR A3 c3 w64R x0.Hist.Pos.Counts, slR A5 c5 w64R x0.Hist.Neg.Counts, boxR b10 30 [Str (x0.Name), .slice A1 (x0.Attrs).length c1, .int .i64 (x0.Kind), .int .i64 (x0.Temp), .bool (x0.Mono), .int .i64 (x0.Start), .int .i64 (x0.Time), .int .i64 (x0.Int_), .int .u64 (((x0.Re).toNat : Nat) : Int), .int .u64 (((x0.Im).toNat : Nat) : Int), .int .i64 (x0.Hist.Scale), .int .u64 (((x0.Hist.Zero).toNat : Nat) : Int), .int .i64 (x0.Hist.Pos.Offset), .slice A3 (x0.Hist.Pos.Counts).length c3, .int .i64 (x0.Hist.Neg.Offset), .slice A5 (x0.Hist.Neg.Counts).length c5, .int .i64 (x0.Flags)], ownR 3 (some ⟨b30, 0, none⟩) 6 (intR .i64) ([x0.Kind, x0.Temp, p28, x0.Flags, x0.Start, W64 (x0.Time - x0.Start)] : List Int), T_pack_Writer.obj (g.2) b18_0 (g.1)]) (fun g => j2 g.1) ?_ ?_
   ·subst hj2
    clear hM
    rintro ⟨y35, F35⟩ w36 hm36 hM
    try dsimp only at hM
    refine gg 3 rfl ?_
    obtain ⟨p37, e37, hM⟩ := bindE hM
    refine Rn.cl ck26 rfl rfl rfl rfl (m_pack_Writer_Bytes_sim (Z0 := All) e37 (fz_all (hm36.get 5 rfl)) :) ?_
    rintro _ w37 ⟨A37_0_0, c37_0_0, rfl, hq37⟩
    refine ⟨_, rfl, ?_⟩
    have hm39 := hm36.callF (flC (ownR_flat byte_flat _ _ _ _) fl0) hq37
    refine gg 3 rfl ?_
    refine Rn.retG2 Tryz.func7 rfl (rvT rfl) (rvT rfl) ?_
    obtain rfl := someE hM
    exact ⟨A37_0_0, c37_0_0, rfl, hm39.pick [6] rfl (by decide)⟩
   intro hk2
   clear hj2
   refine gg 6 rfl ?_
   refine Rn.condD rfl (fun h40 => ?_) (fun h40 => ?_)
   ·replace hM := iteT h40 hM
    refine gg 3 rfl (Rn.q rfl (V.ldB Tryz.isAgg3 rfl (hm34.get 3 rfl) rfl) ?_)
    obtain ⟨p41, e41, hM⟩ := bindE hM
    have hm42 := (hm34.cut [0, 1, 2, 3, 4] [5] rfl (by decide)).nf ([_, _, _, _, _] ++ [_]) rfl
    refine Rn.cl ck23 rfl rfl rfl rfl (m_pack_Writer_Int_sim e41 hm42.lend :) ?_
    rintro _ w41 ⟨F41_p0, rfl, hq41⟩
    refine ⟨_, rfl, ?_⟩
    have hm44 := hm42.callAZ hq41
    refine gg 2 rfl ?_
    exact hk2 (p41, F41_p0) _ _ (Sub.cons rfl (Sub.nil _)) (hm44.pick [0, 1, 2, 3, 4, 5] rfl (by decide)) hM
   ·replace hM := iteF h40 hM
    refine gg 5 rfl ?_
    refine Rn.condD rfl (fun h45 => ?_) (fun h45 => ?_)
    ·replace hM := iteT h45 hM
     refine gg 4 rfl (Rn.q rfl (V.ldB Tryz.isAgg23 rfl (hm34.get 3 rfl) rfl) ?_)
     obtain ⟨p46, e46, hM⟩ := bindE hM
     have hm47 := (hm34.cut [0, 1, 2, 3, 4] [5] rfl (by decide)).nf ([_, _, _, _, _] ++ [_]) rfl
     refine Rn.cl ck24 rfl rfl rfl rfl (m_pack_Writer_Fix_sim e46 hm47.lend :) ?_
     rintro _ w46 ⟨F46_p0, rfl, hq46⟩
     refine ⟨_, rfl, ?_⟩
     have hm49 := hm47.callAZ hq46
     refine gg 4 rfl (Rn.q rfl (V.ldB Tryz.isAgg23 rfl (hm49.get 3 rfl) rfl) ?_)
     obtain ⟨p50, e50, hM⟩ := bindE hM
     have hm51 := (hm49.cut [0, 1, 2, 3, 4] [5] rfl (by decide)).nf ([_, _, _, _, _] ++ [_]) rfl
     refine Rn.cl ck24 rfl rfl rfl rfl (m_pack_Writer_Fix_sim e50 hm51.lend :) ?_
     rintro _ w50 ⟨F50_p0, rfl, hq50⟩
     refine ⟨_, rfl, ?_⟩
     have hm53 := hm51.callAZ hq50
     refine gg 2 rfl ?_
     exact hk2 (p50, F50_p0) _ _ (Sub.cons rfl (Sub.nil _)) (hm53.pick [0, 1, 2, 3, 4, 5] rfl (by decide)) hM
    ·replace hM := iteF h45 hM
     refine gg 5 rfl ?_
     refine Rn.condD rfl (fun h54 => ?_) (fun h54 => ?_)
     ·replace hM := iteT h54 hM
      refine gg 5 rfl (Rn.q rfl (V.ldB Tryz.isAgg3 rfl (hm34.get 3 rfl) rfl) ?_)
      obtain ⟨p55, e55, hM⟩ := bindE hM
      have hm56 := (hm34.cut [0, 1, 2, 3, 4] [5] rfl (by decide)).nf ([_, _, _, _, _] ++ [_]) rfl
      refine Rn.cl ck23 rfl rfl rfl rfl (m_pack_Writer_Int_sim e55 hm56.lend :) ?_
      rintro _ w55 ⟨F55_p0, rfl, hq55⟩
      refine ⟨_, rfl, ?_⟩
      have hm58 := hm56.callAZ hq55
      refine gg 6 rfl (Rn.q rfl (V.ldB Tryz.isAgg23 rfl (hm58.get 3 rfl) rfl) ?_)
      obtain ⟨p59, e59, hM⟩ := bindE hM
      have hm60 := (hm58.cut [0, 1, 2, 3, 4] [5] rfl (by decide)).nf ([_, _, _, _, _] ++ [_]) rfl
      refine Rn.cl ck22 rfl rfl rfl rfl (m_pack_Writer_Num_sim e59 hm60.lend :) ?_
      rintro _ w59 ⟨F59_p0, rfl, hq59⟩
      refine ⟨_, rfl, ?_⟩
      have hm62 := hm60.callAZ hq59
      refine gg 6 rfl (Rn.q rfl (V.ldBA [_, _] Tryz.isAgg26 Tryz.sizeOf26 rfl (hm62.get 3 rfl) rfl rfl) ?_)
      obtain ⟨p63, e63, hM⟩ := bindE hM
      have hm64 := hm62.know (relR T_api_Side.rep [.int .i64 (x0.Hist.Pos.Offset), .slice A3 (x0.Hist.Pos.Counts).length c3] x0.Hist.Pos) (fun _ h => h) (show T_api_Side.rep.rel _ _ _ _ from ⟨_, _, rfl, ⟨rfl, trivial⟩, ⟨_, _, rfl, (hm62.get 1 rfl).1, (hm62.get 1 rfl).2.1, (hm62.get 1 rfl).2.2⟩⟩)
      have hm66 := (hm64.cut [0, 1, 2, 3, 4] [5, 6] rfl (by decide)).nf ([_, _, _, _, _] ++ [_, _]) rfl
      refine Rn.cl ck25 rfl rfl rfl rfl (m_point_side_sim e63 hm66.lend :) ?_
      rintro _ w63 ⟨F63_p0, rfl, hq63⟩
      refine ⟨_, rfl, ?_⟩
      have hm68 := hm66.callAZ hq63
      refine gg 5 rfl (Rn.q rfl (V.ldBA [_, _] Tryz.isAgg26 Tryz.sizeOf26 rfl (hm68.get 3 rfl) rfl rfl) ?_)
      obtain ⟨p69, e69, hM⟩ := bindE hM
      have hm70 := hm68.know (relR T_api_Side.rep [.int .i64 (x0.Hist.Neg.Offset), .slice A5 (x0.Hist.Neg.Counts).length c5] x0.Hist.Neg) (fun _ h => h) (show T_api_Side.rep.rel _ _ _ _ from ⟨_, _, rfl, ⟨rfl, trivial⟩, ⟨_, _, rfl, (hm68.get 2 rfl).1, (hm68.get 2 rfl).2.1, (hm68.get 2 rfl).2.2⟩⟩)
      have hm72 := (hm70.cut [0, 1, 2, 3, 4] [5, 6] rfl (by decide)).nf ([_, _, _, _, _] ++ [_, _]) rfl
      refine Rn.cl ck25 rfl rfl rfl rfl (m_point_side_sim e69 hm72.lend :) ?_
      rintro _ w69 ⟨F69_p0, rfl, hq69⟩
      refine ⟨_, rfl, ?_⟩
      have hm74 := hm72.callAZ hq69
      refine gg 2 rfl ?_
      exact hk2 (p69, F69_p0) _ _ (Sub.cons rfl (Sub.nil _)) (hm74.pick [0, 1, 2, 3, 4, 5] rfl (by decide)) hM
     ·replace hM := iteF h54 hM
      refine gg 3 rfl (Rn.q rfl (V.ldB Tryz.isAgg23 rfl (hm34.get 3 rfl) rfl) ?_)
      obtain ⟨p75, e75, hM⟩ := bindE hM
      have hm76 := (hm34.cut [0, 1, 2, 3, 4] [5] rfl (by decide)).nf ([_, _, _, _, _] ++ [_]) rfl
      refine Rn.cl ck24 rfl rfl rfl rfl (m_pack_Writer_Fix_sim e75 hm76.lend :) ?_
      rintro _ w75 ⟨F75_p0, rfl, hq75⟩
      refine ⟨_, rfl, ?_⟩
      have hm78 := hm76.callAZ hq75
      refine gg 2 rfl ?_
      exact hk2 (p75, F75_p0) _ _ (Sub.cons rfl (Sub.nil _)) (hm78.pick [0, 1, 2, 3, 4, 5] rfl (by decide)) hM
  intro hk1
  clear hj1
  refine gg 1 rfl ?_
  refine Rn.loopF (G := Int × T_pack_Writer × (Nat → Prop)) (fun g => [(1, .pointer (some ⟨b10, 0, none⟩)), (5, .pointer (some ⟨b18_0, 0, none⟩)), (43, .slice (some ⟨b30, 0, none⟩) (([x0.Kind, x0.Temp, p28, x0.Flags, x0.Start, W64 (x0.Time - x0.Start)] : List Int)).length 6), (44, .int .i64 ((([x0.Kind, x0.Temp, p28, x0.Flags, x0.Start, W64 (x0.Time - x0.Start)] : List Int).length : Int))), (45, .int .i64 ((g.1)))]) (fun g w' => Hp Z0 No w w' [slR A1 c1 T_api_Pair.rep x0.Attrs, slR A3 c3 w64R x0.Hist.Pos.Counts, slR A5 c5 w64R x0.Hist.Neg.Counts, boxR b10 30 [Str (x0.Name), .slice A1 (x0.Attrs).length c1, .int .i64 (x0.Kind), .int .i64 (x0.Temp), .bool (x0.Mono), .int .i64 (x0.Start), .int .i64 (x0.Time), .int .i64 (x0.Int_), .int .u64 (((x0.Re).toNat : Nat) : Int), .int .u64 (((x0.Im).toNat : Nat) : Int), .int .i64 (x0.Hist.Scale), .int .u64 (((x0.Hist.Zero).toNat : Nat) : Int), .int .i64 (x0.Hist.Pos.Offset), .slice A3 (x0.Hist.Pos.Counts).length c3, .int .i64 (x0.Hist.Neg.Offset), .slice A5 (x0.Hist.Neg.Counts).length c5, .int .i64 (x0.Flags)], ownR 3 (some ⟨b30, 0, none⟩) 6 (intR .i64) ([x0.Kind, x0.Temp, p28, x0.Flags, x0.Start, W64 (x0.Time - x0.Start)] : List Int), T_pack_Writer.obj (g.2.2) b18_0 (g.2.1)]) (fun n g => m_point_Bytes_L1 x0 p28 j1 n g.1 g.2.1) fuel (0, p23, F23_p0) (Sub.cons rfl (Sub.cons rfl (Sub.cons rfl (Sub.cons rfl (Sub.cons rfl (Sub.nil _)))))) (hm31.pick [0, 1, 2, 3, 5, 4] rfl (by decide)) hM (fun _ => rfl) ?_
  clear hM
  rintro m81 ⟨y79, y80, F80⟩ w81 hm81 hM hn81
  replace hM : m_point_Bytes_L1 x0 p28 j1 (m81 + 1) y79 y80 = some r := hM
  rw [m_point_Bytes_L1] at hM
  refine gg 5 rfl ?_
  refine Rn.condD rfl (fun h82 => ?_) (fun h82 => ?_)
  ·replace hM := iteT h82 hM
   refine gg 5 rfl ?_
   obtain ⟨z83, e83, hM⟩ := bindE hM
   obtain ⟨kk83, ke83, kz83, kl83⟩ := idxE e83
   obtain ⟨vs83, hR83, hrel83⟩ := hm81.ownAtL 4 rfl kz83
   obtain ⟨rfl, _⟩ := hrel83
   refine Rn.q rfl (V.ixE kk83 Tryz.underlying55 Tryz.sizeOf3 rfl rfl ke83 kl83) (Rn.q rfl (V.ldR0 Tryz.isAgg3 rfl hR83 rfl) (gg 5 rfl (Rn.q rfl (V.cv64 Tryz.underlying3 Tryz.underlying23 rfl) ?_)))
   obtain ⟨p84, e84, hM⟩ := bindE hM
   have hm85 := (hm81.cut [0, 1, 2, 3, 4] [5] rfl (by decide)).nf ([_, _, _, _, _] ++ [_]) rfl
   refine Rn.cl ck22 rfl rfl rfl rfl (m_pack_Writer_Num_sim e84 hm85.lend :) ?_
   rintro _ w84 ⟨F84_p0, rfl, hq84⟩
   refine ⟨_, rfl, ?_⟩
   have hm87 := hm85.callAZ hq84
   refine gg 6 rfl ?_
   exact hn81 ((W64 (y79 + 1)), p84, F84_p0) _ _ (Sub.cons rfl (Sub.cons rfl (Sub.cons rfl (Sub.cons rfl (Sub.cons rfl (Sub.nil _)))))) (hm87.pick [0, 1, 2, 3, 4, 5] rfl (by decide)) hM
  ·replace hM := iteF h82 hM
   refine gg 1 rfl ?_
   exact hk1 (y80, F80) _ _ (Sub.cons rfl (Sub.cons rfl (Sub.nil _))) (hm81.pick [0, 1, 2, 3, 4, 5] rfl (by decide)) hM

theorem m_pack_NewReader_sim {Z0 : Nat → Prop} {w : World} {A0 : Option Addr} {c0 : Nat} {x0 : (List UInt8)} {r : T_pack_Reader} (hM : m_pack_NewReader x0 = some r) (f0 : (slR A0 c0 byteR x0).H Z0 w) :
    Calls Tryz.prog 35 #[.slice A0 (x0).length c0] w fun x w' => ∃ F_0 b_0, x = .returned (.pointer (some ⟨b_0, 0, none⟩)) ∧ Hp Z0 No w w' [T_pack_Reader.obj F_0 b_0 r] := by
 have hm0 := Hp.nil Z0 No w
 have hc0 := Calm.nil
 have hm2 := hm0.know (slR A0 c0 byteR x0) (fun _ h => h) (hm0.in0 hc0 f0)
 replace hc0 := hc0.snoc (r := slR A0 c0 byteR x0) (fun _ h => h)
 refine Rn.enter Tryz.func35 rfl rfl (Nat.le_of_ble_eq_true rfl) ?_
 refine gg 7 rfl ?_
 obtain ⟨p3, e3, hM⟩ := bindE hM
 refine Rn.cl ck52 rfl rfl rfl rfl (m_bytes_Clone_sim (Z0 := All) e3 (slR_all (hm2.get 0 rfl)) :) ?_
 rintro _ w3 ⟨A3_0_0, c3_0_0, rfl, hq3⟩
 refine ⟨_, rfl, ?_⟩
 have hm5 := hm2.callF (flC (ownR_flat byte_flat _ _ _ _) fl0) hq3
 refine Rn.q rfl (V.bldS (cs := [_, _, _]) st106 rfl rfl) (Rn.box rfl rfl rfl rfl rfl ?_)
 intro b6 w6 hb6 m6 e6
 have hm8 := (hm5.addBox hb6 e6 m6).nf [_, _, boxR _ _ [_, _, _]] rfl
 refine gg 2 rfl ?_
 have hm10 := hm8.freeze 1 rfl
 have hm11 := hm10.dup 1 rfl (fun _ h => h)
 have hm14 := (hm11.cut [0, 1] [2, 3] rfl (by decide)).nf ([_, _] ++ [_, _]) rfl
 obtain ⟨F13, hm13⟩ := hm14.fold (T_pack_Reader.sh b6 ({ b := p3, at_ := 0, e := 0 } : T_pack_Reader)) ⟨A3_0_0, c3_0_0, rfl⟩
 refine Rn.retG1 Tryz.func35 rfl (rvT rfl) ?_
 obtain rfl := someE hM
 exact ⟨F13, b6, rfl, hm13.pick [2] rfl (by decide)⟩

theorem m_pack_Reader_Left_sim {Z0 : Nat → Prop} {w : World} {F0 : Nat → Prop} {b0 : Nat} {x0 : T_pack_Reader} {r : Int} (hM : m_pack_Reader_Left x0 = some r) (f0 : (fzR (T_pack_Reader.obj F0 b0 x0)).H Z0 w) :
    Calls Tryz.prog 69 #[.pointer (some ⟨b0, 0, none⟩)] w fun x w' => x = .returned (.int .i64 (r)) ∧ Hp Z0 No w w' [] := by
 have hm0 := Hp.nil Z0 No w
 have hc0 := Calm.nil
 have hm2 := hm0.know (fzR (T_pack_Reader.obj F0 b0 x0)) (fun _ h => h) (hm0.in0 hc0 f0)
 replace hc0 := hc0.snoc (r := fzR (T_pack_Reader.obj F0 b0 x0)) (fun _ h => h)
 refine Rn.enter Tryz.func69 rfl rfl (Nat.le_of_ble_eq_true rfl) ?_
 refine gg 5 rfl ?_
 refine Rn.drawP rfl hm2 ?_
 intro w3 hm3
 refine dd [0, 1, 2] (by kernel_rfl) rfl rfl ?_
 obtain ⟨_, ⟨A4_0, c4_0, rfl⟩, hm4⟩ := hm3.unfz 0 rfl
 replace hm4 := hm4.nf [_, _, _] rfl
 have hm8 := hm4.fzS 2 rfl
 refine RH.takeP 3 (by kernel_rfl) rfl rfl rfl rfl (V.ldB Tryz.isAgg33 rfl (hm8.getz 1 rfl) rfl) ?_
 refine RH.takeP 4 (by kernel_rfl) rfl rfl rfl rfl (V.lenV Tryz.underlying33 rfl) ?_
 refine dd [5, 6, 7] (by kernel_rfl) rfl rfl ?_
 refine RH.takeP 8 (by kernel_rfl) rfl rfl rfl rfl (V.ldB Tryz.isAgg3 rfl (hm8.getz 1 rfl) rfl) ?_
 refine dd [9, 10] (by kernel_rfl) rfl rfl ?_
 refine RH.doneP (by kernel_rfl) ?_
 refine Rn.retG1 Tryz.func69 rfl (rvT rfl) ?_
 obtain rfl := someE hM
 exact ⟨rfl, hm8.pick [] rfl (by decide)⟩

theorem m_math_bits_Len8_sim {Z0 : Nat → Prop} {w : World} {x0 : UInt8} {r : Int} (hM : m_math_bits_Len8 x0 = some r)  :
    Calls Tryz.prog 93 #[.int .u8 (((x0).toNat : Nat) : Int)] w fun x w' => x = .returned (.int .i64 (r)) ∧ Hp Z0 No w w' [] := by
 have hm0 := Hp.nil Z0 No w
 have hc0 := Calm.nil
 refine Rn.enter Tryz.func93 rfl rfl (Nat.le_of_ble_eq_true rfl) ?_
 refine gg 7 rfl ?_
 obtain ⟨z1, e1, hM⟩ := bindE hM
 refine Rn.q rfl (V.idxSZ Tryz.underlying9 rfl rfl e1) (Rn.q rfl (V.cv8i (a := z1) Tryz.underlying5 Tryz.underlying3 rfl) (gg 2 rfl ?_))
 refine Rn.retG1 Tryz.func93 rfl (rvT rfl) ?_
 obtain rfl := someE hM
 exact ⟨rfl, hm0.pick [] rfl (by decide)⟩

theorem m_math_bits_LeadingZeros8_sim {Z0 : Nat → Prop} {w : World} {x0 : UInt8} {r : Int} (hM : m_math_bits_LeadingZeros8 x0 = some r)  :
    Calls Tryz.prog 85 #[.int .u8 (((x0).toNat : Nat) : Int)] w fun x w' => x = .returned (.int .i64 (r)) ∧ Hp Z0 No w w' [] := by
 have hm0 := Hp.nil Z0 No w
 have hc0 := Calm.nil
 refine Rn.enter Tryz.func85 rfl rfl (Nat.le_of_ble_eq_true rfl) ?_
 refine gg 7 rfl ?_
 obtain ⟨p1, e1, hM⟩ := bindE hM
 refine Rn.cl ck93 rfl rfl rfl rfl (m_math_bits_Len8_sim (Z0 := All) e1  :) ?_
 rintro _ w1 ⟨rfl, hq1⟩
 refine ⟨_, rfl, ?_⟩
 have hm2 := hm0.call0 hq1
 refine gg 3 rfl ?_
 refine Rn.retG1 Tryz.func85 rfl (rvT rfl) ?_
 obtain rfl := someE hM
 exact ⟨rfl, hm2.pick [] rfl (by decide)⟩

theorem m_pack_Reader_fail_sim {Z0 : Nat → Prop} {w : World} {F0 : Nat → Prop} {b0 : Nat} {x0 : T_pack_Reader} {x1 : Int} {r : T_pack_Reader} (hM : m_pack_Reader_fail x0 x1 = some r) (hL : Lent Z0 w [T_pack_Reader.obj F0 b0 x0]) :
    Calls Tryz.prog 64 #[.pointer (some ⟨b0, 0, none⟩), .int .i64 (x1)] w fun x w' => ∃ F_p0, x = .returned (.tuple #[]) ∧ Hp Z0 (LS [T_pack_Reader.obj F0 b0 x0]) w w' [T_pack_Reader.obj F_p0 b0 r] := by
 have hm0 := hL.start
 refine Rn.enter Tryz.func64 rfl rfl (Nat.le_of_ble_eq_true rfl) ?_
 refine gg 5 rfl ?_
 obtain ⟨_, ⟨A2_0, c2_0, rfl⟩, hm2⟩ := hm0.unf 0 rfl
 replace hm2 := hm2.nf [_, _] rfl
 refine Rn.q rfl (V.ldB Tryz.isAgg34 rfl (hm2.get 0 rfl) rfl) (gg 2 rfl ?_)
 refine Rn.condD rfl (fun h4 => ?_) (fun h4 => ?_)
 ·replace hM := iteT h4 hM
  refine gg 5 rfl (Rn.st rfl rfl Tryz.sizeOf34 rfl rfl rfl rfl (by first | exact ones rfl | (simp [Value.oneCell']; done)) (hm2.get 0 rfl) (by first | exact Nat.le_of_ble_eq_true rfl | (simp; done)) ?_)
  intro w5 m5 x5
  have hm6 := (hm2.st 0 rfl x5 m5).nf [boxR _ _ [_, _, _], _] rfl
  refine gg 1 rfl ?_
  have hm7 := hm6.dup 1 rfl (fun _ h => h)
  have hm10 := (hm7.cut [1] [0, 2] rfl (by decide)).nf ([_] ++ [_, _]) rfl
  obtain ⟨F9, hm9⟩ := hm10.fold (T_pack_Reader.sh b0 ({ b := x0.b, at_ := x0.at_, e := x1 } : T_pack_Reader)) ⟨A2_0, c2_0, rfl⟩
  refine Rn.end0 Tryz.func64 rfl ?_
  obtain rfl := someE hM
  exact ⟨F9, rfl, hm9.pick [1] rfl (by decide)⟩
 ·replace hM := iteF h4 hM
  refine gg 1 rfl ?_
  have hm11 := hm2.dup 1 rfl (fun _ h => h)
  have hm14 := (hm11.cut [1] [0, 2] rfl (by decide)).nf ([_] ++ [_, _]) rfl
  obtain ⟨F13, hm13⟩ := hm14.fold (T_pack_Reader.sh b0 x0) ⟨A2_0, c2_0, rfl⟩
  refine Rn.end0 Tryz.func64 rfl ?_
  obtain rfl := someE hM
  exact ⟨F13, rfl, hm13.pick [1] rfl (by decide)⟩

theorem m_pack_Reader_Num_sim {Z0 : Nat → Prop} {w : World} {F0 : Nat → Prop} {b0 : Nat} {x0 : T_pack_Reader} {r : (UInt64 × T_pack_Reader)} (hM : m_pack_Reader_Num x0 = some r) (hL : Lent Z0 w [T_pack_Reader.obj F0 b0 x0]) :
    Calls Tryz.prog 63 #[.pointer (some ⟨b0, 0, none⟩)] w fun x w' => ∃ F_p0, x = .returned (.int .u64 (((r.1).toNat : Nat) : Int)) ∧ Hp Z0 (LS [T_pack_Reader.obj F0 b0 x0]) w w' [T_pack_Reader.obj F_p0 b0 r.2] := by
 have hm0 := hL.start
 refine Rn.enter Tryz.func63 rfl rfl (Nat.le_of_ble_eq_true rfl) ?_
 refine gg 5 rfl ?_
 obtain ⟨j1, hj1, hM⟩ := jnE hM
 refine Rn.joinL (r := r) (G := (Nat → Prop)) 0 rfl (fun g => [(0, .pointer (some ⟨b0, 0, none⟩))]) (fun g w' => Hp Z0 (LS [T_pack_Reader.obj F0 b0 x0]) w w' [T_pack_Reader.obj g b0 x0]) (fun g => j1 ()) ?_ ?_
 ·subst hj1
  clear hM
  rintro F2 w3 hm3 hM
  try dsimp only at hM
  refine gg 3 rfl ?_
  obtain ⟨p4, e4, hM⟩ := bindE hM
  have hm5 := (hm3.cut [] [0] rfl (by decide)).nf ([] ++ [_]) rfl
  refine Rn.cl ck64 rfl rfl rfl rfl (m_pack_Reader_fail_sim e4 hm5.lend :) ?_
  rintro _ w4 ⟨F4_p0, rfl, hq4⟩
  refine ⟨_, rfl, ?_⟩
  have hm7 := hm5.callAZ hq4
  refine gg 5 rfl ?_
  refine Rn.retG1 Tryz.func63 rfl (rvT rfl) ?_
  obtain rfl := someE hM
  exact ⟨F4_p0, rfl, hm7.pick [0] rfl (by decide)⟩
 intro hk1
 clear hj1
 refine gg 14 rfl ?_
 obtain ⟨_, ⟨A8_0, c8_0, rfl⟩, hm8⟩ := hm0.unf 0 rfl
 replace hm8 := hm8.nf [_, _] rfl
 refine Rn.q rfl (V.ldB Tryz.isAgg34 rfl (hm8.get 0 rfl) rfl) (gg 2 rfl ?_)
 refine Rn.condD rfl (fun h10 => ?_) (fun h10 => ?_)
 ·replace hM := iteT h10 hM
  refine gg 4 rfl ?_
  have hm11 := hm8.dup 1 rfl (fun _ h => h)
  have hm14 := (hm11.cut [1] [0, 2] rfl (by decide)).nf ([_] ++ [_, _]) rfl
  obtain ⟨F13, hm13⟩ := hm14.fold (T_pack_Reader.sh b0 x0) ⟨A8_0, c8_0, rfl⟩
  refine Rn.retG1 Tryz.func63 rfl (rvT rfl) ?_
  obtain rfl := someE hM
  exact ⟨F13, rfl, hm13.pick [1] rfl (by decide)⟩
 ·replace hM := iteF h10 hM
  refine gg 5 rfl ?_
  have hm16 := hm8.dup 1 rfl (fun _ h => h)
  have hm19 := (hm16.cut [1] [0, 2] rfl (by decide)).nf ([_] ++ [_, _]) rfl
  obtain ⟨F18, hm18⟩ := hm19.fold (T_pack_Reader.sh b0 x0) ⟨A8_0, c8_0, rfl⟩
  obtain ⟨p15, e15, hM⟩ := bindE hM
  refine Rn.cl ck69 rfl rfl rfl rfl (m_pack_Reader_Left_sim (Z0 := All) e15 (fz_all (hm18.get 1 rfl)) :) ?_
  rintro _ w15 ⟨rfl, hq15⟩
  refine ⟨_, rfl, ?_⟩
  have hm20 := hm18.call0 hq15
  refine gg 2 rfl ?_
  refine Rn.condD rfl (fun h21 => ?_) (fun h21 => ?_)
  ·replace hM := iteT h21 hM
   refine gg 3 rfl ?_
   exact hk1 F18 _ _ (Sub.cons rfl (Sub.nil _)) (hm20.pick [1] rfl (by decide)) hM
  ·replace hM := iteF h21 hM
   refine gg 2 rfl ?_
   refine Rn.drawH rfl hm20 ?_
   intro w22 hm22
   refine dd [0, 1, 2] (by kernel_rfl) rfl rfl ?_
   obtain ⟨_, ⟨A23_0, c23_0, rfl⟩, hm23⟩ := hm22.unf 1 rfl
   replace hm23 := hm23.nf [_, _, _] rfl
   refine RH.take 3 (by kernel_rfl) rfl rfl rfl rfl (fun w' hDr => V.ldB Tryz.isAgg33 rfl ((hm23.ext hDr).get 1 rfl) rfl) ?_
   refine dd [4, 5, 6] (by kernel_rfl) rfl rfl ?_
   refine RH.here fun hS7 => RH.one 7 (by kernel_rfl) rfl rfl rfl rfl (V.ldB Tryz.isAgg3 rfl (hm23.get 1 rfl) rfl) hS7 ?_
   obtain ⟨z25, e25, hM⟩ := bindE hM
   obtain ⟨kk25, ke25, kz25, kl25⟩ := idxE e25
   obtain ⟨b25, o25, vs25, hA25, hD25, hR25, hrel25⟩ := Hp.at hm23 2 rfl kz25
   obtain ⟨rfl, _⟩ := hrel25
   have hm27 := Hp.knowL [rdR b25 (o25 + kk25 * 1) [.int .u8 (((z25).toNat : Nat) : Int)]] _ hm23 (knC (fun _ h => h) ⟨fun _ => hD25, hR25⟩ kn0)
   refine RH.here fun hS8 => RH.one 8 (by kernel_rfl) rfl rfl rfl rfl (V.ixA' hA25 kk25 Tryz.underlying33 Tryz.sizeOf5 rfl rfl ke25 kl25) hS8 ?_
   refine RH.here fun hS9 => RH.one 9 (by kernel_rfl) rfl rfl rfl rfl (V.ldR0 Tryz.isAgg5 rfl (hm27.get 3 rfl).2 rfl) hS9 ?_
   refine RH.here fun hS10 => RH.one 10 (by kernel_rfl) rfl rfl rfl rfl (V.com8 (a := z25) rfl) hS10 ?_
   obtain ⟨p28, e28, hM⟩ := bindE hM
   refine RH.cl ck85 11 (by kernel_rfl) rfl rfl rfl rfl (m_math_bits_LeadingZeros8_sim (Z0 := All) e28  :) ?_
   rintro _ w28 ⟨rfl, hq28⟩
   refine ⟨_, rfl, ((Ext.refl _).trans hq28.fr), ?_⟩
   have hm29 := hm27.call0 hq28
   refine dd [12] (by kernel_rfl) rfl rfl ?_
   refine RH.doneP (by kernel_rfl) ?_
   refine gg 5 rfl ?_
   have hm31 := hm29.dup 2 rfl (fun _ h => h)
   have hm34 := (hm31.cut [0, 2, 3] [1, 4] rfl (by decide)).nf ([_, _, _] ++ [_, _]) rfl
   obtain ⟨F33, hm33⟩ := hm34.fold (T_pack_Reader.sh b0 x0) ⟨A23_0, c23_0, rfl⟩
   obtain ⟨p30, e30, hM⟩ := bindE hM
   refine Rn.cl ck69 rfl rfl rfl rfl (m_pack_Reader_Left_sim (Z0 := All) e30 (fz_all (hm33.get 3 rfl)) :) ?_
   rintro _ w30 ⟨rfl, hq30⟩
   refine ⟨_, rfl, ?_⟩
   have hm35 := hm33.call0 hq30
   refine gg 2 rfl ?_
   refine Rn.condD rfl (fun h36 => ?_) (fun h36 => ?_)
   ·replace hM := iteT h36 hM
    refine gg 3 rfl ?_
    exact hk1 F33 _ _ (Sub.cons rfl (Sub.nil _)) (hm35.pick [3] rfl (by decide)) hM
   ·replace hM := iteF h36 hM
    refine gg 7 rfl ?_
    obtain ⟨j2, hj2, hM⟩ := jnE hM
    refine Rn.joinG (r := r) (G := UInt64 × (Nat → Prop)) (fun g => [(0, .pointer (some ⟨b0, 0, none⟩)), (3, .int .i64 (p28)), (4, .int .u64 ((((g.1)).toNat : Nat) : Int))]) (fun g w' => Hp Z0 (LS [T_pack_Reader.obj F0 b0 x0]) w w' [T_pack_Reader.obj (g.2) b0 x0]) (fun g => j2 g.1) ?_ ?_
    ·subst hj2
     clear hM
     rintro ⟨y38, F37⟩ w39 hm39 hM
     try dsimp only at hM
     refine gg 2 rfl ?_
     refine Rn.drawP rfl hm39 ?_
     intro w40 hm40
     refine dd [0, 1, 2] (by kernel_rfl) rfl rfl ?_
     obtain ⟨_, ⟨A41_0, c41_0, rfl⟩, hm41⟩ := hm40.unf 0 rfl
     replace hm41 := hm41.nf [_, _] rfl
     refine RH.takeP 3 (by kernel_rfl) rfl rfl rfl rfl (V.ldB Tryz.isAgg33 rfl (hm41.get 0 rfl) rfl) ?_
     refine dd [4, 5, 6] (by kernel_rfl) rfl rfl ?_
     refine RH.takeP 7 (by kernel_rfl) rfl rfl rfl rfl (V.ldB Tryz.isAgg3 rfl (hm41.get 0 rfl) rfl) ?_
     refine dd [8, 9, 10, 11] (by kernel_rfl) rfl rfl ?_
     refine RH.takeP 12 (by kernel_rfl) rfl rfl rfl rfl (V.ldB Tryz.isAgg3 rfl (hm41.get 0 rfl) rfl) ?_
     refine dd [13, 14, 15] (by kernel_rfl) rfl rfl ?_
     obtain ⟨z43, e43, hM⟩ := bindE hM
     refine RH.cutH 16 (by kernel_rfl) hm41 1 rfl e43 rfl rfl rfl Tryz.underlying33 Tryz.sizeOf5 rfl rfl rfl rfl rfl ?_
     intro A43 c43 hm43
     refine RH.takeP 17 (by kernel_rfl) rfl rfl rfl rfl (V.lenV Tryz.underlying33 rfl) ?_
     refine dd [18] (by kernel_rfl) rfl rfl ?_
     refine RH.doneP (by kernel_rfl) ?_
     have hm45 := hm43.dup 1 rfl (fun _ h => h)
     have hm48 := (hm45.cut [1, 2] [0, 3] rfl (by decide)).nf ([_, _] ++ [_, _]) rfl
     obtain ⟨F47, hm47⟩ := hm48.fold (T_pack_Reader.sh b0 x0) ⟨A41_0, c41_0, rfl⟩
     obtain ⟨j3, hj3, hM⟩ := jnE hM
     refine Rn.joinG (r := r) (G := UInt64 × (Nat → Prop)) (fun g => [(0, .pointer (some ⟨b0, 0, none⟩)), (3, .int .i64 (p28)), (4, .int .u64 ((((g.1)).toNat : Nat) : Int))]) (fun g w' => Hp Z0 (LS [T_pack_Reader.obj F0 b0 x0]) w w' [T_pack_Reader.obj (g.2) b0 x0]) (fun g => j3 g.1) ?_ ?_
     ·subst hj3
      clear hM
      rintro ⟨y50, F49⟩ w51 hm51 hM
      try dsimp only at hM
      refine gg 4 rfl ?_
      obtain ⟨p52, e52, hM⟩ := bindE hM
      refine Rn.cl ck50 rfl rfl rfl rfl (m_pack_others_sim (Z0 := All) e52  :) ?_
      rintro _ w52 ⟨rfl, hq52⟩
      refine ⟨_, rfl, ?_⟩
      have hm53 := hm51.call0 hq52
      refine gg 3 rfl ?_
      refine Rn.condD rfl (fun h54 => ?_) (fun h54 => ?_)
      ·replace hM := iteT h54 hM
       refine gg 3 rfl ?_
       obtain ⟨p55, e55, hM⟩ := bindE hM
       have hm56 := (hm53.cut [] [0] rfl (by decide)).nf ([] ++ [_]) rfl
       refine Rn.cl ck64 rfl rfl rfl rfl (m_pack_Reader_fail_sim e55 hm56.lend :) ?_
       rintro _ w55 ⟨F55_p0, rfl, hq55⟩
       refine ⟨_, rfl, ?_⟩
       have hm58 := hm56.callAZ hq55
       refine gg 5 rfl ?_
       refine Rn.retG1 Tryz.func63 rfl (rvT rfl) ?_
       obtain rfl := someE hM
       exact ⟨F55_p0, rfl, hm58.pick [0] rfl (by decide)⟩
      ·replace hM := iteF h54 hM
       refine gg 6 rfl ?_
       obtain ⟨_, ⟨A59_0, c59_0, rfl⟩, hm59⟩ := hm53.unf 0 rfl
       replace hm59 := hm59.nf [_, _] rfl
       refine Rn.q rfl (V.ldB Tryz.isAgg3 rfl (hm59.get 0 rfl) rfl) (gg 5 rfl (Rn.st rfl rfl Tryz.sizeOf3 rfl rfl rfl rfl (by first | exact ones rfl | (simp [Value.oneCell']; done)) (hm59.get 0 rfl) (by first | exact Nat.le_of_ble_eq_true rfl | (simp; done)) ?_))
       intro w61 m61 x61
       have hm62 := (hm59.st 0 rfl x61 m61).nf [boxR _ _ [_, _, _], _] rfl
       refine gg 7 rfl ?_
       have hm63 := hm62.dup 1 rfl (fun _ h => h)
       have hm66 := (hm63.cut [1] [0, 2] rfl (by decide)).nf ([_] ++ [_, _]) rfl
       obtain ⟨F65, hm65⟩ := hm66.fold (T_pack_Reader.sh b0 ({ b := x0.b, at_ := W64 (x0.at_ + (W64 (1 + p28))), e := x0.e } : T_pack_Reader)) ⟨A59_0, c59_0, rfl⟩
       refine Rn.retG1 Tryz.func63 rfl (rvT rfl) ?_
       obtain rfl := someE hM
       exact ⟨F65, rfl, hm65.pick [1] rfl (by decide)⟩
     intro hk3
     clear hj3
     refine gg 1 rfl ?_
     refine Rn.loopF (G := UInt64 × Int × (Nat → Prop)) (fun g => [(0, .pointer (some ⟨b0, 0, none⟩)), (3, .int .i64 (p28)), (4, .int .u64 ((((g.1)).toNat : Nat) : Int)), (64, .slice A43 (z43).length c43), (65, .int .i64 ((z43.length : Int))), (66, .int .i64 ((g.2.1)))]) (fun g w' => Hp Z0 (LS [T_pack_Reader.obj F0 b0 x0]) w w' [slR A43 c43 byteR z43, T_pack_Reader.obj (g.2.2) b0 x0]) (fun n g => m_pack_Reader_Num_L1 z43 j3 n g.1 g.2.1) fuel (y38, 0, F47) (Sub.cons rfl (Sub.cons rfl (Sub.cons rfl (Sub.cons rfl (Sub.cons rfl (Sub.cons rfl (Sub.nil _))))))) (hm47.pick [1, 2] rfl (by decide)) hM (fun _ => rfl) ?_
     clear hM
     rintro m70 ⟨y68, y69, F67⟩ w70 hm70 hM hn70
     replace hM : m_pack_Reader_Num_L1 z43 j3 (m70 + 1) y68 y69 = some r := hM
     rw [m_pack_Reader_Num_L1] at hM
     refine gg 5 rfl ?_
     refine Rn.condD rfl (fun h71 => ?_) (fun h71 => ?_)
     ·replace hM := iteT h71 hM
      refine gg 5 rfl ?_
      obtain ⟨z72, e72, hM⟩ := bindE hM
      refine Rn.ixH hm70 0 rfl e72 rfl rfl rfl Tryz.underlying33 Tryz.sizeOf5 rfl rfl rfl rfl ?_
      rintro b72 o72 vs72 ⟨rfl, _⟩ hm72
      refine Rn.q rfl (V.ldR0 Tryz.isAgg5 rfl (hm72.get 2 rfl).2 rfl) (gg 4 rfl (Rn.q rfl (V.sh64 rfl rfl _ 8 rfl rfl (b64_shl _ _ _ 8 (by decide))) (gg 1 rfl (Rn.q rfl (V.cv64 Tryz.underlying5 Tryz.underlying23 rfl) (Rn.q rfl (V.o64 rfl rfl (y68 <<< UInt64.ofNat 8) (toU64 ((z72).toNat : Int)) rfl rfl (b64_or _ _ _)) (gg 7 rfl ?_))))))
      exact hn70 (((y68 <<< UInt64.ofNat 8) ||| (toU64 ((z72).toNat : Int))), (W64 (y69 + 1)), F67) _ _ (Sub.cons rfl (Sub.cons rfl (Sub.cons rfl (Sub.cons rfl (Sub.cons rfl (Sub.cons rfl (Sub.nil _))))))) (hm72.pick [0, 1] rfl (by decide)) hM
     ·replace hM := iteF h71 hM
      refine gg 1 rfl ?_
      exact hk3 (y68, F67) _ _ (Sub.cons rfl (Sub.cons rfl (Sub.cons rfl (Sub.nil _)))) (hm70.pick [1] rfl (by decide)) hM
    intro hk2
    clear hj2
    refine Rn.condD rfl (fun h74 => ?_) (fun h74 => ?_)
    ·replace hM := iteT h74 hM
     refine Rn.drawP rfl hm35 ?_
     intro w75 hm75
     refine dd [0, 1, 2] (by kernel_rfl) rfl rfl ?_
     obtain ⟨_, ⟨A76_0, c76_0, rfl⟩, hm76⟩ := hm75.unf 3 rfl
     replace hm76 := hm76.nf [_, _, _, _, _] rfl
     refine RH.takeP 3 (by kernel_rfl) rfl rfl rfl rfl (V.ldB Tryz.isAgg33 rfl (hm76.get 3 rfl) rfl) ?_
     refine dd [4, 5, 6] (by kernel_rfl) rfl rfl ?_
     refine RH.takeP 7 (by kernel_rfl) rfl rfl rfl rfl (V.ldB Tryz.isAgg3 rfl (hm76.get 3 rfl) rfl) ?_
     obtain ⟨z78, e78, hM⟩ := bindE hM
     obtain ⟨kk78, ke78, kz78, kl78⟩ := idxE e78
     obtain ⟨b78, o78, vs78, hA78, hD78, hR78, hrel78⟩ := Hp.at hm76 4 rfl kz78
     obtain ⟨rfl, _⟩ := hrel78
     have hm80 := Hp.knowL [rdR b78 (o78 + kk78 * 1) [.int .u8 (((z78).toNat : Nat) : Int)]] _ hm76 (knC (fun _ h => h) ⟨fun _ => hD78, hR78⟩ kn0)
     refine RH.takeP 8 (by kernel_rfl) rfl rfl rfl rfl (V.ixA' hA78 kk78 Tryz.underlying33 Tryz.sizeOf5 rfl rfl ke78 kl78) ?_
     refine RH.takeP 9 (by kernel_rfl) rfl rfl rfl rfl (V.ldR0 Tryz.isAgg5 rfl (hm80.get 5 rfl).2 rfl) ?_
     refine dd [10] (by kernel_rfl) rfl rfl ?_
     refine RH.takeP 11 (by kernel_rfl) rfl rfl rfl rfl (V.cv64 Tryz.underlying3 Tryz.underlying92 rfl) ?_
     refine RH.takeP 12 (by kernel_rfl) rfl rfl rfl rfl (V.shr8 (a := (127 : UInt8)) (m := (toU64 p28).toNat) rfl rfl) ?_
     refine RH.takeP 13 (by kernel_rfl) rfl rfl rfl rfl (V.and8 (a := z78) (b := shr8 (127 : UInt8) ((toU64 p28).toNat)) rfl rfl) ?_
     refine RH.takeP 14 (by kernel_rfl) rfl rfl rfl rfl (V.cv64 Tryz.underlying5 Tryz.underlying23 rfl) ?_
     refine dd [15] (by kernel_rfl) rfl rfl ?_
     refine RH.doneP (by kernel_rfl) ?_
     have hm81 := hm80.dup 4 rfl (fun _ h => h)
     have hm84 := (hm81.cut [0, 1, 2, 4, 5] [3, 6] rfl (by decide)).nf ([_, _, _, _, _] ++ [_, _]) rfl
     obtain ⟨F83, hm83⟩ := hm84.fold (T_pack_Reader.sh b0 x0) ⟨A76_0, c76_0, rfl⟩
     exact hk2 ((toU64 ((z78 &&& (shr8 (127 : UInt8) ((toU64 p28).toNat))).toNat : Int)), F83) _ _ (Sub.cons rfl (Sub.cons rfl (Sub.cons rfl (Sub.nil _)))) (hm83.pick [5] rfl (by decide)) hM
    ·replace hM := iteF h74 hM
     refine gg 1 rfl ?_
     exact hk2 ((0 : UInt64), F33) _ _ (Sub.cons rfl (Sub.cons rfl (Sub.cons rfl (Sub.nil _)))) (hm35.pick [3] rfl (by decide)) hM

theorem m_pack_Reader_Count_sim {Z0 : Nat → Prop} {w : World} {F0 : Nat → Prop} {b0 : Nat} {x0 : T_pack_Reader} {x1 : Int} {r : (Int × T_pack_Reader)} (hM : m_pack_Reader_Count x0 x1 = some r) (hL : Lent Z0 w [T_pack_Reader.obj F0 b0 x0]) :
    Calls Tryz.prog 37 #[.pointer (some ⟨b0, 0, none⟩), .int .i64 (x1)] w fun x w' => ∃ F_p0, x = .returned (.int .i64 (r.1)) ∧ Hp Z0 (LS [T_pack_Reader.obj F0 b0 x0]) w w' [T_pack_Reader.obj F_p0 b0 r.2] := by
 have hm0 := hL.start
 refine Rn.enter Tryz.func37 rfl rfl (Nat.le_of_ble_eq_true rfl) ?_
 refine gg 9 rfl ?_
 obtain ⟨_, ⟨A2_0, c2_0, rfl⟩, hm2⟩ := hm0.unf 0 rfl
 replace hm2 := hm2.nf [_, _] rfl
 refine Rn.q rfl (V.ldB Tryz.isAgg3 rfl (hm2.get 0 rfl) rfl) (gg 5 rfl ?_)
 have hm5 := hm2.dup 1 rfl (fun _ h => h)
 have hm8 := (hm5.cut [1] [0, 2] rfl (by decide)).nf ([_] ++ [_, _]) rfl
 obtain ⟨F7, hm7⟩ := hm8.fold (T_pack_Reader.sh b0 x0) ⟨A2_0, c2_0, rfl⟩
 obtain ⟨p4, e4, hM⟩ := bindE hM
 have hm9 := (hm7.cut [0] [1] rfl (by decide)).nf ([_] ++ [_]) rfl
 refine Rn.cl ck63 rfl rfl rfl rfl (m_pack_Reader_Num_sim e4 hm9.lend :) ?_
 rintro _ w4 ⟨F4_p0, rfl, hq4⟩
 refine ⟨_, rfl, ?_⟩
 have hm11 := hm9.callAZ hq4
 refine gg 8 rfl ?_
 obtain ⟨_, ⟨A12_0, c12_0, rfl⟩, hm12⟩ := hm11.unf 1 rfl
 replace hm12 := hm12.nf [_, _, _] rfl
 refine Rn.q rfl (V.ldB Tryz.isAgg34 rfl (hm12.get 1 rfl) rfl) (gg 2 rfl ?_)
 refine Rn.cutR [] [(0, .pointer (some ⟨b0, 0, none⟩)), (5, .int .i64 (x0.at_)), (6, .int .u64 (((p4.1).toNat : Nat) : Int)), (27, .bool (decide ((p4.2.e = 0) ∧ ((x1 < 0) ∨ (((p4.1).toNat : Int) > ((toU64 x1).toNat : Int))))))] (fun hk14 => ?_) ?_
 ·refine Rn.partD (t := 18) rfl (fun h15 => ?_) (fun h15 => ?_)
  ·refine gg 3 rfl ?_
   refine Rn.cutR [14] [(0, .pointer (some ⟨b0, 0, none⟩)), (5, .int .i64 (x0.at_)), (6, .int .u64 (((p4.1).toNat : Nat) : Int)), (18, .bool true), (26, .bool (decide ((x1 < 0) ∨ (((p4.1).toNat : Int) > ((toU64 x1).toNat : Int)))))] (fun hk16 => ?_) ?_
   ·refine Rn.partD (t := 21) rfl (fun h17 => ?_) (fun h17 => ?_)
    ·refine gg 5 rfl ?_
     refine hk16 _ ?_
     exact Sub.cons rfl (Sub.cons rfl (Sub.cons rfl (Sub.cons rfl (Sub.cons (lkv _ rfl (by first | exact andT h17 | exact andF h17 | exact orT h17 | exact orF h17 | exact nandF h17 | exact nandT h17 | exact norT h17 | exact norF h17 | (simp [h17]; done) | grind)) (Sub.nil _)))))
    ·refine gg 2 rfl (Rn.q rfl (V.cv64 Tryz.underlying3 Tryz.underlying23 rfl) (Rn.q rfl (V.gtr rfl rfl) (gg 1 rfl ?_)))
     refine hk16 _ ?_
     exact Sub.cons rfl (Sub.cons rfl (Sub.cons rfl (Sub.cons rfl (Sub.cons (lkv _ rfl (by first | exact andT h17 | exact andF h17 | exact orT h17 | exact orF h17 | exact nandF h17 | exact nandT h17 | exact norT h17 | exact norF h17 | (simp [h17]; done) | grind)) (Sub.nil _)))))
   refine gg 1 rfl ?_
   refine hk14 _ ?_
   exact Sub.cons rfl (Sub.cons rfl (Sub.cons rfl (Sub.cons (lkv _ rfl (by first | exact andT h15 | exact andF h15 | exact orT h15 | exact orF h15 | exact nandF h15 | exact nandT h15 | exact norT h15 | exact norF h15 | (simp [h15]; done) | grind)) (Sub.nil _))))
  ·refine gg 9 rfl ?_
   refine hk14 _ ?_
   exact Sub.cons rfl (Sub.cons rfl (Sub.cons rfl (Sub.cons (lkv _ rfl (by first | exact andT h15 | exact andF h15 | exact orT h15 | exact orF h15 | exact nandF h15 | exact nandT h15 | exact norT h15 | exact norF h15 | (simp [h15]; done) | grind)) (Sub.nil _))))
 refine gg 1 rfl ?_
 refine Rn.condD rfl (fun h18 => ?_) (fun h18 => ?_)
 ·replace hM := iteT h18 hM
  refine gg 6 rfl (Rn.st rfl rfl Tryz.sizeOf3 rfl rfl rfl rfl (by first | exact ones rfl | (simp [Value.oneCell']; done)) (hm12.get 1 rfl) (by first | exact Nat.le_of_ble_eq_true rfl | (simp; done)) ?_)
  intro w19 m19 x19
  have hm20 := (hm12.st 1 rfl x19 m19).nf [_, boxR _ _ [_, _, _], _] rfl
  refine gg 4 rfl ?_
  have hm22 := hm20.dup 2 rfl (fun _ h => h)
  have hm25 := (hm22.cut [0, 2] [1, 3] rfl (by decide)).nf ([_, _] ++ [_, _]) rfl
  obtain ⟨F24, hm24⟩ := hm25.fold (T_pack_Reader.sh b0 ({ b := p4.2.b, at_ := x0.at_, e := p4.2.e } : T_pack_Reader)) ⟨A12_0, c12_0, rfl⟩
  obtain ⟨p21, e21, hM⟩ := bindE hM
  have hm26 := (hm24.cut [0, 1] [2] rfl (by decide)).nf ([_, _] ++ [_]) rfl
  refine Rn.cl ck64 rfl rfl rfl rfl (m_pack_Reader_fail_sim e21 hm26.lend :) ?_
  rintro _ w21 ⟨F21_p0, rfl, hq21⟩
  refine ⟨_, rfl, ?_⟩
  have hm28 := hm26.callAZ hq21
  refine gg 5 rfl ?_
  refine Rn.retG1 Tryz.func37 rfl (rvT rfl) ?_
  obtain rfl := someE hM
  exact ⟨F21_p0, rfl, hm28.pick [2] rfl (by decide)⟩
 ·replace hM := iteF h18 hM
  refine gg 4 rfl (Rn.q rfl (V.cvW Tryz.underlying23 Tryz.underlying3 rfl) (gg 2 rfl ?_))
  have hm29 := hm12.dup 2 rfl (fun _ h => h)
  have hm32 := (hm29.cut [0, 2] [1, 3] rfl (by decide)).nf ([_, _] ++ [_, _]) rfl
  obtain ⟨F31, hm31⟩ := hm32.fold (T_pack_Reader.sh b0 p4.2) ⟨A12_0, c12_0, rfl⟩
  refine Rn.retG1 Tryz.func37 rfl (rvT rfl) ?_
  obtain rfl := someE hM
  exact ⟨F31, rfl, hm31.pick [2] rfl (by decide)⟩

theorem m_pack_Reader_Raw_sim {Z0 : Nat → Prop} {w : World} {F0 : Nat → Prop} {b0 : Nat} {x0 : T_pack_Reader} {x1 : Int} {r : ((List UInt8) × T_pack_Reader)} (hM : m_pack_Reader_Raw x0 x1 = some r) (hL : Lent Z0 w [T_pack_Reader.obj F0 b0 x0]) :
    Calls Tryz.prog 62 #[.pointer (some ⟨b0, 0, none⟩), .int .i64 (x1)] w fun x w' => ∃ A_0_0 c_0_0 F_p0, x = .returned (.slice A_0_0 (r.1).length c_0_0) ∧ Hp Z0 (LS [T_pack_Reader.obj F0 b0 x0]) w w' [ownR 5 A_0_0 c_0_0 byteR r.1, T_pack_Reader.obj F_p0 b0 r.2] := by
 have hm0 := hL.start
 refine Rn.enter Tryz.func62 rfl rfl (Nat.le_of_ble_eq_true rfl) ?_
 refine gg 11 rfl ?_
 obtain ⟨_, ⟨A2_0, c2_0, rfl⟩, hm2⟩ := hm0.unf 0 rfl
 replace hm2 := hm2.nf [_, _] rfl
 refine Rn.q rfl (V.ldB Tryz.isAgg34 rfl (hm2.get 0 rfl) rfl) (gg 3 rfl ?_)
 refine Rn.condD rfl (fun h4 => ?_) (fun h4 => ?_)
 ·replace hM := iteT h4 hM
  refine gg 4 rfl ?_
  have hm5 := hm2.addNil 5 byteR
  have hm7 := hm5.dup 1 rfl (fun _ h => h)
  have hm10 := (hm7.cut [1, 2] [0, 3] rfl (by decide)).nf ([_, _] ++ [_, _]) rfl
  obtain ⟨F9, hm9⟩ := hm10.fold (T_pack_Reader.sh b0 x0) ⟨A2_0, c2_0, rfl⟩
  refine Rn.retG1 Tryz.func62 rfl (rvT rfl) ?_
  obtain rfl := someE hM
  exact ⟨none, 0, F9, rfl, hm9.pick [1, 2] rfl (by decide)⟩
 ·replace hM := iteF h4 hM
  refine gg 6 rfl ?_
  refine Rn.condD rfl (fun h11 => ?_) (fun h11 => ?_)
  ·replace hM := iteT h11 hM
   refine gg 3 rfl ?_
   have hm13 := hm2.dup 1 rfl (fun _ h => h)
   have hm16 := (hm13.cut [1] [0, 2] rfl (by decide)).nf ([_] ++ [_, _]) rfl
   obtain ⟨F15, hm15⟩ := hm16.fold (T_pack_Reader.sh b0 x0) ⟨A2_0, c2_0, rfl⟩
   obtain ⟨p12, e12, hM⟩ := bindE hM
   have hm17 := (hm15.cut [0] [1] rfl (by decide)).nf ([_] ++ [_]) rfl
   refine Rn.cl ck64 rfl rfl rfl rfl (m_pack_Reader_fail_sim e12 hm17.lend :) ?_
   rintro _ w12 ⟨F12_p0, rfl, hq12⟩
   refine ⟨_, rfl, ?_⟩
   have hm19 := hm17.callAZ hq12
   refine gg 5 rfl ?_
   have hm20 := hm19.addNil 5 byteR
   refine Rn.retG1 Tryz.func62 rfl (rvT rfl) ?_
   obtain rfl := someE hM
   exact ⟨none, 0, F12_p0, rfl, hm20.pick [2, 1] rfl (by decide)⟩
  ·replace hM := iteF h11 hM
   refine gg 4 rfl ?_
   have hm23 := hm2.dup 1 rfl (fun _ h => h)
   have hm26 := (hm23.cut [1] [0, 2] rfl (by decide)).nf ([_] ++ [_, _]) rfl
   obtain ⟨F25, hm25⟩ := hm26.fold (T_pack_Reader.sh b0 x0) ⟨A2_0, c2_0, rfl⟩
   obtain ⟨p22, e22, hM⟩ := bindE hM
   refine Rn.cl ck69 rfl rfl rfl rfl (m_pack_Reader_Left_sim (Z0 := All) e22 (fz_all (hm25.get 1 rfl)) :) ?_
   rintro _ w22 ⟨rfl, hq22⟩
   refine ⟨_, rfl, ?_⟩
   have hm27 := hm25.call0 hq22
   refine gg 3 rfl ?_
   refine Rn.condD rfl (fun h28 => ?_) (fun h28 => ?_)
   ·replace hM := iteT h28 hM
    refine gg 3 rfl ?_
    obtain ⟨p29, e29, hM⟩ := bindE hM
    have hm30 := (hm27.cut [0] [1] rfl (by decide)).nf ([_] ++ [_]) rfl
    refine Rn.cl ck64 rfl rfl rfl rfl (m_pack_Reader_fail_sim e29 hm30.lend :) ?_
    rintro _ w29 ⟨F29_p0, rfl, hq29⟩
    refine ⟨_, rfl, ?_⟩
    have hm32 := hm30.callAZ hq29
    refine gg 5 rfl ?_
    have hm33 := hm32.addNil 5 byteR
    refine Rn.retG1 Tryz.func62 rfl (rvT rfl) ?_
    obtain rfl := someE hM
    exact ⟨none, 0, F29_p0, rfl, hm33.pick [2, 1] rfl (by decide)⟩
   ·replace hM := iteF h28 hM
    refine gg 7 rfl ?_
    obtain ⟨_, ⟨A35_0, c35_0, rfl⟩, hm35⟩ := hm27.unf 1 rfl
    replace hm35 := hm35.nf [_, _, _] rfl
    refine Rn.q rfl (V.ldB Tryz.isAgg3 rfl (hm35.get 1 rfl) rfl) (gg 4 rfl (Rn.st rfl rfl Tryz.sizeOf3 rfl rfl rfl rfl (by first | exact ones rfl | (simp [Value.oneCell']; done)) (hm35.get 1 rfl) (by first | exact Nat.le_of_ble_eq_true rfl | (simp; done)) ?_))
    intro w37 m37 x37
    have hm38 := (hm35.st 1 rfl x37 m37).nf [_, boxR _ _ [_, _, _], _] rfl
    refine gg 2 rfl ?_
    refine Rn.drawH rfl hm38 ?_
    intro w39 hm39
    refine dd [0, 1, 2] (by kernel_rfl) rfl rfl ?_
    refine RH.take 3 (by kernel_rfl) rfl rfl rfl rfl (fun w' hDr => V.ldB Tryz.isAgg33 rfl ((hm39.ext hDr).get 1 rfl) rfl) ?_
    refine dd [4, 5, 6] (by kernel_rfl) rfl rfl ?_
    refine RH.take 7 (by kernel_rfl) rfl rfl rfl rfl (fun w' hDr => V.ldB Tryz.isAgg3 rfl ((hm39.ext hDr).get 1 rfl) rfl) ?_
    refine dd [8, 9, 10, 11, 12] (by kernel_rfl) rfl rfl ?_
    refine RH.here fun hS13 => RH.one 13 (by kernel_rfl) rfl rfl rfl rfl (V.ldB Tryz.isAgg3 rfl (hm39.get 1 rfl) rfl) hS13 ?_
    obtain ⟨z40, e40, hM⟩ := bindE hM
    refine RH.cutH 14 (by kernel_rfl) hm39 2 rfl e40 rfl rfl rfl Tryz.underlying33 Tryz.sizeOf5 rfl rfl rfl rfl rfl ?_
    intro A40 c40 hm40
    obtain ⟨p42, e42, hM⟩ := bindE hM
    refine RH.cl ck52 15 (by kernel_rfl) rfl rfl rfl rfl (m_bytes_Clone_sim (Z0 := All) e42 (slR_all (hm40.get 3 rfl)) :) ?_
    rintro _ w42 ⟨A42_0_0, c42_0_0, rfl, hq42⟩
    refine ⟨_, rfl, ((Ext.refl _).trans hq42.fr), ?_⟩
    have hm44 := hm40.callF (flC (ownR_flat byte_flat _ _ _ _) fl0) hq42
    refine dd [16] (by kernel_rfl) rfl rfl ?_
    refine RH.doneP (by kernel_rfl) ?_
    have hm45 := hm44.dup 2 rfl (fun _ h => h)
    have hm48 := (hm45.cut [0, 2, 3, 4] [1, 5] rfl (by decide)).nf ([_, _, _, _] ++ [_, _]) rfl
    obtain ⟨F47, hm47⟩ := hm48.fold (T_pack_Reader.sh b0 ({ b := x0.b, at_ := W64 (x0.at_ + x1), e := x0.e } : T_pack_Reader)) ⟨A35_0, c35_0, rfl⟩
    refine Rn.retG1 Tryz.func62 rfl (rvT rfl) ?_
    obtain rfl := someE hM
    exact ⟨A42_0_0, c42_0_0, F47, rfl, hm47.pick [3, 4] rfl (by decide)⟩

end Go.Proofs.YtfcpdojcfogkbaaGreat
