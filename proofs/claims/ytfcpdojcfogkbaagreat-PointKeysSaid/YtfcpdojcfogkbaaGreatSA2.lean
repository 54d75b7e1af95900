/-
  The calls of functions of the program answer as their plain forms say, part 2. Printed by a program.
-/
import Derived.Test.YtfcpdojcfogkbaaGreatRows
import Derived.Test.YtfcpdojcfogkbaaGreatSA1
set_option maxRecDepth 20000
set_option maxHeartbeats 4000000
set_option linter.unusedVariables false
set_option linter.unusedSimpArgs false
namespace Go.Proofs.YtfcpdojcfogkbaaGreat
open Go Go.RowKit Go.Wk
theorem m_hist_Total_sim {Z0 : Nat → Prop} {w : World} {x0 : T_api_Hist} {cs0 : List Value} {r : (UInt64 × Bool)} (hM : m_hist_Total x0 = some r) (h0 : T_api_Hist.rep.rel Z0 w cs0 x0) :
    Calls Tryz.prog 61 #[.agg cs0.toArray] w fun x w' => x = .returned (.tuple #[.int .u64 (((r.1).toNat : Nat) : Int), .bool (r.2)]) ∧ Hp Z0 No w w' [] := by
 have hm0 := Hp.nil Z0 No w
 have hc0 := Calm.nil
 obtain ⟨_, _, rfl, ⟨rfl, _⟩, ⟨_, _, rfl, ⟨rfl, _⟩, ⟨_, _, rfl, ⟨_, _, rfl, ⟨rfl, _⟩, ⟨A1, c1, rfl, p1, q1, s1⟩⟩, ⟨_, _, rfl, ⟨rfl, _⟩, ⟨A3, c3, rfl, p3, q3, s3⟩⟩⟩⟩⟩ := h0
 have hm5 := hm0.know (slR A1 c1 w64R x0.Pos.Counts) (fun _ h => h) (hm0.in0 hc0 ⟨p1, q1, s1⟩)
 replace hc0 := hc0.snoc (r := slR A1 c1 w64R x0.Pos.Counts) (fun _ h => h)
 have hm6 := hm5.know (slR A3 c3 w64R x0.Neg.Counts) (fun _ h => h) (hm5.in0 hc0 ⟨p3, q3, s3⟩)
 replace hc0 := hc0.snoc (r := slR A3 c3 w64R x0.Neg.Counts) (fun _ h => h)
 refine Rn.enter Tryz.func61 rfl rfl (Nat.le_of_ble_eq_true rfl) ?_
 refine gg 2 rfl (Rn.box rfl rfl rfl rfl rfl ?_)
 intro b7 w7 hb7 m7 e7
 have hm9 := (hm6.addBox hb7 e7 m7).nf [_, _, boxR _ _ [_, _, _, _, _, _]] rfl
 refine gg 6 rfl (Rn.q rfl (V.ldB Tryz.isAgg23 rfl (hm9.get 2 rfl) rfl) (gg 6 rfl (Rn.q rfl (V.ldBA [_, _, _, _, _, _] Tryz.isAgg28 Tryz.sizeOf28 rfl (hm9.get 2 rfl) rfl rfl) ?_)))
 obtain ⟨p10, e10, hM⟩ := bindE hM
 refine Rn.cl ck59 rfl rfl rfl rfl (m_hist_sides_sim (Z0 := hm9.Z) e10 (show T_api_Hist.rep.rel _ _ _ _ from ⟨_, _, rfl, ⟨rfl, trivial⟩, ⟨_, _, rfl, ⟨rfl, trivial⟩, ⟨_, _, rfl, ⟨_, _, rfl, ⟨rfl, trivial⟩, ⟨_, _, rfl, (hm9.get 0 rfl).1, (hm9.get 0 rfl).2.1, (hm9.get 0 rfl).2.2⟩⟩, ⟨_, _, rfl, ⟨rfl, trivial⟩, ⟨_, _, rfl, (hm9.get 1 rfl).1, (hm9.get 1 rfl).2.1, (hm9.get 1 rfl).2.2⟩⟩⟩⟩⟩) :) ?_
 rintro _ w10 ⟨A10_0_0, c10_0_0, A10_0_1, c10_0_1, rfl, hq10⟩
 refine ⟨_, rfl, ?_⟩
 have hm13 := hm9.callZ hq10
 refine gg 2 rfl ?_
 obtain ⟨j1, hj1, hM⟩ := jnE hM
 refine Rn.joinG (r := r) (G := UInt64 × UInt64) (fun g => [(4, .int .u64 ((((g.1)).toNat : Nat) : Int)), (5, .int .u64 ((((g.2)).toNat : Nat) : Int))]) (fun g w' => Hp Z0 No w w' [slR A1 c1 w64R x0.Pos.Counts, slR A3 c3 w64R x0.Neg.Counts, boxR b7 28 [.int .i64 (x0.Scale), .int .u64 (((x0.Zero).toNat : Nat) : Int), .int .i64 (x0.Pos.Offset), .slice A1 (x0.Pos.Counts).length c1, .int .i64 (x0.Neg.Offset), .slice A3 (x0.Neg.Counts).length c3]]) (fun g => j1 g.1 g.2) ?_ ?_
 ·subst hj1
  clear hM
  rintro ⟨y14, y15⟩ w16 hm16 hM
  try dsimp only at hM
  refine gg 4 rfl (Rn.q rfl (V.neq rfl rfl) (gg 1 rfl ?_))
  refine Rn.condD rfl (fun h17 => ?_) (fun h17 => ?_)
  ·replace hM := iteT h17 hM
   refine gg 5 rfl ?_
   refine Rn.retG2 Tryz.func61 rfl (rvT rfl) (rvT rfl) ?_
   obtain rfl := someE hM
   exact ⟨rfl, hm16.pick [] rfl (by decide)⟩
  ·replace hM := iteF h17 hM
   refine gg 7 rfl ?_
   refine Rn.retG2 Tryz.func61 rfl (rvT rfl) (rvT rfl) ?_
   obtain rfl := someE hM
   exact ⟨rfl, hm16.pick [] rfl (by decide)⟩
 intro hk1
 clear hj1
 refine gg 1 rfl ?_
 refine Rn.loopF (G := UInt64 × UInt64 × Int) (fun g => [(4, .int .u64 ((((g.1)).toNat : Nat) : Int)), (5, .int .u64 ((((g.2.1)).toNat : Nat) : Int)), (14, .agg [.int .i64 (p10.a0.Offset), .slice A10_0_0 (p10.a0.Counts).length c10_0_0, .int .i64 (p10.a1.Offset), .slice A10_0_1 (p10.a1.Counts).length c10_0_1].toArray), (15, .int .i64 ((g.2.2)))]) (fun g w' => Hp Z0 No w w' [slR A1 c1 w64R x0.Pos.Counts, slR A3 c3 w64R x0.Neg.Counts, boxR b7 28 [.int .i64 (x0.Scale), .int .u64 (((x0.Zero).toNat : Nat) : Int), .int .i64 (x0.Pos.Offset), .slice A1 (x0.Pos.Counts).length c1, .int .i64 (x0.Neg.Offset), .slice A3 (x0.Neg.Counts).length c3], slR A10_0_0 c10_0_0 w64R p10.a0.Counts, slR A10_0_1 c10_0_1 w64R p10.a1.Counts]) (fun n g => m_hist_Total_L1 p10 j1 n g.1 g.2.1 g.2.2) fuel (x0.Zero, (0 : UInt64), 0) (Sub.cons rfl (Sub.cons rfl (Sub.cons rfl (Sub.cons rfl (Sub.nil _))))) (hm13.pick [0, 1, 2, 3, 4] rfl (by decide)) hM (fun _ => rfl) ?_
 clear hM
 rintro m21 ⟨y18, y19, y20⟩ w21 hm21 hM hn21
 replace hM : m_hist_Total_L1 p10 j1 (m21 + 1) y18 y19 y20 = some r := hM
 rw [m_hist_Total_L1] at hM
 refine gg 5 rfl ?_
 refine Rn.condD rfl (fun h22 => ?_) (fun h22 => ?_)
 ·replace hM := iteT h22 hM
  refine gg 5 rfl ?_
  obtain ⟨z23, e23, hM⟩ := bindE hM
  obtain ⟨A24, c24, hm24, hq24⟩ := Hp.idx2 (fun x : T_api_Side => x.Counts) e23 hm21 3 4 rfl rfl
  refine Rn.q rfl (V.arE (v := .agg [.int .i64 (z23.Offset), .slice A24 (z23.Counts).length c24].toArray) ar100 Tryz.isAgg26 rfl rfl (idx_bd e23 rfl) (by rcases hq24 with ⟨g1, g2, g3, g4⟩ | ⟨g1, g2, g3, g4⟩ <;> first | (simp only [g1, g2, g3, g4]; rfl) | (exfalso; omega))) (Rn.als rfl rfl rfl Tryz.zeroValue26 rfl Tryz.sizeOf26 rfl rfl rfl rfl (by first | exact ones rfl | (simp [Value.oneCell']; done)) ?_)
  intro b26 w26 hb26 m26 e26
  have hm28 := (hm24.addBox hb26 e26 m26).nf [_, _, _, _, _, _, boxR _ _ [_, _]] rfl
  refine gg 4 rfl (Rn.q rfl (V.ldB Tryz.isAgg24 rfl (hm28.get 6 rfl) rfl) (Rn.q rfl (V.lenV Tryz.underlying24 rfl) (gg 2 rfl ?_)))
  obtain ⟨j2, hj2, hM⟩ := jnE hM
  refine Rn.joinG (r := r) (G := UInt64 × UInt64) (fun g => [(4, .int .u64 ((((g.1)).toNat : Nat) : Int)), (5, .int .u64 ((((g.2)).toNat : Nat) : Int)), (14, .agg [.int .i64 (p10.a0.Offset), .slice A10_0_0 (p10.a0.Counts).length c10_0_0, .int .i64 (p10.a1.Offset), .slice A10_0_1 (p10.a1.Counts).length c10_0_1].toArray), (15, .int .i64 (y20))]) (fun g w' => Hp Z0 No w w' [slR A1 c1 w64R x0.Pos.Counts, slR A3 c3 w64R x0.Neg.Counts, boxR b7 28 [.int .i64 (x0.Scale), .int .u64 (((x0.Zero).toNat : Nat) : Int), .int .i64 (x0.Pos.Offset), .slice A1 (x0.Pos.Counts).length c1, .int .i64 (x0.Neg.Offset), .slice A3 (x0.Neg.Counts).length c3], slR A10_0_0 c10_0_0 w64R p10.a0.Counts, slR A10_0_1 c10_0_1 w64R p10.a1.Counts, slR A24 c24 w64R z23.Counts, boxR b26 26 [.int .i64 (z23.Offset), .slice A24 (z23.Counts).length c24]]) (fun g => j2 g.1 g.2) ?_ ?_
  ·subst hj2
   clear hM
   rintro ⟨y29, y30⟩ w31 hm31 hM
   try dsimp only at hM
   refine gg 5 rfl ?_
   exact hn21 (y29, y30, (W64 (y20 + 1))) _ _ (Sub.cons rfl (Sub.cons rfl (Sub.cons rfl (Sub.cons rfl (Sub.nil _))))) (hm31.pick [0, 1, 2, 3, 4] rfl (by decide)) hM
  intro hk2
  clear hj2
  refine gg 1 rfl ?_
  refine Rn.loopF (G := UInt64 × UInt64 × Int) (fun g => [(4, .int .u64 ((((g.1)).toNat : Nat) : Int)), (5, .int .u64 ((((g.2.1)).toNat : Nat) : Int)), (14, .agg [.int .i64 (p10.a0.Offset), .slice A10_0_0 (p10.a0.Counts).length c10_0_0, .int .i64 (p10.a1.Offset), .slice A10_0_1 (p10.a1.Counts).length c10_0_1].toArray), (15, .int .i64 (y20)), (19, .slice A24 (z23.Counts).length c24), (20, .int .i64 ((z23.Counts.length : Int))), (21, .int .i64 ((g.2.2)))]) (fun g w' => Hp Z0 No w w' [slR A1 c1 w64R x0.Pos.Counts, slR A3 c3 w64R x0.Neg.Counts, boxR b7 28 [.int .i64 (x0.Scale), .int .u64 (((x0.Zero).toNat : Nat) : Int), .int .i64 (x0.Pos.Offset), .slice A1 (x0.Pos.Counts).length c1, .int .i64 (x0.Neg.Offset), .slice A3 (x0.Neg.Counts).length c3], slR A10_0_0 c10_0_0 w64R p10.a0.Counts, slR A10_0_1 c10_0_1 w64R p10.a1.Counts, slR A24 c24 w64R z23.Counts, boxR b26 26 [.int .i64 (z23.Offset), .slice A24 (z23.Counts).length c24]]) (fun n g => m_hist_Total_L2 z23 j2 n g.1 g.2.1 g.2.2) fuel (y18, y19, 0) (Sub.cons rfl (Sub.cons rfl (Sub.cons rfl (Sub.cons rfl (Sub.cons rfl (Sub.cons rfl (Sub.cons rfl (Sub.nil _)))))))) (hm28.pick [0, 1, 2, 3, 4, 5, 6] rfl (by decide)) hM (fun _ => rfl) ?_
  clear hM
  rintro m35 ⟨y32, y33, y34⟩ w35 hm35 hM hn35
  replace hM : m_hist_Total_L2 z23 j2 (m35 + 1) y32 y33 y34 = some r := hM
  rw [m_hist_Total_L2] at hM
  refine gg 5 rfl ?_
  refine Rn.condD rfl (fun h36 => ?_) (fun h36 => ?_)
  ·replace hM := iteT h36 hM
   refine gg 5 rfl ?_
   obtain ⟨z37, e37, hM⟩ := bindE hM
   refine Rn.ixH hm35 5 rfl e37 rfl rfl rfl Tryz.underlying24 Tryz.sizeOf23 rfl rfl rfl rfl ?_
   rintro b37 o37 vs37 ⟨rfl, _⟩ hm37
   refine Rn.q rfl (V.ldR0 Tryz.isAgg23 rfl (hm37.get 7 rfl).2 rfl) (gg 10 rfl (Rn.q rfl (V.add64 (a := y32) (b := z37) Tryz.func84 (by kernel_rfl) (by kernel_rfl) (by kernel_rfl) (by kernel_rfl) rfl) (gg 9 rfl (Rn.q rfl (V.o64 rfl rfl y33 (cry y32 z37) rfl rfl (b64_or _ _ _)) (gg 7 rfl ?_)))))
   exact hn35 ((y32 + z37), (y33 ||| (cry y32 z37)), (W64 (y34 + 1))) _ _ (Sub.cons rfl (Sub.cons rfl (Sub.cons rfl (Sub.cons rfl (Sub.cons rfl (Sub.cons rfl (Sub.cons rfl (Sub.nil _)))))))) (hm37.pick [0, 1, 2, 3, 4, 5, 6] rfl (by decide)) hM
  ·replace hM := iteF h36 hM
   refine gg 1 rfl ?_
   exact hk2 (y32, y33) _ _ (Sub.cons rfl (Sub.cons rfl (Sub.cons rfl (Sub.cons rfl (Sub.nil _))))) (hm35.pick [0, 1, 2, 3, 4, 5, 6] rfl (by decide)) hM
 ·replace hM := iteF h22 hM
  refine gg 1 rfl ?_
  exact hk1 (y18, y19) _ _ (Sub.cons rfl (Sub.cons rfl (Sub.nil _))) (hm21.pick [0, 1, 2] rfl (by decide)) hM

theorem m_hist_Check_sim {Z0 : Nat → Prop} {w : World} {x0 : T_api_Hist} {cs0 : List Value} {r : Int} (hM : m_hist_Check x0 = some r) (h0 : T_api_Hist.rep.rel Z0 w cs0 x0) :
    Calls Tryz.prog 34 #[.agg cs0.toArray] w fun x w' => x = .returned (.int .i64 (r)) ∧ Hp Z0 No w w' [] := by
 have hm0 := Hp.nil Z0 No w
 have hc0 := Calm.nil
 obtain ⟨_, _, rfl, ⟨rfl, _⟩, ⟨_, _, rfl, ⟨rfl, _⟩, ⟨_, _, rfl, ⟨_, _, rfl, ⟨rfl, _⟩, ⟨A1, c1, rfl, p1, q1, s1⟩⟩, ⟨_, _, rfl, ⟨rfl, _⟩, ⟨A3, c3, rfl, p3, q3, s3⟩⟩⟩⟩⟩ := h0
 have hm5 := hm0.know (slR A1 c1 w64R x0.Pos.Counts) (fun _ h => h) (hm0.in0 hc0 ⟨p1, q1, s1⟩)
 replace hc0 := hc0.snoc (r := slR A1 c1 w64R x0.Pos.Counts) (fun _ h => h)
 have hm6 := hm5.know (slR A3 c3 w64R x0.Neg.Counts) (fun _ h => h) (hm5.in0 hc0 ⟨p3, q3, s3⟩)
 replace hc0 := hc0.snoc (r := slR A3 c3 w64R x0.Neg.Counts) (fun _ h => h)
 refine Rn.enter Tryz.func34 rfl rfl (Nat.le_of_ble_eq_true rfl) ?_
 refine gg 2 rfl (Rn.box rfl rfl rfl rfl rfl ?_)
 intro b7 w7 hb7 m7 e7
 have hm9 := (hm6.addBox hb7 e7 m7).nf [_, _, boxR _ _ [_, _, _, _, _, _]] rfl
 refine gg 6 rfl (Rn.q rfl (V.ldB Tryz.isAgg3 rfl (hm9.get 2 rfl) rfl) (gg 2 rfl ?_))
 refine Rn.cutR [] [(1, .pointer (some ⟨b7, 0, none⟩)), (15, .bool (decide ((x0.Scale < (-10)) ∨ (x0.Scale > 20))))] (fun hk10 => ?_) ?_
 ·refine Rn.partD (t := 11) rfl (fun h11 => ?_) (fun h11 => ?_)
  ·refine gg 4 rfl ?_
   refine hk10 _ ?_
   exact Sub.cons rfl (Sub.cons (lkv _ rfl (by first | exact andT h11 | exact andF h11 | exact orT h11 | exact orF h11 | exact nandF h11 | exact nandT h11 | exact norT h11 | exact norF h11 | (simp [h11]; done) | grind)) (Sub.nil _))
  ·refine gg 1 rfl (Rn.q rfl (V.ldB Tryz.isAgg3 rfl (hm9.get 2 rfl) rfl) (gg 2 rfl ?_))
   refine hk10 _ ?_
   exact Sub.cons rfl (Sub.cons (lkv _ rfl (by first | exact andT h11 | exact andF h11 | exact orT h11 | exact orF h11 | exact nandF h11 | exact nandT h11 | exact norT h11 | exact norF h11 | (simp [h11]; done) | grind)) (Sub.nil _))
 refine gg 1 rfl ?_
 refine Rn.condD rfl (fun h12 => ?_) (fun h12 => ?_)
 ·replace hM := iteT h12 hM
  refine gg 4 rfl ?_
  refine Rn.retG1 Tryz.func34 rfl (rvT rfl) ?_
  obtain rfl := someE hM
  exact ⟨rfl, hm9.pick [] rfl (by decide)⟩
 ·replace hM := iteF h12 hM
  refine gg 4 rfl (Rn.q rfl (V.ldBA [_, _, _, _, _, _] Tryz.isAgg28 Tryz.sizeOf28 rfl (hm9.get 2 rfl) rfl rfl) ?_)
  obtain ⟨p13, e13, hM⟩ := bindE hM
  refine Rn.cl ck59 rfl rfl rfl rfl (m_hist_sides_sim (Z0 := hm9.Z) e13 (show T_api_Hist.rep.rel _ _ _ _ from ⟨_, _, rfl, ⟨rfl, trivial⟩, ⟨_, _, rfl, ⟨rfl, trivial⟩, ⟨_, _, rfl, ⟨_, _, rfl, ⟨rfl, trivial⟩, ⟨_, _, rfl, (hm9.get 0 rfl).1, (hm9.get 0 rfl).2.1, (hm9.get 0 rfl).2.2⟩⟩, ⟨_, _, rfl, ⟨rfl, trivial⟩, ⟨_, _, rfl, (hm9.get 1 rfl).1, (hm9.get 1 rfl).2.1, (hm9.get 1 rfl).2.2⟩⟩⟩⟩⟩) :) ?_
  rintro _ w13 ⟨A13_0_0, c13_0_0, A13_0_1, c13_0_1, rfl, hq13⟩
  refine ⟨_, rfl, ?_⟩
  have hm16 := hm9.callZ hq13
  refine gg 2 rfl ?_
  obtain ⟨j1, hj1, hM⟩ := jnE hM
  refine Rn.joinG (r := r) (G := Unit) (fun g => [(1, .pointer (some ⟨b7, 0, none⟩))]) (fun g w' => Hp Z0 No w w' [slR A1 c1 w64R x0.Pos.Counts, slR A3 c3 w64R x0.Neg.Counts, boxR b7 28 [.int .i64 (x0.Scale), .int .u64 (((x0.Zero).toNat : Nat) : Int), .int .i64 (x0.Pos.Offset), .slice A1 (x0.Pos.Counts).length c1, .int .i64 (x0.Neg.Offset), .slice A3 (x0.Neg.Counts).length c3]]) (fun g => j1 ()) ?_ ?_
  ·subst hj1
   clear hM
   rintro _ w17 hm17 hM
   try dsimp only at hM
   refine gg 3 rfl (Rn.q rfl (V.ldBA [_, _, _, _, _, _] Tryz.isAgg28 Tryz.sizeOf28 rfl (hm17.get 2 rfl) rfl rfl) ?_)
   obtain ⟨p18, e18, hM⟩ := bindE hM
   refine Rn.cl ck61 rfl rfl rfl rfl (m_hist_Total_sim (Z0 := All) e18 (show T_api_Hist.rep.rel All _ _ _ from ⟨_, _, rfl, ⟨rfl, trivial⟩, ⟨_, _, rfl, ⟨rfl, trivial⟩, ⟨_, _, rfl, ⟨_, _, rfl, ⟨rfl, trivial⟩, ⟨_, _, rfl, (slR_all (hm17.get 0 rfl)).1, (slR_all (hm17.get 0 rfl)).2.1, (slR_all (hm17.get 0 rfl)).2.2⟩⟩, ⟨_, _, rfl, ⟨rfl, trivial⟩, ⟨_, _, rfl, (slR_all (hm17.get 1 rfl)).1, (slR_all (hm17.get 1 rfl)).2.1, (slR_all (hm17.get 1 rfl)).2.2⟩⟩⟩⟩⟩) :) ?_
   rintro _ w18 ⟨rfl, hq18⟩
   refine ⟨_, rfl, ?_⟩
   have hm19 := hm17.call0 hq18
   refine gg 9 rfl (Rn.q rfl (V.notB rfl) (gg 1 rfl ?_))
   refine Rn.condS rfl (fun h20 => ?_) (fun h20 => ?_)
   ·replace hM := iteT h20 hM
    refine gg 4 rfl ?_
    refine Rn.retG1 Tryz.func34 rfl (rvT rfl) ?_
    obtain rfl := someE hM
    exact ⟨rfl, hm19.pick [] rfl (by decide)⟩
   ·replace hM := iteFB hM h20
    refine gg 5 rfl ?_
    refine Rn.retG1 Tryz.func34 rfl (rvT rfl) ?_
    obtain rfl := someE hM
    exact ⟨rfl, hm19.pick [] rfl (by decide)⟩
  intro hk1
  clear hj1
  refine gg 1 rfl ?_
  refine Rn.loopF (G := Int) (fun g => [(1, .pointer (some ⟨b7, 0, none⟩)), (17, .agg [.int .i64 (p13.a0.Offset), .slice A13_0_0 (p13.a0.Counts).length c13_0_0, .int .i64 (p13.a1.Offset), .slice A13_0_1 (p13.a1.Counts).length c13_0_1].toArray), (18, .int .i64 (g))]) (fun g w' => Hp Z0 No w w' [slR A1 c1 w64R x0.Pos.Counts, slR A3 c3 w64R x0.Neg.Counts, boxR b7 28 [.int .i64 (x0.Scale), .int .u64 (((x0.Zero).toNat : Nat) : Int), .int .i64 (x0.Pos.Offset), .slice A1 (x0.Pos.Counts).length c1, .int .i64 (x0.Neg.Offset), .slice A3 (x0.Neg.Counts).length c3], slR A13_0_0 c13_0_0 w64R p13.a0.Counts, slR A13_0_1 c13_0_1 w64R p13.a1.Counts]) (fun n g => m_hist_Check_L1 p13 j1 n g) fuel 0 (Sub.cons rfl (Sub.cons rfl (Sub.cons rfl (Sub.nil _)))) (hm16.pick [0, 1, 2, 3, 4] rfl (by decide)) hM (fun _ => rfl) ?_
  clear hM
  rintro m22 y21 w22 hm22 hM hn22
  replace hM : m_hist_Check_L1 p13 j1 (m22 + 1) y21 = some r := hM
  rw [m_hist_Check_L1] at hM
  refine gg 5 rfl ?_
  refine Rn.condD rfl (fun h23 => ?_) (fun h23 => ?_)
  ·replace hM := iteT h23 hM
   refine gg 5 rfl ?_
   obtain ⟨z24, e24, hM⟩ := bindE hM
   obtain ⟨A25, c25, hm25, hq25⟩ := Hp.idx2 (fun x : T_api_Side => x.Counts) e24 hm22 3 4 rfl rfl
   refine Rn.q rfl (V.arE (v := .agg [.int .i64 (z24.Offset), .slice A25 (z24.Counts).length c25].toArray) ar100 Tryz.isAgg26 rfl rfl (idx_bd e24 rfl) (by rcases hq25 with ⟨g1, g2, g3, g4⟩ | ⟨g1, g2, g3, g4⟩ <;> first | (simp only [g1, g2, g3, g4]; rfl) | (exfalso; omega))) (Rn.als rfl rfl rfl Tryz.zeroValue26 rfl Tryz.sizeOf26 rfl rfl rfl rfl (by first | exact ones rfl | (simp [Value.oneCell']; done)) ?_)
   intro b27 w27 hb27 m27 e27
   have hm29 := (hm25.addBox hb27 e27 m27).nf [_, _, _, _, _, _, boxR _ _ [_, _]] rfl
   refine gg 3 rfl (Rn.q rfl (V.ldBA [_, _] Tryz.isAgg26 Tryz.sizeOf26 rfl (hm29.get 6 rfl) rfl rfl) ?_)
   obtain ⟨p30, e30, hM⟩ := bindE hM
   refine Rn.cl ck60 rfl rfl rfl rfl (m_hist_check_sim (Z0 := All) e30 (show T_api_Side.rep.rel All _ _ _ from ⟨_, _, rfl, ⟨rfl, trivial⟩, ⟨_, _, rfl, (slR_all (hm29.get 5 rfl)).1, (slR_all (hm29.get 5 rfl)).2.1, (slR_all (hm29.get 5 rfl)).2.2⟩⟩) :) ?_
   rintro _ w30 ⟨rfl, hq30⟩
   refine ⟨_, rfl, ?_⟩
   have hm31 := hm29.call0 hq30
   refine gg 7 rfl ?_
   refine Rn.condD rfl (fun h32 => ?_) (fun h32 => ?_)
   ·replace hM := iteT h32 hM
    refine gg 5 rfl ?_
    refine Rn.retG1 Tryz.func34 rfl (rvT rfl) ?_
    obtain rfl := someE hM
    exact ⟨rfl, hm31.pick [] rfl (by decide)⟩
   ·replace hM := iteF h32 hM
    refine gg 6 rfl ?_
    exact hn22 (W64 (y21 + 1)) _ _ (Sub.cons rfl (Sub.cons rfl (Sub.cons rfl (Sub.nil _)))) (hm31.pick [0, 1, 2, 3, 4] rfl (by decide)) hM
  ·replace hM := iteF h23 hM
   refine gg 1 rfl ?_
   exact hk1 () _ _ (Sub.cons rfl (Sub.nil _)) (hm22.pick [0, 1, 2] rfl (by decide)) hM

theorem m_point_Check_sim {Z0 : Nat → Prop} {w : World} {x0 : T_api_Point} {cs0 : List Value} {r : Int} (hM : m_point_Check x0 = some r) (h0 : T_api_Point.rep.rel Z0 w cs0 x0) :
    Calls Tryz.prog 8 #[.agg cs0.toArray] w fun x w' => x = .returned (.int .i64 (r)) ∧ Hp Z0 No w w' [] := by
 have hm0 := Hp.nil Z0 No w
 have hc0 := Calm.nil
 obtain ⟨_, _, rfl, ⟨rfl, _⟩, ⟨_, _, rfl, ⟨A1, c1, rfl, p1, q1, s1⟩, ⟨_, _, rfl, ⟨rfl, _⟩, ⟨_, _, rfl, ⟨rfl, _⟩, ⟨_, _, rfl, ⟨rfl, _⟩, ⟨_, _, rfl, ⟨rfl, _⟩, ⟨_, _, rfl, ⟨rfl, _⟩, ⟨_, _, rfl, ⟨rfl, _⟩, ⟨_, _, rfl, ⟨rfl, _⟩, ⟨_, _, rfl, ⟨rfl, _⟩, ⟨_, _, rfl, ⟨_, _, rfl, ⟨rfl, _⟩, ⟨_, _, rfl, ⟨rfl, _⟩, ⟨_, _, rfl, ⟨_, _, rfl, ⟨rfl, _⟩, ⟨A3, c3, rfl, p3, q3, s3⟩⟩, ⟨_, _, rfl, ⟨rfl, _⟩, ⟨A5, c5, rfl, p5, q5, s5⟩⟩⟩⟩⟩, ⟨rfl, _⟩⟩⟩⟩⟩⟩⟩⟩⟩⟩⟩⟩ := h0
 have hm7 := hm0.know (slR A1 c1 T_api_Pair.rep x0.Attrs) (fun _ h => h) (hm0.in0 hc0 ⟨p1, q1, s1⟩)
 replace hc0 := hc0.snoc (r := slR A1 c1 T_api_Pair.rep x0.Attrs) (fun _ h => h)
 have hm8 := hm7.know (slR A3 c3 w64R x0.Hist.Pos.Counts) (fun _ h => h) (hm7.in0 hc0 ⟨p3, q3, s3⟩)
 replace hc0 := hc0.snoc (r := slR A3 c3 w64R x0.Hist.Pos.Counts) (fun _ h => h)
 have hm9 := hm8.know (slR A5 c5 w64R x0.Hist.Neg.Counts) (fun _ h => h) (hm8.in0 hc0 ⟨p5, q5, s5⟩)
 replace hc0 := hc0.snoc (r := slR A5 c5 w64R x0.Hist.Neg.Counts) (fun _ h => h)
 refine Rn.enter Tryz.func8 rfl rfl (Nat.le_of_ble_eq_true rfl) ?_
 refine gg 2 rfl (Rn.box rfl rfl rfl rfl rfl ?_)
 intro b10 w10 hb10 m10 e10
 have hm12 := (hm9.addBox hb10 e10 m10).nf [_, _, _, boxR _ _ [_, _, _, _, _, _, _, _, _, _, _, _, _, _, _, _, _]] rfl
 refine gg 6 rfl (Rn.q rfl (V.ldB Tryz.isAgg9 rfl (hm12.get 3 rfl) rfl) (gg 1 rfl (Rn.q rfl (V.ldB Tryz.isAgg22 rfl (hm12.get 3 rfl) rfl) ?_)))
 obtain ⟨p13, e13, hM⟩ := bindE hM
 refine Rn.cl ck27 rfl rfl rfl rfl (m_label_Check_sim (Z0 := All) e13 (slR_all (hm12.get 0 rfl)) :) ?_
 rintro _ w13 ⟨rfl, hq13⟩
 refine ⟨_, rfl, ?_⟩
 have hm14 := hm12.call0 hq13
 refine gg 7 rfl ?_
 refine Rn.condD rfl (fun h15 => ?_) (fun h15 => ?_)
 ·replace hM := iteT h15 hM
  refine gg 5 rfl ?_
  refine Rn.retG1 Tryz.func8 rfl (rvT rfl) ?_
  obtain rfl := someE hM
  exact ⟨rfl, hm14.pick [] rfl (by decide)⟩
 ·replace hM := iteF h15 hM
  refine gg 5 rfl (Rn.q rfl (V.ldBA [_, _, _, _, _, _, _, _, _, _, _, _, _, _, _, _, _] Tryz.isAgg30 Tryz.sizeOf30 rfl (hm14.get 3 rfl) rfl rfl) ?_)
  obtain ⟨p16, e16, hM⟩ := bindE hM
  refine Rn.cl ck28 rfl rfl rfl rfl (m_point_kinds_sim (Z0 := All) e16 (show T_api_Point.rep.rel All _ _ _ from ⟨_, _, rfl, ⟨rfl, trivial⟩, ⟨_, _, rfl, ⟨_, _, rfl, (slR_all (hm14.get 0 rfl)).1, (slR_all (hm14.get 0 rfl)).2.1, (slR_all (hm14.get 0 rfl)).2.2⟩, ⟨_, _, rfl, ⟨rfl, trivial⟩, ⟨_, _, rfl, ⟨rfl, trivial⟩, ⟨_, _, rfl, ⟨rfl, trivial⟩, ⟨_, _, rfl, ⟨rfl, trivial⟩, ⟨_, _, rfl, ⟨rfl, trivial⟩, ⟨_, _, rfl, ⟨rfl, trivial⟩, ⟨_, _, rfl, ⟨rfl, trivial⟩, ⟨_, _, rfl, ⟨rfl, trivial⟩, ⟨_, _, rfl, ⟨_, _, rfl, ⟨rfl, trivial⟩, ⟨_, _, rfl, ⟨rfl, trivial⟩, ⟨_, _, rfl, ⟨_, _, rfl, ⟨rfl, trivial⟩, ⟨_, _, rfl, (slR_all (hm14.get 1 rfl)).1, (slR_all (hm14.get 1 rfl)).2.1, (slR_all (hm14.get 1 rfl)).2.2⟩⟩, ⟨_, _, rfl, ⟨rfl, trivial⟩, ⟨_, _, rfl, (slR_all (hm14.get 2 rfl)).1, (slR_all (hm14.get 2 rfl)).2.1, (slR_all (hm14.get 2 rfl)).2.2⟩⟩⟩⟩⟩, ⟨rfl, trivial⟩⟩⟩⟩⟩⟩⟩⟩⟩⟩⟩⟩) :) ?_
  rintro _ w16 ⟨rfl, hq16⟩
  refine ⟨_, rfl, ?_⟩
  have hm17 := hm14.call0 hq16
  refine Rn.q rfl (V.notB rfl) (gg 2 rfl ?_)
  refine Rn.condS rfl (fun h18 => ?_) (fun h18 => ?_)
  ·replace hM := iteT h18 hM
   refine gg 4 rfl ?_
   refine Rn.retG1 Tryz.func8 rfl (rvT rfl) ?_
   obtain rfl := someE hM
   exact ⟨rfl, hm17.pick [] rfl (by decide)⟩
  ·replace hM := iteFB hM h18
   refine gg 4 rfl (Rn.q rfl (V.ldB Tryz.isAgg4 rfl (hm17.get 3 rfl) rfl) (gg 1 rfl ?_))
   obtain ⟨j1, hj1, hM⟩ := jnE hM
   refine Rn.joinR (r := r) (G := Bool) [7] (fun g => [(1, .pointer (some ⟨b10, 0, none⟩)), (23, .bool (g))]) (fun g w' => Hp Z0 No w w' [slR A1 c1 T_api_Pair.rep x0.Attrs, slR A3 c3 w64R x0.Hist.Pos.Counts, slR A5 c5 w64R x0.Hist.Neg.Counts, boxR b10 30 [Str (x0.Name), .slice A1 (x0.Attrs).length c1, .int .i64 (x0.Kind), .int .i64 (x0.Temp), .bool (x0.Mono), .int .i64 (x0.Start), .int .i64 (x0.Time), .int .i64 (x0.Int_), .int .u64 (((x0.Re).toNat : Nat) : Int), .int .u64 (((x0.Im).toNat : Nat) : Int), .int .i64 (x0.Hist.Scale), .int .u64 (((x0.Hist.Zero).toNat : Nat) : Int), .int .i64 (x0.Hist.Pos.Offset), .slice A3 (x0.Hist.Pos.Counts).length c3, .int .i64 (x0.Hist.Neg.Offset), .slice A5 (x0.Hist.Neg.Counts).length c5, .int .i64 (x0.Flags)]]) (fun g => j1 g) ?_ ?_
   ·subst hj1
    clear hM
    rintro y19 w20 hm20 hM
    try dsimp only at hM
    refine gg 2 rfl ?_
    obtain ⟨j2, hj2, hM⟩ := jnE hM
    refine Rn.joinG (r := r) (G := Bool) (fun g => [(1, .pointer (some ⟨b10, 0, none⟩)), (16, .bool (g))]) (fun g w' => Hp Z0 No w w' [slR A1 c1 T_api_Pair.rep x0.Attrs, slR A3 c3 w64R x0.Hist.Pos.Counts, slR A5 c5 w64R x0.Hist.Neg.Counts, boxR b10 30 [Str (x0.Name), .slice A1 (x0.Attrs).length c1, .int .i64 (x0.Kind), .int .i64 (x0.Temp), .bool (x0.Mono), .int .i64 (x0.Start), .int .i64 (x0.Time), .int .i64 (x0.Int_), .int .u64 (((x0.Re).toNat : Nat) : Int), .int .u64 (((x0.Im).toNat : Nat) : Int), .int .i64 (x0.Hist.Scale), .int .u64 (((x0.Hist.Zero).toNat : Nat) : Int), .int .i64 (x0.Hist.Pos.Offset), .slice A3 (x0.Hist.Pos.Counts).length c3, .int .i64 (x0.Hist.Neg.Offset), .slice A5 (x0.Hist.Neg.Counts).length c5, .int .i64 (x0.Flags)]]) (fun g => j2 g) ?_ ?_
    ·subst hj2
     clear hM
     rintro y21 w22 hm22 hM
     try dsimp only at hM
     refine Rn.condS rfl (fun h23 => ?_) (fun h23 => ?_)
     ·replace hM := iteT h23 hM
      refine gg 4 rfl ?_
      refine Rn.retG1 Tryz.func8 rfl (rvT rfl) ?_
      obtain rfl := someE hM
      exact ⟨rfl, hm22.pick [] rfl (by decide)⟩
     ·replace hM := iteFB hM h23
      refine gg 2 rfl (Rn.q rfl (V.ldBA [_, _, _, _, _, _, _, _, _, _, _, _, _, _, _, _, _] Tryz.isAgg30 Tryz.sizeOf30 rfl (hm22.get 3 rfl) rfl rfl) ?_)
      obtain ⟨p24, e24, hM⟩ := bindE hM
      refine Rn.cl ck31 rfl rfl rfl rfl (m_point_own_sim (Z0 := All) e24 (show T_api_Point.rep.rel All _ _ _ from ⟨_, _, rfl, ⟨rfl, trivial⟩, ⟨_, _, rfl, ⟨_, _, rfl, (slR_all (hm22.get 0 rfl)).1, (slR_all (hm22.get 0 rfl)).2.1, (slR_all (hm22.get 0 rfl)).2.2⟩, ⟨_, _, rfl, ⟨rfl, trivial⟩, ⟨_, _, rfl, ⟨rfl, trivial⟩, ⟨_, _, rfl, ⟨rfl, trivial⟩, ⟨_, _, rfl, ⟨rfl, trivial⟩, ⟨_, _, rfl, ⟨rfl, trivial⟩, ⟨_, _, rfl, ⟨rfl, trivial⟩, ⟨_, _, rfl, ⟨rfl, trivial⟩, ⟨_, _, rfl, ⟨rfl, trivial⟩, ⟨_, _, rfl, ⟨_, _, rfl, ⟨rfl, trivial⟩, ⟨_, _, rfl, ⟨rfl, trivial⟩, ⟨_, _, rfl, ⟨_, _, rfl, ⟨rfl, trivial⟩, ⟨_, _, rfl, (slR_all (hm22.get 1 rfl)).1, (slR_all (hm22.get 1 rfl)).2.1, (slR_all (hm22.get 1 rfl)).2.2⟩⟩, ⟨_, _, rfl, ⟨rfl, trivial⟩, ⟨_, _, rfl, (slR_all (hm22.get 2 rfl)).1, (slR_all (hm22.get 2 rfl)).2.1, (slR_all (hm22.get 2 rfl)).2.2⟩⟩⟩⟩⟩, ⟨rfl, trivial⟩⟩⟩⟩⟩⟩⟩⟩⟩⟩⟩⟩) :) ?_
      rintro _ w24 ⟨rfl, hq24⟩
      refine ⟨_, rfl, ?_⟩
      have hm25 := hm22.call0 hq24
      refine Rn.q rfl (V.notB rfl) (gg 2 rfl ?_)
      refine Rn.condS rfl (fun h26 => ?_) (fun h26 => ?_)
      ·replace hM := iteT h26 hM
       refine gg 4 rfl ?_
       refine Rn.retG1 Tryz.func8 rfl (rvT rfl) ?_
       obtain rfl := someE hM
       exact ⟨rfl, hm25.pick [] rfl (by decide)⟩
      ·replace hM := iteFB hM h26
       refine gg 3 rfl (Rn.q rfl (V.ldB Tryz.isAgg4 rfl (hm25.get 3 rfl) rfl) (gg 1 rfl ?_))
       refine Rn.cutR [7, 8, 9, 10, 11, 12, 13] [(1, .pointer (some ⟨b10, 0, none⟩)), (38, .bool (decide ((x0.Mono = true) ∧ (x0.Kind = 2))))] (fun hk27 => ?_) ?_
       ·refine Rn.part (t := 34) rfl (fun h28 => ?_) (fun h28 => ?_)
        ·refine gg 1 rfl (Rn.q rfl (V.ldB Tryz.isAgg3 rfl (hm25.get 3 rfl) rfl) (gg 2 rfl ?_))
         refine hk27 _ ?_
         exact Sub.cons rfl (Sub.cons (lkv _ rfl (by first | exact andT h28 | exact andF h28 | exact orT h28 | exact orF h28 | exact nandF h28 | exact nandT h28 | exact norT h28 | exact norF h28 | (simp [h28]; done) | grind)) (Sub.nil _))
        ·refine gg 4 rfl ?_
         refine hk27 _ ?_
         exact Sub.cons rfl (Sub.cons (lkv _ rfl (by first | exact andT h28 | exact andF h28 | exact orT h28 | exact orF h28 | exact nandF h28 | exact nandT h28 | exact norT h28 | exact norF h28 | (simp [h28]; done) | grind)) (Sub.nil _))
       refine gg 1 rfl ?_
       obtain ⟨j3, hj3, hM⟩ := jnE hM
       refine Rn.joinR (r := r) (G := Bool) [13] (fun g => [(1, .pointer (some ⟨b10, 0, none⟩)), (44, .bool (g))]) (fun g w' => Hp Z0 No w w' [slR A1 c1 T_api_Pair.rep x0.Attrs, slR A3 c3 w64R x0.Hist.Pos.Counts, slR A5 c5 w64R x0.Hist.Neg.Counts, boxR b10 30 [Str (x0.Name), .slice A1 (x0.Attrs).length c1, .int .i64 (x0.Kind), .int .i64 (x0.Temp), .bool (x0.Mono), .int .i64 (x0.Start), .int .i64 (x0.Time), .int .i64 (x0.Int_), .int .u64 (((x0.Re).toNat : Nat) : Int), .int .u64 (((x0.Im).toNat : Nat) : Int), .int .i64 (x0.Hist.Scale), .int .u64 (((x0.Hist.Zero).toNat : Nat) : Int), .int .i64 (x0.Hist.Pos.Offset), .slice A3 (x0.Hist.Pos.Counts).length c3, .int .i64 (x0.Hist.Neg.Offset), .slice A5 (x0.Hist.Neg.Counts).length c5, .int .i64 (x0.Flags)]]) (fun g => j3 g) ?_ ?_
       ·subst hj3
        clear hM
        rintro y29 w30 hm30 hM
        try dsimp only at hM
        refine gg 2 rfl ?_
        refine Rn.condS rfl (fun h31 => ?_) (fun h31 => ?_)
        ·replace hM := iteT h31 hM
         refine gg 4 rfl ?_
         refine Rn.retG1 Tryz.func8 rfl (rvT rfl) ?_
         obtain rfl := someE hM
         exact ⟨rfl, hm30.pick [] rfl (by decide)⟩
        ·replace hM := iteFB hM h31
         refine gg 3 rfl (Rn.q rfl (V.ldB Tryz.isAgg4 rfl (hm30.get 3 rfl) rfl) (gg 1 rfl ?_))
         obtain ⟨j4, hj4, hM⟩ := jnE hM
         refine Rn.joinR (r := r) (G := Bool) [12] (fun g => [(1, .pointer (some ⟨b10, 0, none⟩)), (57, .bool (g))]) (fun g w' => Hp Z0 No w w' [slR A1 c1 T_api_Pair.rep x0.Attrs, slR A3 c3 w64R x0.Hist.Pos.Counts, slR A5 c5 w64R x0.Hist.Neg.Counts, boxR b10 30 [Str (x0.Name), .slice A1 (x0.Attrs).length c1, .int .i64 (x0.Kind), .int .i64 (x0.Temp), .bool (x0.Mono), .int .i64 (x0.Start), .int .i64 (x0.Time), .int .i64 (x0.Int_), .int .u64 (((x0.Re).toNat : Nat) : Int), .int .u64 (((x0.Im).toNat : Nat) : Int), .int .i64 (x0.Hist.Scale), .int .u64 (((x0.Hist.Zero).toNat : Nat) : Int), .int .i64 (x0.Hist.Pos.Offset), .slice A3 (x0.Hist.Pos.Counts).length c3, .int .i64 (x0.Hist.Neg.Offset), .slice A5 (x0.Hist.Neg.Counts).length c5, .int .i64 (x0.Flags)]]) (fun g => j4 g) ?_ ?_
         ·subst hj4
          clear hM
          rintro y32 w33 hm33 hM
          try dsimp only at hM
          refine gg 2 rfl ?_
          refine Rn.condS rfl (fun h34 => ?_) (fun h34 => ?_)
          ·replace hM := iteT h34 hM
           refine gg 4 rfl ?_
           refine Rn.retG1 Tryz.func8 rfl (rvT rfl) ?_
           obtain rfl := someE hM
           exact ⟨rfl, hm33.pick [] rfl (by decide)⟩
          ·replace hM := iteFB hM h34
           refine gg 3 rfl (Rn.q rfl (V.ldB Tryz.isAgg3 rfl (hm33.get 3 rfl) rfl) (gg 3 rfl ?_))
           refine Rn.condD rfl (fun h35 => ?_) (fun h35 => ?_)
           ·replace hM := iteT h35 hM
            refine gg 3 rfl (Rn.q rfl (V.ldBA [_, _, _, _, _, _] Tryz.isAgg28 Tryz.sizeOf28 rfl (hm33.get 3 rfl) rfl rfl) ?_)
            obtain ⟨p36, e36, hM⟩ := bindE hM
            refine Rn.cl ck34 rfl rfl rfl rfl (m_hist_Check_sim (Z0 := All) e36 (show T_api_Hist.rep.rel All _ _ _ from ⟨_, _, rfl, ⟨rfl, trivial⟩, ⟨_, _, rfl, ⟨rfl, trivial⟩, ⟨_, _, rfl, ⟨_, _, rfl, ⟨rfl, trivial⟩, ⟨_, _, rfl, (slR_all (hm33.get 1 rfl)).1, (slR_all (hm33.get 1 rfl)).2.1, (slR_all (hm33.get 1 rfl)).2.2⟩⟩, ⟨_, _, rfl, ⟨rfl, trivial⟩, ⟨_, _, rfl, (slR_all (hm33.get 2 rfl)).1, (slR_all (hm33.get 2 rfl)).2.1, (slR_all (hm33.get 2 rfl)).2.2⟩⟩⟩⟩⟩) :) ?_
            rintro _ w36 ⟨rfl, hq36⟩
            refine ⟨_, rfl, ?_⟩
            have hm37 := hm33.call0 hq36
            refine gg 2 rfl ?_
            refine Rn.retG1 Tryz.func8 rfl (rvT rfl) ?_
            obtain rfl := someE hM
            exact ⟨rfl, hm37.pick [] rfl (by decide)⟩
           ·replace hM := iteF h35 hM
            refine gg 6 rfl ?_
            refine Rn.retG1 Tryz.func8 rfl (rvT rfl) ?_
            obtain rfl := someE hM
            exact ⟨rfl, hm33.pick [] rfl (by decide)⟩
         intro hk4
         clear hj4
         refine Rn.part (t := 48) rfl (fun h38 => ?_) (fun h38 => ?_)
         ·replace hM := iteT h38 hM
          refine gg 1 rfl (Rn.q rfl (V.ldB Tryz.isAgg3 rfl (hm30.get 3 rfl) rfl) (gg 2 rfl ?_))
          obtain ⟨j5, hj5, hM⟩ := jnE hM
          refine Rn.joinR (r := r) (G := Bool) [11, 12] (fun g => [(1, .pointer (some ⟨b10, 0, none⟩)), (48, .bool true), (56, .bool (g))]) (fun g w' => Hp Z0 No w w' [slR A1 c1 T_api_Pair.rep x0.Attrs, slR A3 c3 w64R x0.Hist.Pos.Counts, slR A5 c5 w64R x0.Hist.Neg.Counts, boxR b10 30 [Str (x0.Name), .slice A1 (x0.Attrs).length c1, .int .i64 (x0.Kind), .int .i64 (x0.Temp), .bool (x0.Mono), .int .i64 (x0.Start), .int .i64 (x0.Time), .int .i64 (x0.Int_), .int .u64 (((x0.Re).toNat : Nat) : Int), .int .u64 (((x0.Im).toNat : Nat) : Int), .int .i64 (x0.Hist.Scale), .int .u64 (((x0.Hist.Zero).toNat : Nat) : Int), .int .i64 (x0.Hist.Pos.Offset), .slice A3 (x0.Hist.Pos.Counts).length c3, .int .i64 (x0.Hist.Neg.Offset), .slice A5 (x0.Hist.Neg.Counts).length c5, .int .i64 (x0.Flags)]]) (fun g => j5 g) ?_ ?_
          ·subst hj5
           clear hM
           rintro y39 w40 hm40 hM
           try dsimp only at hM
           refine gg 1 rfl ?_
           exact hk4 y39 _ _ (Sub.cons rfl (Sub.cons rfl (Sub.nil _))) (hm40.pick [0, 1, 2, 3] rfl (by decide)) hM
          intro hk5
          clear hj5
          refine Rn.partD (t := 52) rfl (fun h41 => ?_) (fun h41 => ?_)
          ·replace hM := iteT h41 hM
           refine gg 4 rfl ?_
           exact hk5 true _ _ (Sub.cons rfl (Sub.cons rfl (Sub.cons rfl (Sub.nil _)))) (hm30.pick [0, 1, 2, 3] rfl (by decide)) hM
          ·replace hM := iteF h41 hM
           refine gg 1 rfl (Rn.q rfl (V.ldB Tryz.isAgg23 rfl (hm30.get 3 rfl) rfl) ?_)
           obtain ⟨p42, e42, hM⟩ := bindE hM
           refine Rn.cl ck33 rfl rfl rfl rfl (m_num_Less_sim (Z0 := All) e42  :) ?_
           rintro _ w42 ⟨rfl, hq42⟩
           refine ⟨_, rfl, ?_⟩
           have hm43 := hm30.call0 hq42
           refine gg 1 rfl ?_
           exact hk5 p42 _ _ (Sub.cons rfl (Sub.cons rfl (Sub.cons rfl (Sub.nil _)))) (hm43.pick [0, 1, 2, 3] rfl (by decide)) hM
         ·replace hM := iteFB hM h38
          refine gg 9 rfl ?_
          exact hk4 false _ _ (Sub.cons rfl (Sub.cons rfl (Sub.nil _))) (hm30.pick [0, 1, 2, 3] rfl (by decide)) hM
       intro hk3
       clear hj3
       refine Rn.partD (t := 39) rfl (fun h44 => ?_) (fun h44 => ?_)
       ·replace hM := iteT h44 hM
        refine gg 1 rfl (Rn.q rfl (V.ldB Tryz.isAgg23 rfl (hm25.get 3 rfl) rfl) ?_)
        obtain ⟨p45, e45, hM⟩ := bindE hM
        refine Rn.cl ck32 rfl rfl rfl rfl (m_num_Finite_sim (Z0 := All) e45  :) ?_
        rintro _ w45 ⟨rfl, hq45⟩
        refine ⟨_, rfl, ?_⟩
        have hm46 := hm25.call0 hq45
        refine Rn.q rfl (V.notB rfl) (gg 1 rfl ?_)
        exact hk3 (!p45) _ _ (Sub.cons rfl (Sub.cons rfl (Sub.nil _))) (hm46.pick [0, 1, 2, 3] rfl (by decide)) hM
       ·replace hM := iteF h44 hM
        refine gg 5 rfl ?_
        exact hk3 false _ _ (Sub.cons rfl (Sub.cons rfl (Sub.nil _))) (hm25.pick [0, 1, 2, 3] rfl (by decide)) hM
    intro hk2
    clear hj2
    refine Rn.condS rfl (fun h47 => ?_) (fun h47 => ?_)
    ·replace hM := iteT h47 hM
     refine gg 1 rfl ?_
     exact hk2 y19 _ _ (Sub.cons rfl (Sub.cons rfl (Sub.nil _))) (hm20.pick [0, 1, 2, 3] rfl (by decide)) hM
    ·replace hM := iteFB hM h47
     refine gg 1 rfl (Rn.q rfl (V.ldBA [_, _, _, _, _, _, _, _, _, _, _, _, _, _, _, _, _] Tryz.isAgg30 Tryz.sizeOf30 rfl (hm20.get 3 rfl) rfl rfl) ?_)
     obtain ⟨p48, e48, hM⟩ := bindE hM
     refine Rn.cl ck30 rfl rfl rfl rfl (m_point_times_sim (Z0 := All) e48 (show T_api_Point.rep.rel All _ _ _ from ⟨_, _, rfl, ⟨rfl, trivial⟩, ⟨_, _, rfl, ⟨_, _, rfl, (slR_all (hm20.get 0 rfl)).1, (slR_all (hm20.get 0 rfl)).2.1, (slR_all (hm20.get 0 rfl)).2.2⟩, ⟨_, _, rfl, ⟨rfl, trivial⟩, ⟨_, _, rfl, ⟨rfl, trivial⟩, ⟨_, _, rfl, ⟨rfl, trivial⟩, ⟨_, _, rfl, ⟨rfl, trivial⟩, ⟨_, _, rfl, ⟨rfl, trivial⟩, ⟨_, _, rfl, ⟨rfl, trivial⟩, ⟨_, _, rfl, ⟨rfl, trivial⟩, ⟨_, _, rfl, ⟨rfl, trivial⟩, ⟨_, _, rfl, ⟨_, _, rfl, ⟨rfl, trivial⟩, ⟨_, _, rfl, ⟨rfl, trivial⟩, ⟨_, _, rfl, ⟨_, _, rfl, ⟨rfl, trivial⟩, ⟨_, _, rfl, (slR_all (hm20.get 1 rfl)).1, (slR_all (hm20.get 1 rfl)).2.1, (slR_all (hm20.get 1 rfl)).2.2⟩⟩, ⟨_, _, rfl, ⟨rfl, trivial⟩, ⟨_, _, rfl, (slR_all (hm20.get 2 rfl)).1, (slR_all (hm20.get 2 rfl)).2.1, (slR_all (hm20.get 2 rfl)).2.2⟩⟩⟩⟩⟩, ⟨rfl, trivial⟩⟩⟩⟩⟩⟩⟩⟩⟩⟩⟩⟩) :) ?_
     rintro _ w48 ⟨rfl, hq48⟩
     refine ⟨_, rfl, ?_⟩
     have hm49 := hm20.call0 hq48
     refine Rn.q rfl (V.notB rfl) (gg 2 rfl ?_)
     exact hk2 (!p48) _ _ (Sub.cons rfl (Sub.cons rfl (Sub.nil _))) (hm49.pick [0, 1, 2, 3] rfl (by decide)) hM
   intro hk1
   clear hj1
   refine Rn.part (t := 19) rfl (fun h50 => ?_) (fun h50 => ?_)
   ·replace hM := iteT h50 hM
    refine Rn.q rfl (V.ldBA [_, _, _, _, _, _, _, _, _, _, _, _, _, _, _, _, _] Tryz.isAgg30 Tryz.sizeOf30 rfl (hm17.get 3 rfl) rfl rfl) ?_
    obtain ⟨p51, e51, hM⟩ := bindE hM
    refine Rn.cl ck29 rfl rfl rfl rfl (m_point_sum_sim (Z0 := All) e51 (show T_api_Point.rep.rel All _ _ _ from ⟨_, _, rfl, ⟨rfl, trivial⟩, ⟨_, _, rfl, ⟨_, _, rfl, (slR_all (hm17.get 0 rfl)).1, (slR_all (hm17.get 0 rfl)).2.1, (slR_all (hm17.get 0 rfl)).2.2⟩, ⟨_, _, rfl, ⟨rfl, trivial⟩, ⟨_, _, rfl, ⟨rfl, trivial⟩, ⟨_, _, rfl, ⟨rfl, trivial⟩, ⟨_, _, rfl, ⟨rfl, trivial⟩, ⟨_, _, rfl, ⟨rfl, trivial⟩, ⟨_, _, rfl, ⟨rfl, trivial⟩, ⟨_, _, rfl, ⟨rfl, trivial⟩, ⟨_, _, rfl, ⟨rfl, trivial⟩, ⟨_, _, rfl, ⟨_, _, rfl, ⟨rfl, trivial⟩, ⟨_, _, rfl, ⟨rfl, trivial⟩, ⟨_, _, rfl, ⟨_, _, rfl, ⟨rfl, trivial⟩, ⟨_, _, rfl, (slR_all (hm17.get 1 rfl)).1, (slR_all (hm17.get 1 rfl)).2.1, (slR_all (hm17.get 1 rfl)).2.2⟩⟩, ⟨_, _, rfl, ⟨rfl, trivial⟩, ⟨_, _, rfl, (slR_all (hm17.get 2 rfl)).1, (slR_all (hm17.get 2 rfl)).2.1, (slR_all (hm17.get 2 rfl)).2.2⟩⟩⟩⟩⟩, ⟨rfl, trivial⟩⟩⟩⟩⟩⟩⟩⟩⟩⟩⟩⟩) :) ?_
    rintro _ w51 ⟨rfl, hq51⟩
    refine ⟨_, rfl, ?_⟩
    have hm52 := hm17.call0 hq51
    refine Rn.q rfl (V.notB rfl) (gg 1 rfl ?_)
    exact hk1 (!p51) _ _ (Sub.cons rfl (Sub.cons rfl (Sub.nil _))) (hm52.pick [0, 1, 2, 3] rfl (by decide)) hM
   ·replace hM := iteFB hM h50
    refine gg 4 rfl ?_
    exact hk1 false _ _ (Sub.cons rfl (Sub.cons rfl (Sub.nil _))) (hm17.pick [0, 1, 2, 3] rfl (by decide)) hM

theorem m_slices_Clone_api_Pair_api_Pair_sim {Z0 : Nat → Prop} {w : World} {A0 : Option Addr} {c0 : Nat} {x0 : (List T_api_Pair)} {r : (List T_api_Pair)} (hM : m_slices_Clone_api_Pair_api_Pair x0 = some r) (f0 : (slR A0 c0 T_api_Pair.rep x0).H Z0 w) :
    Calls Tryz.prog 41 #[.slice A0 (x0).length c0] w fun x w' => ∃ A_0_0 c_0_0, x = .returned (.slice A_0_0 (r).length c_0_0) ∧ Hp Z0 No w w' [ownR 42 A_0_0 c_0_0 T_api_Pair.rep r] := by
  exact clone_41 w A0 c0 x0 f0 hM

theorem m_cmp_isNaN_string_sim {Z0 : Nat → Prop} {w : World} {x0 : (List UInt8)} {r : Bool} (hM : m_cmp_isNaN_string x0 = some r)  :
    Calls Tryz.prog 90 #[Str (x0)] w fun x w' => x = .returned (.bool (r)) ∧ Hp Z0 No w w' [] := by
 have hm0 := Hp.nil Z0 No w
 have hc0 := Calm.nil
 refine Rn.enter Tryz.func90 rfl rfl (Nat.le_of_ble_eq_true rfl) ?_
 refine gg 8 rfl (Rn.q rfl (V.neqS rfl rfl) (gg 2 rfl ?_))
 refine Rn.retG1 Tryz.func90 rfl (rvT rfl) ?_
 obtain rfl := someE hM
 exact ⟨rfl, hm0.pick [] rfl (by decide)⟩

theorem m_cmp_Compare_string_sim {Z0 : Nat → Prop} {w : World} {x0 : (List UInt8)} {x1 : (List UInt8)} {r : Int} (hM : m_cmp_Compare_string x0 x1 = some r)  :
    Calls Tryz.prog 77 #[Str (x0), Str (x1)] w fun x w' => x = .returned (.int .i64 (r)) ∧ Hp Z0 No w w' [] := by
 have hm0 := Hp.nil Z0 No w
 have hc0 := Calm.nil
 refine Rn.enter Tryz.func77 rfl rfl (Nat.le_of_ble_eq_true rfl) ?_
 refine gg 7 rfl ?_
 obtain ⟨p1, e1, hM⟩ := bindE hM
 refine Rn.cl ck90 rfl rfl rfl rfl (m_cmp_isNaN_string_sim (Z0 := All) e1  :) ?_
 rintro _ w1 ⟨rfl, hq1⟩
 refine ⟨_, rfl, ?_⟩
 have hm2 := hm0.call0 hq1
 refine gg 5 rfl ?_
 obtain ⟨p3, e3, hM⟩ := bindE hM
 refine Rn.cl ck90 rfl rfl rfl rfl (m_cmp_isNaN_string_sim (Z0 := All) e3  :) ?_
 rintro _ w3 ⟨rfl, hq3⟩
 refine ⟨_, rfl, ?_⟩
 have hm4 := hm2.call0 hq3
 refine gg 7 rfl ?_
 refine Rn.condS rfl (fun h5 => ?_) (fun h5 => ?_)
 ·replace hM := iteT h5 hM
  refine gg 5 rfl ?_
  refine Rn.condS rfl (fun h6 => ?_) (fun h6 => ?_)
  ·replace hM := iteT h6 hM
   refine gg 4 rfl ?_
   refine Rn.retG1 Tryz.func77 rfl (rvT rfl) ?_
   obtain rfl := someE hM
   exact ⟨rfl, hm4.pick [] rfl (by decide)⟩
  ·replace hM := iteFB hM h6
   refine gg 5 rfl ?_
   refine Rn.retG1 Tryz.func77 rfl (rvT rfl) ?_
   obtain rfl := someE hM
   exact ⟨rfl, hm4.pick [] rfl (by decide)⟩
 ·replace hM := iteFB hM h5
  refine gg 6 rfl ?_
  refine Rn.condS rfl (fun h7 => ?_) (fun h7 => ?_)
  ·replace hM := iteT h7 hM
   refine gg 4 rfl ?_
   refine Rn.retG1 Tryz.func77 rfl (rvT rfl) ?_
   obtain rfl := someE hM
   exact ⟨rfl, hm4.pick [] rfl (by decide)⟩
  ·replace hM := iteFB hM h7
   refine gg 6 rfl (Rn.q rfl (V.lssS rfl rfl) (gg 1 rfl ?_))
   refine Rn.condS rfl (fun h8 => ?_) (fun h8 => ?_)
   ·replace hM := iteT h8 hM
    refine gg 4 rfl ?_
    refine Rn.retG1 Tryz.func77 rfl (rvT rfl) ?_
    obtain rfl := someE hM
    exact ⟨rfl, hm4.pick [] rfl (by decide)⟩
   ·replace hM := iteFB hM h8
    refine gg 6 rfl (Rn.q rfl (V.gtrS rfl rfl) (gg 1 rfl ?_))
    refine Rn.condS rfl (fun h9 => ?_) (fun h9 => ?_)
    ·replace hM := iteT h9 hM
     refine gg 4 rfl ?_
     refine Rn.retG1 Tryz.func77 rfl (rvT rfl) ?_
     obtain rfl := someE hM
     exact ⟨rfl, hm4.pick [] rfl (by decide)⟩
    ·replace hM := iteFB hM h9
     refine gg 5 rfl ?_
     refine Rn.retG1 Tryz.func77 rfl (rvT rfl) ?_
     obtain rfl := someE hM
     exact ⟨rfl, hm4.pick [] rfl (by decide)⟩

theorem m_label_Sorted_1_sim {Z0 : Nat → Prop} {w : World} {x0 : T_api_Pair} {x1 : T_api_Pair} {r : Int} (hM : m_label_Sorted_1 x0 x1 = some r)  :
    Calls Tryz.prog 76 #[.agg [Str (x0.Key), Str (x0.Val)].toArray, .agg [Str (x1.Key), Str (x1.Val)].toArray] w fun x w' => x = .returned (.int .i64 (r)) ∧ Hp Z0 No w w' [] := by
 have hm0 := Hp.nil Z0 No w
 have hc0 := Calm.nil
 refine Rn.enter Tryz.func76 rfl rfl (Nat.le_of_ble_eq_true rfl) ?_
 refine gg 2 rfl (Rn.box rfl rfl rfl rfl rfl ?_)
 intro b1 w1 hb1 m1 e1
 have hm3 := (hm0.addBox hb1 e1 m1).nf [boxR _ _ [_, _]] rfl
 refine Rn.box rfl rfl rfl rfl rfl ?_
 intro b4 w4 hb4 m4 e4
 have hm6 := (hm3.addBox hb4 e4 m4).nf [_, boxR _ _ [_, _]] rfl
 refine gg 5 rfl (Rn.q rfl (V.ldB Tryz.isAgg9 rfl (hm6.get 0 rfl) rfl) (gg 1 rfl (Rn.q rfl (V.ldB Tryz.isAgg9 rfl (hm6.get 1 rfl) rfl) ?_)))
 obtain ⟨p7, e7, hM⟩ := bindE hM
 refine Rn.cl ck77 rfl rfl rfl rfl (m_cmp_Compare_string_sim (Z0 := All) e7  :) ?_
 rintro _ w7 ⟨rfl, hq7⟩
 refine ⟨_, rfl, ?_⟩
 have hm8 := hm6.call0 hq7
 refine gg 2 rfl ?_
 refine Rn.retG1 Tryz.func76 rfl (rvT rfl) ?_
 obtain rfl := someE hM
 exact ⟨rfl, hm8.pick [] rfl (by decide)⟩

theorem m_slices_insertionSortCmpFunc_api_Pair_s2_sim {Z0 : Nat → Prop} {w : World} {A0 : Option Addr} {c0 : Nat} {x0 : (List T_api_Pair)} {x1 : Int} {x2 : Int} {r : (List T_api_Pair)} (hM : m_slices_insertionSortCmpFunc_api_Pair_s2 x0 x1 x2 = some r) (hL : Lent Z0 w [ownR 42 A0 c0 T_api_Pair.rep x0]) :
    Calls Tryz.prog 95 #[.slice A0 (x0).length c0, .int .i64 (x1), .int .i64 (x2), .func (.func 76) #[] [].toArray] w fun x w' => x = .returned (.tuple #[]) ∧ Hp Z0 (LS [ownR 42 A0 c0 T_api_Pair.rep x0]) w w' [ownR 42 A0 c0 T_api_Pair.rep r] ∧ (r).length = (x0).length := by
 have hm0 := hL.start
 refine Rn.enter Tryz.func95 rfl rfl (Nat.le_of_ble_eq_true rfl) ?_
 refine gg 6 rfl ?_
 obtain ⟨j1, hj1, hM⟩ := jnE hM
 refine Rn.joinG (r := r) (G := (List T_api_Pair)) (fun g => []) (fun g w' => Hp Z0 (LS [ownR 42 A0 c0 T_api_Pair.rep x0]) w w' [ownR 42 A0 c0 T_api_Pair.rep g] ∧ g.length = (x0).length) (fun g => j1 g) ?_ ?_
 ·subst hj1
  clear hM
  rintro y2 w3 ⟨hm3, hl2⟩ hM
  replace hl2 : y2.length = (x0).length := hl2
  try dsimp only at hM
  refine Rn.end0 Tryz.func95 rfl ?_
  obtain rfl := someE hM
  exact ⟨rfl, hm3.pick [0] rfl (by decide), hl2⟩
 intro hk1
 clear hj1
 refine gg 1 rfl ?_
 refine Rn.loopF (G := (List T_api_Pair) × Int) (fun g => [(0, .slice A0 (x0).length c0), (1, .int .i64 (x1)), (2, .int .i64 (x2)), (3, .func (.func 76) #[] [].toArray), (8, .int .i64 ((g.2)))]) (fun g w' => Hp Z0 (LS [ownR 42 A0 c0 T_api_Pair.rep x0]) w w' [ownR 42 A0 c0 T_api_Pair.rep (g.1)] ∧ (g.1).length = (x0).length) (fun n g => m_slices_insertionSortCmpFunc_api_Pair_s2_L1 x1 x2 j1 n g.1 g.2) fuel (x0, (W64 (x1 + 1))) (Sub.cons rfl (Sub.cons rfl (Sub.cons rfl (Sub.cons rfl (Sub.cons rfl (Sub.nil _)))))) (⟨hm0.pick [0] rfl (by decide), rfl⟩) hM (fun _ => rfl) ?_
 clear hM
 rintro m6 ⟨y4, y5⟩ w6 ⟨hm6, hl4⟩ hM hn6
 replace hl4 : y4.length = (x0).length := hl4
 replace hM : m_slices_insertionSortCmpFunc_api_Pair_s2_L1 x1 x2 j1 (m6 + 1) y4 y5 = some r := hM
 rw [m_slices_insertionSortCmpFunc_api_Pair_s2_L1] at hM
 refine gg 7 rfl ?_
 refine Rn.condD rfl (fun h7 => ?_) (fun h7 => ?_)
 ·replace hM := iteT h7 hM
  refine gg 8 rfl ?_
  obtain ⟨j2, hj2, hM⟩ := jnE hM
  refine Rn.joinG (r := r) (G := (List T_api_Pair)) (fun g => [(0, .slice A0 (x0).length c0), (1, .int .i64 (x1)), (2, .int .i64 (x2)), (3, .func (.func 76) #[] [].toArray), (8, .int .i64 (y5))]) (fun g w' => Hp Z0 (LS [ownR 42 A0 c0 T_api_Pair.rep x0]) w w' [ownR 42 A0 c0 T_api_Pair.rep g] ∧ g.length = (x0).length) (fun g => j2 g) ?_ ?_
  ·subst hj2
   clear hM
   rintro y8 w9 ⟨hm9, hl8⟩ hM
   replace hl8 : y8.length = (x0).length := hl8
   try dsimp only at hM
   refine gg 6 rfl ?_
   exact hn6 (y8, (W64 (y5 + 1))) _ _ (Sub.cons rfl (Sub.cons rfl (Sub.cons rfl (Sub.cons rfl (Sub.cons rfl (Sub.nil _)))))) (⟨hm9.pick [0] rfl (by decide), hl8⟩) hM
  intro hk2
  clear hj2
  refine gg 1 rfl ?_
  refine Rn.loopF (G := (List T_api_Pair) × Int) (fun g => [(0, .slice A0 (x0).length c0), (1, .int .i64 (x1)), (2, .int .i64 (x2)), (3, .func (.func 76) #[] [].toArray), (8, .int .i64 (y5)), (9, .int .i64 ((g.2)))]) (fun g w' => Hp Z0 (LS [ownR 42 A0 c0 T_api_Pair.rep x0]) w w' [ownR 42 A0 c0 T_api_Pair.rep (g.1)] ∧ (g.1).length = (x0).length) (fun n g => m_slices_insertionSortCmpFunc_api_Pair_s2_L2 x1 j2 n g.1 g.2) fuel (y4, y5) (Sub.cons rfl (Sub.cons rfl (Sub.cons rfl (Sub.cons rfl (Sub.cons rfl (Sub.cons rfl (Sub.nil _))))))) (⟨hm6.pick [0] rfl (by decide), hl4⟩) hM (fun _ => rfl) ?_
  clear hM
  rintro m12 ⟨y10, y11⟩ w12 ⟨hm12, hl10⟩ hM hn12
  replace hl10 : y10.length = (x0).length := hl10
  replace hM : m_slices_insertionSortCmpFunc_api_Pair_s2_L2 x1 j2 (m12 + 1) y10 y11 = some r := hM
  rw [m_slices_insertionSortCmpFunc_api_Pair_s2_L2] at hM
  refine gg 2 rfl ?_
  obtain ⟨j3, hj3, hM⟩ := jnE hM
  refine Rn.joinG (r := r) (G := Bool) (fun g => [(0, .slice A0 (x0).length c0), (1, .int .i64 (x1)), (2, .int .i64 (x2)), (3, .func (.func 76) #[] [].toArray), (8, .int .i64 (y5)), (9, .int .i64 (y11)), (34, .bool (g))]) (fun g w' => Hp Z0 (LS [ownR 42 A0 c0 T_api_Pair.rep x0]) w w' [ownR 42 A0 c0 T_api_Pair.rep y10]) (fun g => j3 g) ?_ ?_
  ·subst hj3
   clear hM
   rintro y13 w14 hm14 hM
   try dsimp only at hM
   refine Rn.condS rfl (fun h15 => ?_) (fun h15 => ?_)
   ·replace hM := iteT h15 hM
    refine gg 3 rfl ?_
    refine Rn.drawX rfl hm14 ?_
    intro w16 hm16
    refine dd [0, 1, 2, 3, 4, 5, 6, 7] (by kernel_rfl) rfl rfl ?_
    obtain ⟨z17, e17, hM⟩ := bindE hM
    obtain ⟨kk17, ke17, kz17, kl17⟩ := idxE e17
    obtain ⟨g17, vs17, hA17, hR17, hrel17⟩ := hm16.ownAt 0 rfl kz17
    subst hA17
    obtain ⟨_, _, rfl, ⟨rfl, _⟩, ⟨rfl, _⟩⟩ := hrel17
    refine RH.take 8 (by kernel_rfl) rfl rfl rfl rfl (fun w' hDr => V.ixE kk17 Tryz.underlying22 Tryz.sizeOf42 rfl rfl ke17 (Nat.lt_of_lt_of_eq kl17 hl10)) ?_
    refine dd [10, 11] (by kernel_rfl) rfl rfl ?_
    obtain ⟨z18, e18, hM⟩ := bindE hM
    obtain ⟨kk18, ke18, kz18, kl18⟩ := idxE e18
    obtain ⟨vs18, hR18, hrel18⟩ := hm16.ownAtL 0 rfl kz18
    obtain ⟨_, _, rfl, ⟨rfl, _⟩, ⟨rfl, _⟩⟩ := hrel18
    refine RH.take 12 (by kernel_rfl) rfl rfl rfl rfl (fun w' hDr => V.ixE kk18 Tryz.underlying22 Tryz.sizeOf42 rfl rfl ke18 (Nat.lt_of_lt_of_eq kl18 hl10)) ?_
    refine RH.two 9 13 (by kernel_rfl) rfl rfl rfl rfl (V.ldA (vs := [_, _]) Tryz.isAgg42 Tryz.sizeOf42 rfl (Rd.pre hR17 2) rfl) rfl rfl rfl rfl (V.ldA (vs := [_, _]) Tryz.isAgg42 Tryz.sizeOf42 rfl (Rd.pre hR18 2) rfl) ?_ ?_
    ·refine RH.here fun hS13 => RH.one 13 (by kernel_rfl) rfl rfl rfl rfl (V.ldA (vs := [_, _]) Tryz.isAgg42 Tryz.sizeOf42 rfl (Rd.pre hR18 2) rfl) hS13 ?_
     obtain ⟨z20, e20, hM⟩ := bindE hM
     obtain ⟨kk20, ke20, kz20, kl20⟩ := idxE e20
     obtain ⟨vs20, hR20, hrel20⟩ := hm16.ownAtL 0 rfl kz20
     obtain ⟨_, _, rfl, ⟨rfl, _⟩, ⟨rfl, _⟩⟩ := hrel20
     refine RH.here fun hS14 => RH.one 14 (by kernel_rfl) rfl rfl rfl rfl (V.ixE kk20 Tryz.underlying22 Tryz.sizeOf42 rfl rfl ke20 (Nat.lt_of_lt_of_eq kl20 hl10)) hS14 ?_
     refine RH.stI 15 (by kernel_rfl) hm16 0 rfl ke20 kl20 rfl rfl Tryz.sizeOf42 rfl rfl rfl (vs := [Str (z17.Key), Str (z17.Val)]) rfl (⟨_, _, rfl, ⟨rfl, trivial⟩, ⟨rfl, trivial⟩⟩) ?_
     intro w21 hm21
     refine ⟨trivial, ?_⟩
     obtain ⟨z22, e22, hM⟩ := bindE hM
     obtain ⟨kk22, ke22, kz22, kl22⟩ := idxE e22
     obtain ⟨vs22, hR22, hrel22⟩ := hm21.ownAtL 0 rfl kz22
     obtain ⟨_, _, rfl, ⟨rfl, _⟩, ⟨rfl, _⟩⟩ := hrel22
     refine RH.here fun hS16 => RH.one 16 (by kernel_rfl) rfl rfl rfl rfl (V.ixE kk22 Tryz.underlying22 Tryz.sizeOf42 rfl rfl ke22 (Nat.lt_of_lt_of_eq kl22 ((length_setI _ _ _).trans hl10))) hS16 ?_
     refine RH.stI 17 (by kernel_rfl) hm21 0 rfl ke22 kl22 rfl rfl Tryz.sizeOf42 rfl rfl rfl (vs := [Str (z18.Key), Str (z18.Val)]) rfl (⟨_, _, rfl, ⟨rfl, trivial⟩, ⟨rfl, trivial⟩⟩) ?_
     intro w23 hm23
     refine ⟨trivial, ?_⟩
     refine RH.doneP (by kernel_rfl) ?_
     refine gg 6 rfl ?_
     exact hn12 ((setI (setI y10 y11 z17) (W64 (y11 - 1)) z18), (W64 (y11 - 1))) _ _ (Sub.cons rfl (Sub.cons rfl (Sub.cons rfl (Sub.cons rfl (Sub.cons rfl (Sub.cons rfl (Sub.nil _))))))) (⟨hm23.pick [0] rfl (by decide), ((length_setI _ _ _).trans ((length_setI _ _ _).trans hl10))⟩) hM
    ·refine RH.here fun hS9 => RH.one 9 (by kernel_rfl) rfl rfl rfl rfl (V.ldA (vs := [_, _]) Tryz.isAgg42 Tryz.sizeOf42 rfl (Rd.pre hR17 2) rfl) hS9 ?_
     obtain ⟨z24, e24, hM⟩ := bindE hM
     obtain ⟨kk24, ke24, kz24, kl24⟩ := idxE e24
     obtain ⟨vs24, hR24, hrel24⟩ := hm16.ownAtL 0 rfl kz24
     obtain ⟨_, _, rfl, ⟨rfl, _⟩, ⟨rfl, _⟩⟩ := hrel24
     refine RH.here fun hS14 => RH.one 14 (by kernel_rfl) rfl rfl rfl rfl (V.ixE kk24 Tryz.underlying22 Tryz.sizeOf42 rfl rfl ke24 (Nat.lt_of_lt_of_eq kl24 hl10)) hS14 ?_
     refine RH.stI 15 (by kernel_rfl) hm16 0 rfl ke24 kl24 rfl rfl Tryz.sizeOf42 rfl rfl rfl (vs := [Str (z17.Key), Str (z17.Val)]) rfl (⟨_, _, rfl, ⟨rfl, trivial⟩, ⟨rfl, trivial⟩⟩) ?_
     intro w25 hm25
     refine ⟨trivial, ?_⟩
     obtain ⟨z26, e26, hM⟩ := bindE hM
     obtain ⟨kk26, ke26, kz26, kl26⟩ := idxE e26
     obtain ⟨vs26, hR26, hrel26⟩ := hm25.ownAtL 0 rfl kz26
     obtain ⟨_, _, rfl, ⟨rfl, _⟩, ⟨rfl, _⟩⟩ := hrel26
     refine RH.here fun hS16 => RH.one 16 (by kernel_rfl) rfl rfl rfl rfl (V.ixE kk26 Tryz.underlying22 Tryz.sizeOf42 rfl rfl ke26 (Nat.lt_of_lt_of_eq kl26 ((length_setI _ _ _).trans hl10))) hS16 ?_
     refine RH.stI 17 (by kernel_rfl) hm25 0 rfl ke26 kl26 rfl rfl Tryz.sizeOf42 rfl rfl rfl (vs := [Str (z18.Key), Str (z18.Val)]) rfl (⟨_, _, rfl, ⟨rfl, trivial⟩, ⟨rfl, trivial⟩⟩) ?_
     intro w27 hm27
     refine ⟨trivial, ?_⟩
     refine RH.doneP (by kernel_rfl) ?_
     refine gg 6 rfl ?_
     exact hn12 ((setI (setI y10 y11 z17) (W64 (y11 - 1)) z18), (W64 (y11 - 1))) _ _ (Sub.cons rfl (Sub.cons rfl (Sub.cons rfl (Sub.cons rfl (Sub.cons rfl (Sub.cons rfl (Sub.nil _))))))) (⟨hm27.pick [0] rfl (by decide), ((length_setI _ _ _).trans ((length_setI _ _ _).trans hl10))⟩) hM
   ·replace hM := iteFB hM h15
    refine gg 1 rfl ?_
    exact hk2 y10 _ _ (Sub.cons rfl (Sub.cons rfl (Sub.cons rfl (Sub.cons rfl (Sub.cons rfl (Sub.nil _)))))) (⟨hm14.pick [0] rfl (by decide), hl10⟩) hM
  intro hk3
  clear hj3
  refine Rn.drawH rfl hm12 ?_
  intro w28 hm28
  refine dd [0, 1, 2, 3] (by kernel_rfl) rfl rfl ?_
  refine RH.partD (t := 21) rfl (fun h29 => ?_) (fun h29 => ?_)
  ·replace hM := iteT h29 hM
   refine dd [4, 5, 6] (by kernel_rfl) rfl rfl ?_
   obtain ⟨z30, e30, hM⟩ := bindE hM
   obtain ⟨kk30, ke30, kz30, kl30⟩ := idxE e30
   obtain ⟨g30, vs30, hA30, hR30, hrel30⟩ := hm28.ownAt 0 rfl kz30
   subst hA30
   obtain ⟨_, _, rfl, ⟨rfl, _⟩, ⟨rfl, _⟩⟩ := hrel30
   refine RH.take 7 (by kernel_rfl) rfl rfl rfl rfl (fun w' hDr => V.ixE kk30 Tryz.underlying22 Tryz.sizeOf42 rfl rfl ke30 (Nat.lt_of_lt_of_eq kl30 hl10)) ?_
   refine RH.take 8 (by kernel_rfl) rfl rfl rfl rfl (fun w' hDr => V.ldA (vs := [_, _]) Tryz.isAgg42 Tryz.sizeOf42 rfl (Rd.pre (hR30.ext hDr) 2) rfl) ?_
   refine dd [9, 10, 11] (by kernel_rfl) rfl rfl ?_
   obtain ⟨z31, e31, hM⟩ := bindE hM
   obtain ⟨kk31, ke31, kz31, kl31⟩ := idxE e31
   obtain ⟨vs31, hR31, hrel31⟩ := hm28.ownAtL 0 rfl kz31
   obtain ⟨_, _, rfl, ⟨rfl, _⟩, ⟨rfl, _⟩⟩ := hrel31
   refine RH.here fun hS12 => RH.one 12 (by kernel_rfl) rfl rfl rfl rfl (V.ixE kk31 Tryz.underlying22 Tryz.sizeOf42 rfl rfl ke31 (Nat.lt_of_lt_of_eq kl31 hl10)) hS12 ?_
   refine RH.here fun hS13 => RH.one 13 (by kernel_rfl) rfl rfl rfl rfl (V.ldA (vs := [_, _]) Tryz.isAgg42 Tryz.sizeOf42 rfl (Rd.pre hR31 2) rfl) hS13 ?_
   obtain ⟨p32, e32, hM⟩ := bindE hM
   refine RH.clV ck76 14 (by kernel_rfl) rfl rfl rfl rfl rfl (m_label_Sorted_1_sim (Z0 := All) e32  :) ?_
   rintro _ w32 ⟨rfl, hq32⟩
   refine ⟨_, rfl, ((Ext.refl _).trans hq32.fr), ?_⟩
   have hm33 := hm28.call0 hq32
   refine dd [15, 16] (by kernel_rfl) rfl rfl ?_
   refine RH.doneP (by kernel_rfl) ?_
   exact hk3 (decide (p32 < 0)) _ _ (Sub.cons rfl (Sub.cons rfl (Sub.cons rfl (Sub.cons rfl (Sub.cons rfl (Sub.cons rfl (Sub.cons rfl (Sub.nil _)))))))) (hm33.pick [0] rfl (by decide)) hM
  ·replace hM := iteF h29 hM
   refine dd [4, 5, 6, 7, 8, 9, 10, 11, 12, 13, 14, 15, 16] (by kernel_rfl) rfl rfl ?_
   refine RH.doneP (by kernel_rfl) ?_
   exact hk3 false _ _ (Sub.cons rfl (Sub.cons rfl (Sub.cons rfl (Sub.cons rfl (Sub.cons rfl (Sub.cons rfl (Sub.cons rfl (Sub.nil _)))))))) (hm28.pick [0] rfl (by decide)) hM
 ·replace hM := iteF h7 hM
  refine gg 1 rfl ?_
  exact hk1 y4 _ _ (Sub.nil _) (⟨hm6.pick [0] rfl (by decide), hl4⟩) hM

theorem m_slices_swapRangeCmpFunc_api_Pair_s2_sim {Z0 : Nat → Prop} {w : World} {A0 : Option Addr} {c0 : Nat} {x0 : (List T_api_Pair)} {x1 : Int} {x2 : Int} {x3 : Int} {r : (List T_api_Pair)} (hM : m_slices_swapRangeCmpFunc_api_Pair_s2 x0 x1 x2 x3 = some r) (hL : Lent Z0 w [ownR 42 A0 c0 T_api_Pair.rep x0]) :
    Calls Tryz.prog 104 #[.slice A0 (x0).length c0, .int .i64 (x1), .int .i64 (x2), .int .i64 (x3), .func (.func 76) #[] [].toArray] w fun x w' => x = .returned (.tuple #[]) ∧ Hp Z0 (LS [ownR 42 A0 c0 T_api_Pair.rep x0]) w w' [ownR 42 A0 c0 T_api_Pair.rep r] ∧ (r).length = (x0).length := by
 have hm0 := hL.start
 refine Rn.enter Tryz.func104 rfl rfl (Nat.le_of_ble_eq_true rfl) ?_
 refine gg 4 rfl ?_
 obtain ⟨j1, hj1, hM⟩ := jnE hM
 refine Rn.joinG (r := r) (G := (List T_api_Pair)) (fun g => []) (fun g w' => Hp Z0 (LS [ownR 42 A0 c0 T_api_Pair.rep x0]) w w' [ownR 42 A0 c0 T_api_Pair.rep g] ∧ g.length = (x0).length) (fun g => j1 g) ?_ ?_
 ·subst hj1
  clear hM
  rintro y2 w3 ⟨hm3, hl2⟩ hM
  replace hl2 : y2.length = (x0).length := hl2
  try dsimp only at hM
  refine Rn.end0 Tryz.func104 rfl ?_
  obtain rfl := someE hM
  exact ⟨rfl, hm3.pick [0] rfl (by decide), hl2⟩
 intro hk1
 clear hj1
 refine gg 1 rfl ?_
 refine Rn.loopF (G := (List T_api_Pair) × Int) (fun g => [(0, .slice A0 (x0).length c0), (1, .int .i64 (x1)), (2, .int .i64 (x2)), (3, .int .i64 (x3)), (10, .int .i64 ((g.2)))]) (fun g w' => Hp Z0 (LS [ownR 42 A0 c0 T_api_Pair.rep x0]) w w' [ownR 42 A0 c0 T_api_Pair.rep (g.1)] ∧ (g.1).length = (x0).length) (fun n g => m_slices_swapRangeCmpFunc_api_Pair_s2_L1 x1 x2 x3 j1 n g.1 g.2) fuel (x0, 0) (Sub.cons rfl (Sub.cons rfl (Sub.cons rfl (Sub.cons rfl (Sub.cons rfl (Sub.nil _)))))) (⟨hm0.pick [0] rfl (by decide), rfl⟩) hM (fun _ => rfl) ?_
 clear hM
 rintro m6 ⟨y4, y5⟩ w6 ⟨hm6, hl4⟩ hM hn6
 replace hl4 : y4.length = (x0).length := hl4
 replace hM : m_slices_swapRangeCmpFunc_api_Pair_s2_L1 x1 x2 x3 j1 (m6 + 1) y4 y5 = some r := hM
 rw [m_slices_swapRangeCmpFunc_api_Pair_s2_L1] at hM
 refine gg 7 rfl ?_
 refine Rn.condD rfl (fun h7 => ?_) (fun h7 => ?_)
 ·replace hM := iteT h7 hM
  refine gg 3 rfl ?_
  refine Rn.drawX rfl hm6 ?_
  intro w8 hm8
  refine dd [0, 1, 2, 3, 4, 5, 6, 7, 8, 9, 10, 11] (by kernel_rfl) rfl rfl ?_
  obtain ⟨z9, e9, hM⟩ := bindE hM
  obtain ⟨kk9, ke9, kz9, kl9⟩ := idxE e9
  obtain ⟨g9, vs9, hA9, hR9, hrel9⟩ := hm8.ownAt 0 rfl kz9
  subst hA9
  obtain ⟨_, _, rfl, ⟨rfl, _⟩, ⟨rfl, _⟩⟩ := hrel9
  refine RH.take 12 (by kernel_rfl) rfl rfl rfl rfl (fun w' hDr => V.ixE kk9 Tryz.underlying22 Tryz.sizeOf42 rfl rfl ke9 (Nat.lt_of_lt_of_eq kl9 hl4)) ?_
  refine dd [14, 15, 16, 17] (by kernel_rfl) rfl rfl ?_
  obtain ⟨z10, e10, hM⟩ := bindE hM
  obtain ⟨kk10, ke10, kz10, kl10⟩ := idxE e10
  obtain ⟨vs10, hR10, hrel10⟩ := hm8.ownAtL 0 rfl kz10
  obtain ⟨_, _, rfl, ⟨rfl, _⟩, ⟨rfl, _⟩⟩ := hrel10
  refine RH.take 18 (by kernel_rfl) rfl rfl rfl rfl (fun w' hDr => V.ixE kk10 Tryz.underlying22 Tryz.sizeOf42 rfl rfl ke10 (Nat.lt_of_lt_of_eq kl10 hl4)) ?_
  refine RH.two 13 19 (by kernel_rfl) rfl rfl rfl rfl (V.ldA (vs := [_, _]) Tryz.isAgg42 Tryz.sizeOf42 rfl (Rd.pre hR9 2) rfl) rfl rfl rfl rfl (V.ldA (vs := [_, _]) Tryz.isAgg42 Tryz.sizeOf42 rfl (Rd.pre hR10 2) rfl) ?_ ?_
  ·refine RH.here fun hS19 => RH.one 19 (by kernel_rfl) rfl rfl rfl rfl (V.ldA (vs := [_, _]) Tryz.isAgg42 Tryz.sizeOf42 rfl (Rd.pre hR10 2) rfl) hS19 ?_
   obtain ⟨z12, e12, hM⟩ := bindE hM
   obtain ⟨kk12, ke12, kz12, kl12⟩ := idxE e12
   obtain ⟨vs12, hR12, hrel12⟩ := hm8.ownAtL 0 rfl kz12
   obtain ⟨_, _, rfl, ⟨rfl, _⟩, ⟨rfl, _⟩⟩ := hrel12
   refine RH.here fun hS20 => RH.one 20 (by kernel_rfl) rfl rfl rfl rfl (V.ixE kk12 Tryz.underlying22 Tryz.sizeOf42 rfl rfl ke12 (Nat.lt_of_lt_of_eq kl12 hl4)) hS20 ?_
   refine RH.stI 21 (by kernel_rfl) hm8 0 rfl ke12 kl12 rfl rfl Tryz.sizeOf42 rfl rfl rfl (vs := [Str (z9.Key), Str (z9.Val)]) rfl (⟨_, _, rfl, ⟨rfl, trivial⟩, ⟨rfl, trivial⟩⟩) ?_
   intro w13 hm13
   refine ⟨trivial, ?_⟩
   obtain ⟨z14, e14, hM⟩ := bindE hM
   obtain ⟨kk14, ke14, kz14, kl14⟩ := idxE e14
   obtain ⟨vs14, hR14, hrel14⟩ := hm13.ownAtL 0 rfl kz14
   obtain ⟨_, _, rfl, ⟨rfl, _⟩, ⟨rfl, _⟩⟩ := hrel14
   refine RH.here fun hS22 => RH.one 22 (by kernel_rfl) rfl rfl rfl rfl (V.ixE kk14 Tryz.underlying22 Tryz.sizeOf42 rfl rfl ke14 (Nat.lt_of_lt_of_eq kl14 ((length_setI _ _ _).trans hl4))) hS22 ?_
   refine RH.stI 23 (by kernel_rfl) hm13 0 rfl ke14 kl14 rfl rfl Tryz.sizeOf42 rfl rfl rfl (vs := [Str (z10.Key), Str (z10.Val)]) rfl (⟨_, _, rfl, ⟨rfl, trivial⟩, ⟨rfl, trivial⟩⟩) ?_
   intro w15 hm15
   refine ⟨trivial, ?_⟩
   refine RH.doneP (by kernel_rfl) ?_
   refine gg 6 rfl ?_
   exact hn6 ((setI (setI y4 (W64 (x1 + y5)) z9) (W64 (x2 + y5)) z10), (W64 (y5 + 1))) _ _ (Sub.cons rfl (Sub.cons rfl (Sub.cons rfl (Sub.cons rfl (Sub.cons rfl (Sub.nil _)))))) (⟨hm15.pick [0] rfl (by decide), ((length_setI _ _ _).trans ((length_setI _ _ _).trans hl4))⟩) hM
  ·refine RH.here fun hS13 => RH.one 13 (by kernel_rfl) rfl rfl rfl rfl (V.ldA (vs := [_, _]) Tryz.isAgg42 Tryz.sizeOf42 rfl (Rd.pre hR9 2) rfl) hS13 ?_
   obtain ⟨z16, e16, hM⟩ := bindE hM
   obtain ⟨kk16, ke16, kz16, kl16⟩ := idxE e16
   obtain ⟨vs16, hR16, hrel16⟩ := hm8.ownAtL 0 rfl kz16
   obtain ⟨_, _, rfl, ⟨rfl, _⟩, ⟨rfl, _⟩⟩ := hrel16
   refine RH.here fun hS20 => RH.one 20 (by kernel_rfl) rfl rfl rfl rfl (V.ixE kk16 Tryz.underlying22 Tryz.sizeOf42 rfl rfl ke16 (Nat.lt_of_lt_of_eq kl16 hl4)) hS20 ?_
   refine RH.stI 21 (by kernel_rfl) hm8 0 rfl ke16 kl16 rfl rfl Tryz.sizeOf42 rfl rfl rfl (vs := [Str (z9.Key), Str (z9.Val)]) rfl (⟨_, _, rfl, ⟨rfl, trivial⟩, ⟨rfl, trivial⟩⟩) ?_
   intro w17 hm17
   refine ⟨trivial, ?_⟩
   obtain ⟨z18, e18, hM⟩ := bindE hM
   obtain ⟨kk18, ke18, kz18, kl18⟩ := idxE e18
   obtain ⟨vs18, hR18, hrel18⟩ := hm17.ownAtL 0 rfl kz18
   obtain ⟨_, _, rfl, ⟨rfl, _⟩, ⟨rfl, _⟩⟩ := hrel18
   refine RH.here fun hS22 => RH.one 22 (by kernel_rfl) rfl rfl rfl rfl (V.ixE kk18 Tryz.underlying22 Tryz.sizeOf42 rfl rfl ke18 (Nat.lt_of_lt_of_eq kl18 ((length_setI _ _ _).trans hl4))) hS22 ?_
   refine RH.stI 23 (by kernel_rfl) hm17 0 rfl ke18 kl18 rfl rfl Tryz.sizeOf42 rfl rfl rfl (vs := [Str (z10.Key), Str (z10.Val)]) rfl (⟨_, _, rfl, ⟨rfl, trivial⟩, ⟨rfl, trivial⟩⟩) ?_
   intro w19 hm19
   refine ⟨trivial, ?_⟩
   refine RH.doneP (by kernel_rfl) ?_
   refine gg 6 rfl ?_
   exact hn6 ((setI (setI y4 (W64 (x1 + y5)) z9) (W64 (x2 + y5)) z10), (W64 (y5 + 1))) _ _ (Sub.cons rfl (Sub.cons rfl (Sub.cons rfl (Sub.cons rfl (Sub.cons rfl (Sub.nil _)))))) (⟨hm19.pick [0] rfl (by decide), ((length_setI _ _ _).trans ((length_setI _ _ _).trans hl4))⟩) hM
 ·replace hM := iteF h7 hM
  refine gg 1 rfl ?_
  exact hk1 y4 _ _ (Sub.nil _) (⟨hm6.pick [0] rfl (by decide), hl4⟩) hM

theorem m_slices_rotateCmpFunc_api_Pair_s2_sim {Z0 : Nat → Prop} {w : World} {A0 : Option Addr} {c0 : Nat} {x0 : (List T_api_Pair)} {x1 : Int} {x2 : Int} {x3 : Int} {r : (List T_api_Pair)} (hM : m_slices_rotateCmpFunc_api_Pair_s2 x0 x1 x2 x3 = some r) (hL : Lent Z0 w [ownR 42 A0 c0 T_api_Pair.rep x0]) :
    Calls Tryz.prog 101 #[.slice A0 (x0).length c0, .int .i64 (x1), .int .i64 (x2), .int .i64 (x3), .func (.func 76) #[] [].toArray] w fun x w' => x = .returned (.tuple #[]) ∧ Hp Z0 (LS [ownR 42 A0 c0 T_api_Pair.rep x0]) w w' [ownR 42 A0 c0 T_api_Pair.rep r] ∧ (r).length = (x0).length := by
 have hm0 := hL.start
 refine Rn.enter Tryz.func101 rfl rfl (Nat.le_of_ble_eq_true rfl) ?_
 refine gg 15 rfl ?_
 obtain ⟨j1, hj1, hM⟩ := jnE hM
 refine Rn.joinG (r := r) (G := (List T_api_Pair) × Int) (fun g => [(0, .slice A0 (x0).length c0), (2, .int .i64 (x2)), (4, .func (.func 76) #[] [].toArray), (10, .int .i64 ((g.2)))]) (fun g w' => Hp Z0 (LS [ownR 42 A0 c0 T_api_Pair.rep x0]) w w' [ownR 42 A0 c0 T_api_Pair.rep (g.1)] ∧ (g.1).length = (x0).length) (fun g => j1 g.1 g.2) ?_ ?_
 ·subst hj1
  clear hM
  rintro ⟨y2, y3⟩ w4 ⟨hm4, hl2⟩ hM
  replace hl2 : y2.length = (x0).length := hl2
  try dsimp only at hM
  refine gg 8 rfl ?_
  refine Rn.say (t := 0) (.slice A0 (y2).length c0) rfl (by rw [show (x0).length = (y2).length from (hl2).symm.trans (rfl)]) ?_
  refine Rn.say (t := 50) (.slice A0 (y2).length c0) rfl (by rw [show (x0).length = (y2).length from (hl2).symm.trans (rfl)]) ?_
  obtain ⟨p5, e5, hM⟩ := bindE hM
  have hm6 := (hm4.cut [] [0] rfl (by decide)).nf ([] ++ [_]) rfl
  refine Rn.cl ck104 rfl rfl rfl rfl (m_slices_swapRangeCmpFunc_api_Pair_s2_sim e5 hm6.lend :) ?_
  rintro _ w5 ⟨rfl, hq5, hl5_0⟩
  refine ⟨_, rfl, ?_⟩
  have hm8 := hm6.callAZ hq5
  refine gg 1 rfl ?_
  refine Rn.end0 Tryz.func101 rfl ?_
  obtain rfl := someE hM
  exact ⟨rfl, hm8.pick [0] rfl (by decide), (hl5_0.trans hl2)⟩
 intro hk1
 clear hj1
 refine gg 1 rfl ?_
 refine Rn.loopF (G := (List T_api_Pair) × Int × Int) (fun g => [(0, .slice A0 (x0).length c0), (2, .int .i64 (x2)), (4, .func (.func 76) #[] [].toArray), (10, .int .i64 ((g.2.1))), (11, .int .i64 ((g.2.2)))]) (fun g w' => Hp Z0 (LS [ownR 42 A0 c0 T_api_Pair.rep x0]) w w' [ownR 42 A0 c0 T_api_Pair.rep (g.1)] ∧ (g.1).length = (x0).length) (fun n g => m_slices_rotateCmpFunc_api_Pair_s2_L1 x2 j1 n g.1 g.2.1 g.2.2) fuel (x0, (W64 (x2 - x1)), (W64 (x3 - x2))) (Sub.cons rfl (Sub.cons rfl (Sub.cons rfl (Sub.cons rfl (Sub.cons rfl (Sub.nil _)))))) (⟨hm0.pick [0] rfl (by decide), rfl⟩) hM (fun _ => rfl) ?_
 clear hM
 rintro m12 ⟨y9, y10, y11⟩ w12 ⟨hm12, hl9⟩ hM hn12
 replace hl9 : y9.length = (x0).length := hl9
 replace hM : m_slices_rotateCmpFunc_api_Pair_s2_L1 x2 j1 (m12 + 1) y9 y10 y11 = some r := hM
 rw [m_slices_rotateCmpFunc_api_Pair_s2_L1] at hM
 refine gg 7 rfl ?_
 refine Rn.condD rfl (fun h13 => ?_) (fun h13 => ?_)
 ·replace hM := iteT h13 hM
  refine gg 8 rfl ?_
  refine Rn.condD rfl (fun h14 => ?_) (fun h14 => ?_)
  ·replace hM := iteT h14 hM
   refine gg 9 rfl ?_
   refine Rn.say (t := 0) (.slice A0 (y9).length c0) rfl (by rw [show (x0).length = (y9).length from (hl9).symm.trans (rfl)]) ?_
   refine Rn.say (t := 24) (.slice A0 (y9).length c0) rfl (by rw [show (x0).length = (y9).length from (hl9).symm.trans (rfl)]) ?_
   obtain ⟨p15, e15, hM⟩ := bindE hM
   have hm16 := (hm12.cut [] [0] rfl (by decide)).nf ([] ++ [_]) rfl
   refine Rn.cl ck104 rfl rfl rfl rfl (m_slices_swapRangeCmpFunc_api_Pair_s2_sim e15 hm16.lend :) ?_
   rintro _ w15 ⟨rfl, hq15, hl15_0⟩
   refine ⟨_, rfl, ?_⟩
   have hm18 := hm16.callAZ hq15
   refine gg 8 rfl ?_
   refine Rn.say (t := 0) (.slice A0 (x0).length c0) rfl (by rw [show (y9).length = (x0).length from (hl15_0).symm.trans ((hl15_0.trans hl9))]) ?_
   refine Rn.say (t := 24) (.slice A0 (x0).length c0) rfl (by rw [show (y9).length = (x0).length from (hl15_0).symm.trans ((hl15_0.trans hl9))]) ?_
   exact hn12 (p15, (W64 (y10 - y11)), y11) _ _ (Sub.cons rfl (Sub.cons rfl (Sub.cons rfl (Sub.cons rfl (Sub.cons rfl (Sub.nil _)))))) (⟨hm18.pick [0] rfl (by decide), (hl15_0.trans hl9)⟩) hM
  ·replace hM := iteF h14 hM
   refine gg 13 rfl ?_
   refine Rn.say (t := 0) (.slice A0 (y9).length c0) rfl (by rw [show (x0).length = (y9).length from (hl9).symm.trans (rfl)]) ?_
   refine Rn.say (t := 35) (.slice A0 (y9).length c0) rfl (by rw [show (x0).length = (y9).length from (hl9).symm.trans (rfl)]) ?_
   obtain ⟨p19, e19, hM⟩ := bindE hM
   have hm20 := (hm12.cut [] [0] rfl (by decide)).nf ([] ++ [_]) rfl
   refine Rn.cl ck104 rfl rfl rfl rfl (m_slices_swapRangeCmpFunc_api_Pair_s2_sim e19 hm20.lend :) ?_
   rintro _ w19 ⟨rfl, hq19, hl19_0⟩
   refine ⟨_, rfl, ?_⟩
   have hm22 := hm20.callAZ hq19
   refine gg 8 rfl ?_
   refine Rn.say (t := 0) (.slice A0 (x0).length c0) rfl (by rw [show (y9).length = (x0).length from (hl19_0).symm.trans ((hl19_0.trans hl9))]) ?_
   refine Rn.say (t := 35) (.slice A0 (x0).length c0) rfl (by rw [show (y9).length = (x0).length from (hl19_0).symm.trans ((hl19_0.trans hl9))]) ?_
   exact hn12 (p19, y10, (W64 (y11 - y10))) _ _ (Sub.cons rfl (Sub.cons rfl (Sub.cons rfl (Sub.cons rfl (Sub.cons rfl (Sub.nil _)))))) (⟨hm22.pick [0] rfl (by decide), (hl19_0.trans hl9)⟩) hM
 ·replace hM := iteF h13 hM
  refine gg 1 rfl ?_
  exact hk1 (y9, y10) _ _ (Sub.cons rfl (Sub.cons rfl (Sub.cons rfl (Sub.cons rfl (Sub.nil _))))) (⟨hm12.pick [0] rfl (by decide), hl9⟩) hM

theorem m_slices_symMergeCmpFunc_api_Pair_s2_sim {Z0 : Nat → Prop} {w : World} {A0 : Option Addr} {c0 : Nat} {x0 : (List T_api_Pair)} {x1 : Int} {x2 : Int} {x3 : Int} {r : (List T_api_Pair)} (hM : m_slices_symMergeCmpFunc_api_Pair_s2 x0 x1 x2 x3 = some r) (hL : Lent Z0 w [ownR 42 A0 c0 T_api_Pair.rep x0]) :
    Calls Tryz.prog 96 #[.slice A0 (x0).length c0, .int .i64 (x1), .int .i64 (x2), .int .i64 (x3), .func (.func 76) #[] [].toArray] w fun x w' => x = .returned (.tuple #[]) ∧ Hp Z0 (LS [ownR 42 A0 c0 T_api_Pair.rep x0]) w w' [ownR 42 A0 c0 T_api_Pair.rep r] ∧ (r).length = (x0).length := by
 have hm0 := hL.start
 refine Rn.enter Tryz.func96 rfl rfl (Nat.le_of_ble_eq_true rfl) ?_
 refine gg 8 rfl ?_
 refine Rn.condD rfl (fun h2 => ?_) (fun h2 => ?_)
 ·replace hM := iteT h2 hM
  refine gg 11 rfl ?_
  obtain ⟨j1, hj1, hM⟩ := jnE hM
  refine Rn.joinG (r := r) (G := Int) (fun g => [(0, .slice A0 (x0).length c0), (1, .int .i64 (x1)), (10, .int .i64 (g))]) (fun g w' => Hp Z0 (LS [ownR 42 A0 c0 T_api_Pair.rep x0]) w w' [ownR 42 A0 c0 T_api_Pair.rep x0]) (fun g => j1 g) ?_ ?_
  ·subst hj1
   clear hM
   rintro y3 w4 hm4 hM
   try dsimp only at hM
   refine gg 6 rfl ?_
   obtain ⟨j2, hj2, hM⟩ := jnE hM
   refine Rn.joinG (r := r) (G := (List T_api_Pair)) (fun g => []) (fun g w' => Hp Z0 (LS [ownR 42 A0 c0 T_api_Pair.rep x0]) w w' [ownR 42 A0 c0 T_api_Pair.rep g] ∧ g.length = (x0).length) (fun g => j2 g) ?_ ?_
   ·subst hj2
    clear hM
    rintro y5 w6 ⟨hm6, hl5⟩ hM
    replace hl5 : y5.length = (x0).length := hl5
    try dsimp only at hM
    refine Rn.ret0 Tryz.func96 rfl ?_
    obtain rfl := someE hM
    exact ⟨rfl, hm6.pick [0] rfl (by decide), hl5⟩
   intro hk2
   clear hj2
   refine gg 1 rfl ?_
   refine Rn.loopF (G := (List T_api_Pair) × Int) (fun g => [(0, .slice A0 (x0).length c0), (10, .int .i64 (y3)), (13, .int .i64 ((g.2)))]) (fun g w' => Hp Z0 (LS [ownR 42 A0 c0 T_api_Pair.rep x0]) w w' [ownR 42 A0 c0 T_api_Pair.rep (g.1)] ∧ (g.1).length = (x0).length) (fun n g => m_slices_symMergeCmpFunc_api_Pair_s2_L1 y3 j2 n g.1 g.2) fuel (x0, x1) (Sub.cons rfl (Sub.cons rfl (Sub.cons rfl (Sub.nil _)))) (⟨hm4.pick [0] rfl (by decide), rfl⟩) hM (fun _ => rfl) ?_
   clear hM
   rintro m9 ⟨y7, y8⟩ w9 ⟨hm9, hl7⟩ hM hn9
   replace hl7 : y7.length = (x0).length := hl7
   replace hM : m_slices_symMergeCmpFunc_api_Pair_s2_L1 y3 j2 (m9 + 1) y7 y8 = some r := hM
   rw [m_slices_symMergeCmpFunc_api_Pair_s2_L1] at hM
   refine gg 8 rfl ?_
   refine Rn.condD rfl (fun h10 => ?_) (fun h10 => ?_)
   ·replace hM := iteT h10 hM
    refine gg 3 rfl ?_
    refine Rn.drawX rfl hm9 ?_
    intro w11 hm11
    refine dd [0, 1, 2, 3, 4, 5, 6, 7] (by kernel_rfl) rfl rfl ?_
    obtain ⟨z12, e12, hM⟩ := bindE hM
    obtain ⟨kk12, ke12, kz12, kl12⟩ := idxE e12
    obtain ⟨g12, vs12, hA12, hR12, hrel12⟩ := hm11.ownAt 0 rfl kz12
    subst hA12
    obtain ⟨_, _, rfl, ⟨rfl, _⟩, ⟨rfl, _⟩⟩ := hrel12
    refine RH.take 8 (by kernel_rfl) rfl rfl rfl rfl (fun w' hDr => V.ixE kk12 Tryz.underlying22 Tryz.sizeOf42 rfl rfl ke12 (Nat.lt_of_lt_of_eq kl12 hl7)) ?_
    refine dd [10, 11] (by kernel_rfl) rfl rfl ?_
    obtain ⟨z13, e13, hM⟩ := bindE hM
    obtain ⟨kk13, ke13, kz13, kl13⟩ := idxE e13
    obtain ⟨vs13, hR13, hrel13⟩ := hm11.ownAtL 0 rfl kz13
    obtain ⟨_, _, rfl, ⟨rfl, _⟩, ⟨rfl, _⟩⟩ := hrel13
    refine RH.take 12 (by kernel_rfl) rfl rfl rfl rfl (fun w' hDr => V.ixE kk13 Tryz.underlying22 Tryz.sizeOf42 rfl rfl ke13 (Nat.lt_of_lt_of_eq kl13 hl7)) ?_
    refine RH.two 9 13 (by kernel_rfl) rfl rfl rfl rfl (V.ldA (vs := [_, _]) Tryz.isAgg42 Tryz.sizeOf42 rfl (Rd.pre hR12 2) rfl) rfl rfl rfl rfl (V.ldA (vs := [_, _]) Tryz.isAgg42 Tryz.sizeOf42 rfl (Rd.pre hR13 2) rfl) ?_ ?_
    ·refine RH.here fun hS13 => RH.one 13 (by kernel_rfl) rfl rfl rfl rfl (V.ldA (vs := [_, _]) Tryz.isAgg42 Tryz.sizeOf42 rfl (Rd.pre hR13 2) rfl) hS13 ?_
     obtain ⟨z15, e15, hM⟩ := bindE hM
     obtain ⟨kk15, ke15, kz15, kl15⟩ := idxE e15
     obtain ⟨vs15, hR15, hrel15⟩ := hm11.ownAtL 0 rfl kz15
     obtain ⟨_, _, rfl, ⟨rfl, _⟩, ⟨rfl, _⟩⟩ := hrel15
     refine RH.here fun hS14 => RH.one 14 (by kernel_rfl) rfl rfl rfl rfl (V.ixE kk15 Tryz.underlying22 Tryz.sizeOf42 rfl rfl ke15 (Nat.lt_of_lt_of_eq kl15 hl7)) hS14 ?_
     refine RH.stI 15 (by kernel_rfl) hm11 0 rfl ke15 kl15 rfl rfl Tryz.sizeOf42 rfl rfl rfl (vs := [Str (z12.Key), Str (z12.Val)]) rfl (⟨_, _, rfl, ⟨rfl, trivial⟩, ⟨rfl, trivial⟩⟩) ?_
     intro w16 hm16
     refine ⟨trivial, ?_⟩
     obtain ⟨z17, e17, hM⟩ := bindE hM
     obtain ⟨kk17, ke17, kz17, kl17⟩ := idxE e17
     obtain ⟨vs17, hR17, hrel17⟩ := hm16.ownAtL 0 rfl kz17
     obtain ⟨_, _, rfl, ⟨rfl, _⟩, ⟨rfl, _⟩⟩ := hrel17
     refine RH.here fun hS16 => RH.one 16 (by kernel_rfl) rfl rfl rfl rfl (V.ixE kk17 Tryz.underlying22 Tryz.sizeOf42 rfl rfl ke17 (Nat.lt_of_lt_of_eq kl17 ((length_setI _ _ _).trans hl7))) hS16 ?_
     refine RH.stI 17 (by kernel_rfl) hm16 0 rfl ke17 kl17 rfl rfl Tryz.sizeOf42 rfl rfl rfl (vs := [Str (z13.Key), Str (z13.Val)]) rfl (⟨_, _, rfl, ⟨rfl, trivial⟩, ⟨rfl, trivial⟩⟩) ?_
     intro w18 hm18
     refine ⟨trivial, ?_⟩
     refine RH.doneP (by kernel_rfl) ?_
     refine gg 6 rfl ?_
     exact hn9 ((setI (setI y7 y8 z12) (W64 (y8 + 1)) z13), (W64 (y8 + 1))) _ _ (Sub.cons rfl (Sub.cons rfl (Sub.cons rfl (Sub.nil _)))) (⟨hm18.pick [0] rfl (by decide), ((length_setI _ _ _).trans ((length_setI _ _ _).trans hl7))⟩) hM
    ·refine RH.here fun hS9 => RH.one 9 (by kernel_rfl) rfl rfl rfl rfl (V.ldA (vs := [_, _]) Tryz.isAgg42 Tryz.sizeOf42 rfl (Rd.pre hR12 2) rfl) hS9 ?_
     obtain ⟨z19, e19, hM⟩ := bindE hM
     obtain ⟨kk19, ke19, kz19, kl19⟩ := idxE e19
     obtain ⟨vs19, hR19, hrel19⟩ := hm11.ownAtL 0 rfl kz19
     obtain ⟨_, _, rfl, ⟨rfl, _⟩, ⟨rfl, _⟩⟩ := hrel19
     refine RH.here fun hS14 => RH.one 14 (by kernel_rfl) rfl rfl rfl rfl (V.ixE kk19 Tryz.underlying22 Tryz.sizeOf42 rfl rfl ke19 (Nat.lt_of_lt_of_eq kl19 hl7)) hS14 ?_
     refine RH.stI 15 (by kernel_rfl) hm11 0 rfl ke19 kl19 rfl rfl Tryz.sizeOf42 rfl rfl rfl (vs := [Str (z12.Key), Str (z12.Val)]) rfl (⟨_, _, rfl, ⟨rfl, trivial⟩, ⟨rfl, trivial⟩⟩) ?_
     intro w20 hm20
     refine ⟨trivial, ?_⟩
     obtain ⟨z21, e21, hM⟩ := bindE hM
     obtain ⟨kk21, ke21, kz21, kl21⟩ := idxE e21
     obtain ⟨vs21, hR21, hrel21⟩ := hm20.ownAtL 0 rfl kz21
     obtain ⟨_, _, rfl, ⟨rfl, _⟩, ⟨rfl, _⟩⟩ := hrel21
     refine RH.here fun hS16 => RH.one 16 (by kernel_rfl) rfl rfl rfl rfl (V.ixE kk21 Tryz.underlying22 Tryz.sizeOf42 rfl rfl ke21 (Nat.lt_of_lt_of_eq kl21 ((length_setI _ _ _).trans hl7))) hS16 ?_
     refine RH.stI 17 (by kernel_rfl) hm20 0 rfl ke21 kl21 rfl rfl Tryz.sizeOf42 rfl rfl rfl (vs := [Str (z13.Key), Str (z13.Val)]) rfl (⟨_, _, rfl, ⟨rfl, trivial⟩, ⟨rfl, trivial⟩⟩) ?_
     intro w22 hm22
     refine ⟨trivial, ?_⟩
     refine RH.doneP (by kernel_rfl) ?_
     refine gg 6 rfl ?_
     exact hn9 ((setI (setI y7 y8 z12) (W64 (y8 + 1)) z13), (W64 (y8 + 1))) _ _ (Sub.cons rfl (Sub.cons rfl (Sub.cons rfl (Sub.nil _)))) (⟨hm22.pick [0] rfl (by decide), ((length_setI _ _ _).trans ((length_setI _ _ _).trans hl7))⟩) hM
   ·replace hM := iteF h10 hM
    refine gg 1 rfl ?_
    exact hk2 y7 _ _ (Sub.nil _) (⟨hm9.pick [0] rfl (by decide), hl7⟩) hM
  intro hk1
  clear hj1
  refine gg 1 rfl ?_
  refine Rn.loopF (G := Int × Int) (fun g => [(0, .slice A0 (x0).length c0), (1, .int .i64 (x1)), (4, .func (.func 76) #[] [].toArray), (10, .int .i64 ((g.1))), (11, .int .i64 ((g.2)))]) (fun g w' => Hp Z0 (LS [ownR 42 A0 c0 T_api_Pair.rep x0]) w w' [ownR 42 A0 c0 T_api_Pair.rep x0]) (fun n g => m_slices_symMergeCmpFunc_api_Pair_s2_L2 x0 x1 j1 n g.1 g.2) fuel (x2, x3) (Sub.cons rfl (Sub.cons rfl (Sub.cons rfl (Sub.cons rfl (Sub.cons rfl (Sub.nil _)))))) (hm0.pick [0] rfl (by decide)) hM (fun _ => rfl) ?_
  clear hM
  rintro m25 ⟨y23, y24⟩ w25 hm25 hM hn25
  replace hM : m_slices_symMergeCmpFunc_api_Pair_s2_L2 x0 x1 j1 (m25 + 1) y23 y24 = some r := hM
  rw [m_slices_symMergeCmpFunc_api_Pair_s2_L2] at hM
  refine gg 7 rfl ?_
  refine Rn.condD rfl (fun h26 => ?_) (fun h26 => ?_)
  ·replace hM := iteT h26 hM
   refine gg 7 rfl (Rn.q rfl (V.cv64 Tryz.underlying3 Tryz.underlying92 rfl) (Rn.q rfl (V.sh64 rfl rfl _ 1 rfl rfl (b64_shr _ _ _ 1 (by decide))) (Rn.q rfl (V.cvW Tryz.underlying92 Tryz.underlying3 rfl) (gg 3 rfl ?_))))
   refine Rn.drawH rfl hm25 ?_
   intro w27 hm27
   refine dd [0, 1, 2] (by kernel_rfl) rfl rfl ?_
   obtain ⟨z28, e28, hM⟩ := bindE hM
   obtain ⟨kk28, ke28, kz28, kl28⟩ := idxE e28
   obtain ⟨g28, vs28, hA28, hR28, hrel28⟩ := hm27.ownAt 0 rfl kz28
   subst hA28
   obtain ⟨_, _, rfl, ⟨rfl, _⟩, ⟨rfl, _⟩⟩ := hrel28
   refine RH.take 3 (by kernel_rfl) rfl rfl rfl rfl (fun w' hDr => V.ixE kk28 Tryz.underlying22 Tryz.sizeOf42 rfl rfl ke28 kl28) ?_
   refine RH.take 4 (by kernel_rfl) rfl rfl rfl rfl (fun w' hDr => V.ldA (vs := [_, _]) Tryz.isAgg42 Tryz.sizeOf42 rfl (Rd.pre (hR28.ext hDr) 2) rfl) ?_
   refine dd [5, 6] (by kernel_rfl) rfl rfl ?_
   obtain ⟨z29, e29, hM⟩ := bindE hM
   obtain ⟨kk29, ke29, kz29, kl29⟩ := idxE e29
   obtain ⟨vs29, hR29, hrel29⟩ := hm27.ownAtL 0 rfl kz29
   obtain ⟨_, _, rfl, ⟨rfl, _⟩, ⟨rfl, _⟩⟩ := hrel29
   refine RH.here fun hS7 => RH.one 7 (by kernel_rfl) rfl rfl rfl rfl (V.ixE kk29 Tryz.underlying22 Tryz.sizeOf42 rfl rfl ke29 kl29) hS7 ?_
   refine RH.here fun hS8 => RH.one 8 (by kernel_rfl) rfl rfl rfl rfl (V.ldA (vs := [_, _]) Tryz.isAgg42 Tryz.sizeOf42 rfl (Rd.pre hR29 2) rfl) hS8 ?_
   obtain ⟨p30, e30, hM⟩ := bindE hM
   refine RH.clV ck76 9 (by kernel_rfl) rfl rfl rfl rfl rfl (m_label_Sorted_1_sim (Z0 := All) e30  :) ?_
   rintro _ w30 ⟨rfl, hq30⟩
   refine ⟨_, rfl, ((Ext.refl _).trans hq30.fr), ?_⟩
   have hm31 := hm27.call0 hq30
   refine dd [10] (by kernel_rfl) rfl rfl ?_
   refine RH.doneP (by kernel_rfl) ?_
   refine Rn.condD rfl (fun h32 => ?_) (fun h32 => ?_)
   ·replace hM := iteT h32 hM
    refine gg 6 rfl ?_
    exact hn25 ((W64 ((W64 (((toU64 (W64 (y23 + y24))) >>> UInt64.ofNat 1).toNat : Int)) + 1)), y24) _ _ (Sub.cons rfl (Sub.cons rfl (Sub.cons rfl (Sub.cons rfl (Sub.cons rfl (Sub.nil _)))))) (hm31.pick [0] rfl (by decide)) hM
   ·replace hM := iteF h32 hM
    refine gg 5 rfl ?_
    exact hn25 (y23, (W64 (((toU64 (W64 (y23 + y24))) >>> UInt64.ofNat 1).toNat : Int))) _ _ (Sub.cons rfl (Sub.cons rfl (Sub.cons rfl (Sub.cons rfl (Sub.cons rfl (Sub.nil _)))))) (hm31.pick [0] rfl (by decide)) hM
  ·replace hM := iteF h26 hM
   refine gg 1 rfl ?_
   exact hk1 y23 _ _ (Sub.cons rfl (Sub.cons rfl (Sub.cons rfl (Sub.nil _)))) (hm25.pick [0] rfl (by decide)) hM
 ·replace hM := iteF h2 hM
  refine gg 9 rfl ?_
  refine Rn.condD rfl (fun h33 => ?_) (fun h33 => ?_)
  ·replace hM := iteT h33 hM
   refine gg 11 rfl ?_
   obtain ⟨j3, hj3, hM⟩ := jnE hM
   refine Rn.joinG (r := r) (G := Int) (fun g => [(0, .slice A0 (x0).length c0), (2, .int .i64 (x2)), (14, .int .i64 (g))]) (fun g w' => Hp Z0 (LS [ownR 42 A0 c0 T_api_Pair.rep x0]) w w' [ownR 42 A0 c0 T_api_Pair.rep x0]) (fun g => j3 g) ?_ ?_
   ·subst hj3
    clear hM
    rintro y34 w35 hm35 hM
    try dsimp only at hM
    refine gg 6 rfl ?_
    obtain ⟨j4, hj4, hM⟩ := jnE hM
    refine Rn.joinG (r := r) (G := (List T_api_Pair)) (fun g => []) (fun g w' => Hp Z0 (LS [ownR 42 A0 c0 T_api_Pair.rep x0]) w w' [ownR 42 A0 c0 T_api_Pair.rep g] ∧ g.length = (x0).length) (fun g => j4 g) ?_ ?_
    ·subst hj4
     clear hM
     rintro y36 w37 ⟨hm37, hl36⟩ hM
     replace hl36 : y36.length = (x0).length := hl36
     try dsimp only at hM
     refine Rn.ret0 Tryz.func96 rfl ?_
     obtain rfl := someE hM
     exact ⟨rfl, hm37.pick [0] rfl (by decide), hl36⟩
    intro hk4
    clear hj4
    refine gg 1 rfl ?_
    refine Rn.loopF (G := (List T_api_Pair) × Int) (fun g => [(0, .slice A0 (x0).length c0), (14, .int .i64 (y34)), (17, .int .i64 ((g.2)))]) (fun g w' => Hp Z0 (LS [ownR 42 A0 c0 T_api_Pair.rep x0]) w w' [ownR 42 A0 c0 T_api_Pair.rep (g.1)] ∧ (g.1).length = (x0).length) (fun n g => m_slices_symMergeCmpFunc_api_Pair_s2_L3 y34 j4 n g.1 g.2) fuel (x0, x2) (Sub.cons rfl (Sub.cons rfl (Sub.cons rfl (Sub.nil _)))) (⟨hm35.pick [0] rfl (by decide), rfl⟩) hM (fun _ => rfl) ?_
    clear hM
    rintro m40 ⟨y38, y39⟩ w40 ⟨hm40, hl38⟩ hM hn40
    replace hl38 : y38.length = (x0).length := hl38
    replace hM : m_slices_symMergeCmpFunc_api_Pair_s2_L3 y34 j4 (m40 + 1) y38 y39 = some r := hM
    rw [m_slices_symMergeCmpFunc_api_Pair_s2_L3] at hM
    refine gg 7 rfl ?_
    refine Rn.condD rfl (fun h41 => ?_) (fun h41 => ?_)
    ·replace hM := iteT h41 hM
     refine gg 3 rfl ?_
     refine Rn.drawX rfl hm40 ?_
     intro w42 hm42
     refine dd [0, 1, 2, 3, 4, 5, 6, 7] (by kernel_rfl) rfl rfl ?_
     obtain ⟨z43, e43, hM⟩ := bindE hM
     obtain ⟨kk43, ke43, kz43, kl43⟩ := idxE e43
     obtain ⟨g43, vs43, hA43, hR43, hrel43⟩ := hm42.ownAt 0 rfl kz43
     subst hA43
     obtain ⟨_, _, rfl, ⟨rfl, _⟩, ⟨rfl, _⟩⟩ := hrel43
     refine RH.take 8 (by kernel_rfl) rfl rfl rfl rfl (fun w' hDr => V.ixE kk43 Tryz.underlying22 Tryz.sizeOf42 rfl rfl ke43 (Nat.lt_of_lt_of_eq kl43 hl38)) ?_
     refine dd [10, 11] (by kernel_rfl) rfl rfl ?_
     obtain ⟨z44, e44, hM⟩ := bindE hM
     obtain ⟨kk44, ke44, kz44, kl44⟩ := idxE e44
     obtain ⟨vs44, hR44, hrel44⟩ := hm42.ownAtL 0 rfl kz44
     obtain ⟨_, _, rfl, ⟨rfl, _⟩, ⟨rfl, _⟩⟩ := hrel44
     refine RH.take 12 (by kernel_rfl) rfl rfl rfl rfl (fun w' hDr => V.ixE kk44 Tryz.underlying22 Tryz.sizeOf42 rfl rfl ke44 (Nat.lt_of_lt_of_eq kl44 hl38)) ?_
     refine RH.two 9 13 (by kernel_rfl) rfl rfl rfl rfl (V.ldA (vs := [_, _]) Tryz.isAgg42 Tryz.sizeOf42 rfl (Rd.pre hR43 2) rfl) rfl rfl rfl rfl (V.ldA (vs := [_, _]) Tryz.isAgg42 Tryz.sizeOf42 rfl (Rd.pre hR44 2) rfl) ?_ ?_
     ·refine RH.here fun hS13 => RH.one 13 (by kernel_rfl) rfl rfl rfl rfl (V.ldA (vs := [_, _]) Tryz.isAgg42 Tryz.sizeOf42 rfl (Rd.pre hR44 2) rfl) hS13 ?_
      obtain ⟨z46, e46, hM⟩ := bindE hM
      obtain ⟨kk46, ke46, kz46, kl46⟩ := idxE e46
      obtain ⟨vs46, hR46, hrel46⟩ := hm42.ownAtL 0 rfl kz46
      obtain ⟨_, _, rfl, ⟨rfl, _⟩, ⟨rfl, _⟩⟩ := hrel46
      refine RH.here fun hS14 => RH.one 14 (by kernel_rfl) rfl rfl rfl rfl (V.ixE kk46 Tryz.underlying22 Tryz.sizeOf42 rfl rfl ke46 (Nat.lt_of_lt_of_eq kl46 hl38)) hS14 ?_
      refine RH.stI 15 (by kernel_rfl) hm42 0 rfl ke46 kl46 rfl rfl Tryz.sizeOf42 rfl rfl rfl (vs := [Str (z43.Key), Str (z43.Val)]) rfl (⟨_, _, rfl, ⟨rfl, trivial⟩, ⟨rfl, trivial⟩⟩) ?_
      intro w47 hm47
      refine ⟨trivial, ?_⟩
      obtain ⟨z48, e48, hM⟩ := bindE hM
      obtain ⟨kk48, ke48, kz48, kl48⟩ := idxE e48
      obtain ⟨vs48, hR48, hrel48⟩ := hm47.ownAtL 0 rfl kz48
      obtain ⟨_, _, rfl, ⟨rfl, _⟩, ⟨rfl, _⟩⟩ := hrel48
      refine RH.here fun hS16 => RH.one 16 (by kernel_rfl) rfl rfl rfl rfl (V.ixE kk48 Tryz.underlying22 Tryz.sizeOf42 rfl rfl ke48 (Nat.lt_of_lt_of_eq kl48 ((length_setI _ _ _).trans hl38))) hS16 ?_
      refine RH.stI 17 (by kernel_rfl) hm47 0 rfl ke48 kl48 rfl rfl Tryz.sizeOf42 rfl rfl rfl (vs := [Str (z44.Key), Str (z44.Val)]) rfl (⟨_, _, rfl, ⟨rfl, trivial⟩, ⟨rfl, trivial⟩⟩) ?_
      intro w49 hm49
      refine ⟨trivial, ?_⟩
      refine RH.doneP (by kernel_rfl) ?_
      refine gg 6 rfl ?_
      exact hn40 ((setI (setI y38 y39 z43) (W64 (y39 - 1)) z44), (W64 (y39 - 1))) _ _ (Sub.cons rfl (Sub.cons rfl (Sub.cons rfl (Sub.nil _)))) (⟨hm49.pick [0] rfl (by decide), ((length_setI _ _ _).trans ((length_setI _ _ _).trans hl38))⟩) hM
     ·refine RH.here fun hS9 => RH.one 9 (by kernel_rfl) rfl rfl rfl rfl (V.ldA (vs := [_, _]) Tryz.isAgg42 Tryz.sizeOf42 rfl (Rd.pre hR43 2) rfl) hS9 ?_
      obtain ⟨z50, e50, hM⟩ := bindE hM
      obtain ⟨kk50, ke50, kz50, kl50⟩ := idxE e50
      obtain ⟨vs50, hR50, hrel50⟩ := hm42.ownAtL 0 rfl kz50
      obtain ⟨_, _, rfl, ⟨rfl, _⟩, ⟨rfl, _⟩⟩ := hrel50
      refine RH.here fun hS14 => RH.one 14 (by kernel_rfl) rfl rfl rfl rfl (V.ixE kk50 Tryz.underlying22 Tryz.sizeOf42 rfl rfl ke50 (Nat.lt_of_lt_of_eq kl50 hl38)) hS14 ?_
      refine RH.stI 15 (by kernel_rfl) hm42 0 rfl ke50 kl50 rfl rfl Tryz.sizeOf42 rfl rfl rfl (vs := [Str (z43.Key), Str (z43.Val)]) rfl (⟨_, _, rfl, ⟨rfl, trivial⟩, ⟨rfl, trivial⟩⟩) ?_
      intro w51 hm51
      refine ⟨trivial, ?_⟩
      obtain ⟨z52, e52, hM⟩ := bindE hM
      obtain ⟨kk52, ke52, kz52, kl52⟩ := idxE e52
      obtain ⟨vs52, hR52, hrel52⟩ := hm51.ownAtL 0 rfl kz52
      obtain ⟨_, _, rfl, ⟨rfl, _⟩, ⟨rfl, _⟩⟩ := hrel52
      refine RH.here fun hS16 => RH.one 16 (by kernel_rfl) rfl rfl rfl rfl (V.ixE kk52 Tryz.underlying22 Tryz.sizeOf42 rfl rfl ke52 (Nat.lt_of_lt_of_eq kl52 ((length_setI _ _ _).trans hl38))) hS16 ?_
      refine RH.stI 17 (by kernel_rfl) hm51 0 rfl ke52 kl52 rfl rfl Tryz.sizeOf42 rfl rfl rfl (vs := [Str (z44.Key), Str (z44.Val)]) rfl (⟨_, _, rfl, ⟨rfl, trivial⟩, ⟨rfl, trivial⟩⟩) ?_
      intro w53 hm53
      refine ⟨trivial, ?_⟩
      refine RH.doneP (by kernel_rfl) ?_
      refine gg 6 rfl ?_
      exact hn40 ((setI (setI y38 y39 z43) (W64 (y39 - 1)) z44), (W64 (y39 - 1))) _ _ (Sub.cons rfl (Sub.cons rfl (Sub.cons rfl (Sub.nil _)))) (⟨hm53.pick [0] rfl (by decide), ((length_setI _ _ _).trans ((length_setI _ _ _).trans hl38))⟩) hM
    ·replace hM := iteF h41 hM
     refine gg 1 rfl ?_
     exact hk4 y38 _ _ (Sub.nil _) (⟨hm40.pick [0] rfl (by decide), hl38⟩) hM
   intro hk3
   clear hj3
   refine gg 1 rfl ?_
   refine Rn.loopF (G := Int × Int) (fun g => [(0, .slice A0 (x0).length c0), (2, .int .i64 (x2)), (4, .func (.func 76) #[] [].toArray), (14, .int .i64 ((g.1))), (15, .int .i64 ((g.2)))]) (fun g w' => Hp Z0 (LS [ownR 42 A0 c0 T_api_Pair.rep x0]) w w' [ownR 42 A0 c0 T_api_Pair.rep x0]) (fun n g => m_slices_symMergeCmpFunc_api_Pair_s2_L4 x0 x2 j3 n g.1 g.2) fuel (x1, x2) (Sub.cons rfl (Sub.cons rfl (Sub.cons rfl (Sub.cons rfl (Sub.cons rfl (Sub.nil _)))))) (hm0.pick [0] rfl (by decide)) hM (fun _ => rfl) ?_
   clear hM
   rintro m56 ⟨y54, y55⟩ w56 hm56 hM hn56
   replace hM : m_slices_symMergeCmpFunc_api_Pair_s2_L4 x0 x2 j3 (m56 + 1) y54 y55 = some r := hM
   rw [m_slices_symMergeCmpFunc_api_Pair_s2_L4] at hM
   refine gg 7 rfl ?_
   refine Rn.condD rfl (fun h57 => ?_) (fun h57 => ?_)
   ·replace hM := iteT h57 hM
    refine gg 7 rfl (Rn.q rfl (V.cv64 Tryz.underlying3 Tryz.underlying92 rfl) (Rn.q rfl (V.sh64 rfl rfl _ 1 rfl rfl (b64_shr _ _ _ 1 (by decide))) (Rn.q rfl (V.cvW Tryz.underlying92 Tryz.underlying3 rfl) (gg 3 rfl ?_))))
    refine Rn.drawH rfl hm56 ?_
    intro w58 hm58
    refine dd [0, 1, 2] (by kernel_rfl) rfl rfl ?_
    obtain ⟨z59, e59, hM⟩ := bindE hM
    obtain ⟨kk59, ke59, kz59, kl59⟩ := idxE e59
    obtain ⟨g59, vs59, hA59, hR59, hrel59⟩ := hm58.ownAt 0 rfl kz59
    subst hA59
    obtain ⟨_, _, rfl, ⟨rfl, _⟩, ⟨rfl, _⟩⟩ := hrel59
    refine RH.take 3 (by kernel_rfl) rfl rfl rfl rfl (fun w' hDr => V.ixE kk59 Tryz.underlying22 Tryz.sizeOf42 rfl rfl ke59 kl59) ?_
    refine RH.take 4 (by kernel_rfl) rfl rfl rfl rfl (fun w' hDr => V.ldA (vs := [_, _]) Tryz.isAgg42 Tryz.sizeOf42 rfl (Rd.pre (hR59.ext hDr) 2) rfl) ?_
    refine dd [5, 6] (by kernel_rfl) rfl rfl ?_
    obtain ⟨z60, e60, hM⟩ := bindE hM
    obtain ⟨kk60, ke60, kz60, kl60⟩ := idxE e60
    obtain ⟨vs60, hR60, hrel60⟩ := hm58.ownAtL 0 rfl kz60
    obtain ⟨_, _, rfl, ⟨rfl, _⟩, ⟨rfl, _⟩⟩ := hrel60
    refine RH.here fun hS7 => RH.one 7 (by kernel_rfl) rfl rfl rfl rfl (V.ixE kk60 Tryz.underlying22 Tryz.sizeOf42 rfl rfl ke60 kl60) hS7 ?_
    refine RH.here fun hS8 => RH.one 8 (by kernel_rfl) rfl rfl rfl rfl (V.ldA (vs := [_, _]) Tryz.isAgg42 Tryz.sizeOf42 rfl (Rd.pre hR60 2) rfl) hS8 ?_
    obtain ⟨p61, e61, hM⟩ := bindE hM
    refine RH.clV ck76 9 (by kernel_rfl) rfl rfl rfl rfl rfl (m_label_Sorted_1_sim (Z0 := All) e61  :) ?_
    rintro _ w61 ⟨rfl, hq61⟩
    refine ⟨_, rfl, ((Ext.refl _).trans hq61.fr), ?_⟩
    have hm62 := hm58.call0 hq61
    refine dd [10] (by kernel_rfl) rfl rfl ?_
    refine RH.here fun hS11 => RH.one 11 (by kernel_rfl) rfl rfl rfl rfl (V.notD rfl) hS11 ?_
    refine RH.doneP (by kernel_rfl) ?_
    refine Rn.condD rfl (fun h63 => ?_) (fun h63 => ?_)
    ·replace hM := iteT h63 hM
     refine gg 6 rfl ?_
     exact hn56 ((W64 ((W64 (((toU64 (W64 (y54 + y55))) >>> UInt64.ofNat 1).toNat : Int)) + 1)), y55) _ _ (Sub.cons rfl (Sub.cons rfl (Sub.cons rfl (Sub.cons rfl (Sub.cons rfl (Sub.nil _)))))) (hm62.pick [0] rfl (by decide)) hM
    ·replace hM := iteF h63 hM
     refine gg 5 rfl ?_
     exact hn56 (y54, (W64 (((toU64 (W64 (y54 + y55))) >>> UInt64.ofNat 1).toNat : Int))) _ _ (Sub.cons rfl (Sub.cons rfl (Sub.cons rfl (Sub.cons rfl (Sub.cons rfl (Sub.nil _)))))) (hm62.pick [0] rfl (by decide)) hM
   ·replace hM := iteF h57 hM
    refine gg 1 rfl ?_
    exact hk3 y54 _ _ (Sub.cons rfl (Sub.cons rfl (Sub.cons rfl (Sub.nil _)))) (hm56.pick [0] rfl (by decide)) hM
  ·replace hM := iteF h33 hM
   refine gg 6 rfl (Rn.q rfl (V.cv64 Tryz.underlying3 Tryz.underlying92 rfl) (Rn.q rfl (V.sh64 rfl rfl _ 1 rfl rfl (b64_shr _ _ _ 1 (by decide))) (Rn.q rfl (V.cvW Tryz.underlying92 Tryz.underlying3 rfl) (gg 21 rfl ?_))))
   obtain ⟨j5, hj5, hM⟩ := jnE hM
   refine Rn.joinG (r := r) (G := Int × Int) (fun g => [(0, .slice A0 (x0).length c0), (1, .int .i64 (x1)), (2, .int .i64 (x2)), (3, .int .i64 (x3)), (4, .func (.func 76) #[] [].toArray), (18, .int .i64 (W64 (((toU64 (W64 (x1 + x3))) >>> UInt64.ofNat 1).toNat : Int))), (19, .int .i64 (W64 ((W64 (((toU64 (W64 (x1 + x3))) >>> UInt64.ofNat 1).toNat : Int)) + x2))), (20, .int .i64 ((g.1))), (21, .int .i64 ((g.2)))]) (fun g w' => Hp Z0 (LS [ownR 42 A0 c0 T_api_Pair.rep x0]) w w' [ownR 42 A0 c0 T_api_Pair.rep x0]) (fun g => j5 g.1 g.2) ?_ ?_
   ·subst hj5
    clear hM
    rintro ⟨y64, y65⟩ w66 hm66 hM
    try dsimp only at hM
    refine gg 7 rfl ?_
    obtain ⟨j6, hj6, hM⟩ := jnE hM
    refine Rn.joinG (r := r) (G := Int) (fun g => [(0, .slice A0 (x0).length c0), (1, .int .i64 (x1)), (2, .int .i64 (x2)), (3, .int .i64 (x3)), (4, .func (.func 76) #[] [].toArray), (18, .int .i64 (W64 (((toU64 (W64 (x1 + x3))) >>> UInt64.ofNat 1).toNat : Int))), (19, .int .i64 (W64 ((W64 (((toU64 (W64 (x1 + x3))) >>> UInt64.ofNat 1).toNat : Int)) + x2))), (20, .int .i64 (g))]) (fun g w' => Hp Z0 (LS [ownR 42 A0 c0 T_api_Pair.rep x0]) w w' [ownR 42 A0 c0 T_api_Pair.rep x0]) (fun g => j6 g) ?_ ?_
    ·subst hj6
     clear hM
     rintro y67 w68 hm68 hM
     try dsimp only at hM
     refine gg 14 rfl ?_
     refine Rn.cutR [] [(0, .slice A0 (x0).length c0), (1, .int .i64 (x1)), (2, .int .i64 (x2)), (3, .int .i64 (x3)), (4, .func (.func 76) #[] [].toArray), (18, .int .i64 (W64 (((toU64 (W64 (x1 + x3))) >>> UInt64.ofNat 1).toNat : Int))), (20, .int .i64 (y67)), (24, .int .i64 (W64 ((W64 ((W64 (((toU64 (W64 (x1 + x3))) >>> UInt64.ofNat 1).toNat : Int)) + x2)) - y67))), (185, .bool (decide ((y67 < x2) ∧ (x2 < W64 ((W64 ((W64 (((toU64 (W64 (x1 + x3))) >>> UInt64.ofNat 1).toNat : Int)) + x2)) - y67)))))] (fun hk69 => ?_) ?_
     ·refine Rn.partD (t := 181) rfl (fun h70 => ?_) (fun h70 => ?_)
      ·refine gg 4 rfl ?_
       refine hk69 _ ?_
       exact Sub.cons rfl (Sub.cons rfl (Sub.cons rfl (Sub.cons rfl (Sub.cons rfl (Sub.cons rfl (Sub.cons rfl (Sub.cons rfl (Sub.cons (lkv _ rfl (by first | exact andT h70 | exact andF h70 | exact orT h70 | exact orF h70 | exact nandF h70 | exact nandT h70 | exact norT h70 | exact norF h70 | (simp [h70]; done) | grind)) (Sub.nil _)))))))))
      ·refine gg 4 rfl ?_
       refine hk69 _ ?_
       exact Sub.cons rfl (Sub.cons rfl (Sub.cons rfl (Sub.cons rfl (Sub.cons rfl (Sub.cons rfl (Sub.cons rfl (Sub.cons rfl (Sub.cons (lkv _ rfl (by first | exact andT h70 | exact andF h70 | exact orT h70 | exact orF h70 | exact nandF h70 | exact nandT h70 | exact norT h70 | exact norF h70 | (simp [h70]; done) | grind)) (Sub.nil _)))))))))
     refine gg 1 rfl ?_
     obtain ⟨j7, hj7, hM⟩ := jnE hM
     refine Rn.joinG (r := r) (G := (List T_api_Pair)) (fun g => [(0, .slice A0 (x0).length c0), (1, .int .i64 (x1)), (3, .int .i64 (x3)), (4, .func (.func 76) #[] [].toArray), (18, .int .i64 (W64 (((toU64 (W64 (x1 + x3))) >>> UInt64.ofNat 1).toNat : Int))), (20, .int .i64 (y67)), (24, .int .i64 (W64 ((W64 ((W64 (((toU64 (W64 (x1 + x3))) >>> UInt64.ofNat 1).toNat : Int)) + x2)) - y67)))]) (fun g w' => Hp Z0 (LS [ownR 42 A0 c0 T_api_Pair.rep x0]) w w' [ownR 42 A0 c0 T_api_Pair.rep g] ∧ g.length = (x0).length) (fun g => j7 g) ?_ ?_
     ·subst hj7
      clear hM
      rintro y71 w72 ⟨hm72, hl71⟩ hM
      replace hl71 : y71.length = (x0).length := hl71
      try dsimp only at hM
      refine gg 7 rfl ?_
      refine Rn.cutR [] [(0, .slice A0 (x0).length c0), (1, .int .i64 (x1)), (3, .int .i64 (x3)), (4, .func (.func 76) #[] [].toArray), (18, .int .i64 (W64 (((toU64 (W64 (x1 + x3))) >>> UInt64.ofNat 1).toNat : Int))), (20, .int .i64 (y67)), (24, .int .i64 (W64 ((W64 ((W64 (((toU64 (W64 (x1 + x3))) >>> UInt64.ofNat 1).toNat : Int)) + x2)) - y67))), (199, .bool (decide ((x1 < y67) ∧ (y67 < W64 (((toU64 (W64 (x1 + x3))) >>> UInt64.ofNat 1).toNat : Int)))))] (fun hk73 => ?_) ?_
      ·refine Rn.partD (t := 195) rfl (fun h74 => ?_) (fun h74 => ?_)
       ·refine gg 4 rfl ?_
        refine hk73 _ ?_
        exact Sub.cons rfl (Sub.cons rfl (Sub.cons rfl (Sub.cons rfl (Sub.cons rfl (Sub.cons rfl (Sub.cons rfl (Sub.cons (lkv _ rfl (by first | exact andT h74 | exact andF h74 | exact orT h74 | exact orF h74 | exact nandF h74 | exact nandT h74 | exact norT h74 | exact norF h74 | (simp [h74]; done) | grind)) (Sub.nil _))))))))
       ·refine gg 4 rfl ?_
        refine hk73 _ ?_
        exact Sub.cons rfl (Sub.cons rfl (Sub.cons rfl (Sub.cons rfl (Sub.cons rfl (Sub.cons rfl (Sub.cons rfl (Sub.cons (lkv _ rfl (by first | exact andT h74 | exact andF h74 | exact orT h74 | exact orF h74 | exact nandF h74 | exact nandT h74 | exact norT h74 | exact norF h74 | (simp [h74]; done) | grind)) (Sub.nil _))))))))
      refine gg 1 rfl ?_
      obtain ⟨j8, hj8, hM⟩ := jnE hM
      refine Rn.joinG (r := r) (G := Unit) (fun g => [(0, .slice A0 (x0).length c0), (3, .int .i64 (x3)), (4, .func (.func 76) #[] [].toArray), (18, .int .i64 (W64 (((toU64 (W64 (x1 + x3))) >>> UInt64.ofNat 1).toNat : Int))), (24, .int .i64 (W64 ((W64 ((W64 (((toU64 (W64 (x1 + x3))) >>> UInt64.ofNat 1).toNat : Int)) + x2)) - y67)))]) (fun g w' => Hp Z0 (LS [ownR 42 A0 c0 T_api_Pair.rep x0]) w w' [ownR 42 A0 c0 T_api_Pair.rep y71]) (fun g => j8 ()) ?_ ?_
      ·subst hj8
       clear hM
       rintro _ w75 hm75 hM
       try dsimp only at hM
       refine gg 6 rfl ?_
       refine Rn.cutR [] [(0, .slice A0 (x0).length c0), (3, .int .i64 (x3)), (4, .func (.func 76) #[] [].toArray), (18, .int .i64 (W64 (((toU64 (W64 (x1 + x3))) >>> UInt64.ofNat 1).toNat : Int))), (24, .int .i64 (W64 ((W64 ((W64 (((toU64 (W64 (x1 + x3))) >>> UInt64.ofNat 1).toNat : Int)) + x2)) - y67))), (213, .bool (decide ((W64 (((toU64 (W64 (x1 + x3))) >>> UInt64.ofNat 1).toNat : Int) < W64 ((W64 ((W64 (((toU64 (W64 (x1 + x3))) >>> UInt64.ofNat 1).toNat : Int)) + x2)) - y67)) ∧ (W64 ((W64 ((W64 (((toU64 (W64 (x1 + x3))) >>> UInt64.ofNat 1).toNat : Int)) + x2)) - y67) < x3))))] (fun hk76 => ?_) ?_
       ·refine Rn.partD (t := 209) rfl (fun h77 => ?_) (fun h77 => ?_)
        ·refine gg 4 rfl ?_
         refine hk76 _ ?_
         exact Sub.cons rfl (Sub.cons rfl (Sub.cons rfl (Sub.cons rfl (Sub.cons rfl (Sub.cons (lkv _ rfl (by first | exact andT h77 | exact andF h77 | exact orT h77 | exact orF h77 | exact nandF h77 | exact nandT h77 | exact norT h77 | exact norF h77 | (simp [h77]; done) | grind)) (Sub.nil _))))))
        ·refine gg 4 rfl ?_
         refine hk76 _ ?_
         exact Sub.cons rfl (Sub.cons rfl (Sub.cons rfl (Sub.cons rfl (Sub.cons rfl (Sub.cons (lkv _ rfl (by first | exact andT h77 | exact andF h77 | exact orT h77 | exact orF h77 | exact nandF h77 | exact nandT h77 | exact norT h77 | exact norF h77 | (simp [h77]; done) | grind)) (Sub.nil _))))))
       refine gg 1 rfl ?_
       refine Rn.condD rfl (fun h78 => ?_) (fun h78 => ?_)
       ·replace hM := iteT h78 hM
        cases hM
       ·replace hM := iteF h78 hM
        refine gg 1 rfl ?_
        refine Rn.end0 Tryz.func96 rfl ?_
        obtain rfl := someE hM
        exact ⟨rfl, hm75.pick [0] rfl (by decide), hl71⟩
      intro hk8
      clear hj8
      refine Rn.condD rfl (fun h80 => ?_) (fun h80 => ?_)
      ·replace hM := iteT h80 hM
       cases hM
      ·replace hM := iteF h80 hM
       refine gg 1 rfl ?_
       exact hk8 () _ _ (Sub.cons rfl (Sub.cons rfl (Sub.cons rfl (Sub.cons rfl (Sub.cons rfl (Sub.nil _)))))) (hm72.pick [0] rfl (by decide)) hM
     intro hk7
     clear hj7
     refine Rn.condD rfl (fun h82 => ?_) (fun h82 => ?_)
     ·replace hM := iteT h82 hM
      refine gg 6 rfl ?_
      obtain ⟨p83, e83, hM⟩ := bindE hM
      have hm84 := (hm68.cut [] [0] rfl (by decide)).nf ([] ++ [_]) rfl
      refine Rn.cl ck101 rfl rfl rfl rfl (m_slices_rotateCmpFunc_api_Pair_s2_sim e83 hm84.lend :) ?_
      rintro _ w83 ⟨rfl, hq83, hl83_0⟩
      refine ⟨_, rfl, ?_⟩
      have hm86 := hm84.callAZ hq83
      refine gg 1 rfl ?_
      exact hk7 p83 _ _ (Sub.cons rfl (Sub.cons rfl (Sub.cons rfl (Sub.cons rfl (Sub.cons rfl (Sub.cons rfl (Sub.cons rfl (Sub.nil _)))))))) (⟨hm86.pick [0] rfl (by decide), hl83_0⟩) hM
     ·replace hM := iteF h82 hM
      refine gg 1 rfl ?_
      exact hk7 x0 _ _ (Sub.cons rfl (Sub.cons rfl (Sub.cons rfl (Sub.cons rfl (Sub.cons rfl (Sub.cons rfl (Sub.cons rfl (Sub.nil _)))))))) (⟨hm68.pick [0] rfl (by decide), rfl⟩) hM
    intro hk6
    clear hj6
    refine gg 1 rfl ?_
    refine Rn.loopF (G := Int × Int) (fun g => [(0, .slice A0 (x0).length c0), (1, .int .i64 (x1)), (2, .int .i64 (x2)), (3, .int .i64 (x3)), (4, .func (.func 76) #[] [].toArray), (18, .int .i64 (W64 (((toU64 (W64 (x1 + x3))) >>> UInt64.ofNat 1).toNat : Int))), (19, .int .i64 (W64 ((W64 (((toU64 (W64 (x1 + x3))) >>> UInt64.ofNat 1).toNat : Int)) + x2))), (20, .int .i64 ((g.1))), (21, .int .i64 ((g.2))), (22, .int .i64 (W64 ((W64 ((W64 (((toU64 (W64 (x1 + x3))) >>> UInt64.ofNat 1).toNat : Int)) + x2)) - 1)))]) (fun g w' => Hp Z0 (LS [ownR 42 A0 c0 T_api_Pair.rep x0]) w w' [ownR 42 A0 c0 T_api_Pair.rep x0]) (fun n g => m_slices_symMergeCmpFunc_api_Pair_s2_L5 x0 x1 x2 x3 j6 n g.1 g.2) fuel (y64, y65) (Sub.cons rfl (Sub.cons rfl (Sub.cons rfl (Sub.cons rfl (Sub.cons rfl (Sub.cons rfl (Sub.cons rfl (Sub.cons rfl (Sub.cons rfl (Sub.cons rfl (Sub.nil _))))))))))) (hm66.pick [0] rfl (by decide)) hM (fun _ => rfl) ?_
    clear hM
    rintro m89 ⟨y87, y88⟩ w89 hm89 hM hn89
    replace hM : m_slices_symMergeCmpFunc_api_Pair_s2_L5 x0 x1 x2 x3 j6 (m89 + 1) y87 y88 = some r := hM
    rw [m_slices_symMergeCmpFunc_api_Pair_s2_L5] at hM
    refine gg 7 rfl ?_
    refine Rn.condD rfl (fun h90 => ?_) (fun h90 => ?_)
    ·replace hM := iteT h90 hM
     refine gg 7 rfl (Rn.q rfl (V.cv64 Tryz.underlying3 Tryz.underlying92 rfl) (Rn.q rfl (V.sh64 rfl rfl _ 1 rfl rfl (b64_shr _ _ _ 1 (by decide))) (Rn.q rfl (V.cvW Tryz.underlying92 Tryz.underlying3 rfl) (gg 3 rfl ?_))))
     refine Rn.drawH rfl hm89 ?_
     intro w91 hm91
     refine dd [0, 1, 2, 3, 4] (by kernel_rfl) rfl rfl ?_
     obtain ⟨z92, e92, hM⟩ := bindE hM
     obtain ⟨kk92, ke92, kz92, kl92⟩ := idxE e92
     obtain ⟨g92, vs92, hA92, hR92, hrel92⟩ := hm91.ownAt 0 rfl kz92
     subst hA92
     obtain ⟨_, _, rfl, ⟨rfl, _⟩, ⟨rfl, _⟩⟩ := hrel92
     refine RH.take 5 (by kernel_rfl) rfl rfl rfl rfl (fun w' hDr => V.ixE kk92 Tryz.underlying22 Tryz.sizeOf42 rfl rfl ke92 kl92) ?_
     refine RH.take 6 (by kernel_rfl) rfl rfl rfl rfl (fun w' hDr => V.ldA (vs := [_, _]) Tryz.isAgg42 Tryz.sizeOf42 rfl (Rd.pre (hR92.ext hDr) 2) rfl) ?_
     refine dd [7, 8] (by kernel_rfl) rfl rfl ?_
     obtain ⟨z93, e93, hM⟩ := bindE hM
     obtain ⟨kk93, ke93, kz93, kl93⟩ := idxE e93
     obtain ⟨vs93, hR93, hrel93⟩ := hm91.ownAtL 0 rfl kz93
     obtain ⟨_, _, rfl, ⟨rfl, _⟩, ⟨rfl, _⟩⟩ := hrel93
     refine RH.here fun hS9 => RH.one 9 (by kernel_rfl) rfl rfl rfl rfl (V.ixE kk93 Tryz.underlying22 Tryz.sizeOf42 rfl rfl ke93 kl93) hS9 ?_
     refine RH.here fun hS10 => RH.one 10 (by kernel_rfl) rfl rfl rfl rfl (V.ldA (vs := [_, _]) Tryz.isAgg42 Tryz.sizeOf42 rfl (Rd.pre hR93 2) rfl) hS10 ?_
     obtain ⟨p94, e94, hM⟩ := bindE hM
     refine RH.clV ck76 11 (by kernel_rfl) rfl rfl rfl rfl rfl (m_label_Sorted_1_sim (Z0 := All) e94  :) ?_
     rintro _ w94 ⟨rfl, hq94⟩
     refine ⟨_, rfl, ((Ext.refl _).trans hq94.fr), ?_⟩
     have hm95 := hm91.call0 hq94
     refine dd [12] (by kernel_rfl) rfl rfl ?_
     refine RH.here fun hS13 => RH.one 13 (by kernel_rfl) rfl rfl rfl rfl (V.notD rfl) hS13 ?_
     refine RH.doneP (by kernel_rfl) ?_
     refine Rn.condD rfl (fun h96 => ?_) (fun h96 => ?_)
     ·replace hM := iteT h96 hM
      refine gg 6 rfl ?_
      exact hn89 ((W64 ((W64 (((toU64 (W64 (y87 + y88))) >>> UInt64.ofNat 1).toNat : Int)) + 1)), y88) _ _ (Sub.cons rfl (Sub.cons rfl (Sub.cons rfl (Sub.cons rfl (Sub.cons rfl (Sub.cons rfl (Sub.cons rfl (Sub.cons rfl (Sub.cons rfl (Sub.cons rfl (Sub.nil _))))))))))) (hm95.pick [0] rfl (by decide)) hM
     ·replace hM := iteF h96 hM
      refine gg 5 rfl ?_
      exact hn89 (y87, (W64 (((toU64 (W64 (y87 + y88))) >>> UInt64.ofNat 1).toNat : Int))) _ _ (Sub.cons rfl (Sub.cons rfl (Sub.cons rfl (Sub.cons rfl (Sub.cons rfl (Sub.cons rfl (Sub.cons rfl (Sub.cons rfl (Sub.cons rfl (Sub.cons rfl (Sub.nil _))))))))))) (hm95.pick [0] rfl (by decide)) hM
    ·replace hM := iteF h90 hM
     refine gg 1 rfl ?_
     exact hk6 y87 _ _ (Sub.cons rfl (Sub.cons rfl (Sub.cons rfl (Sub.cons rfl (Sub.cons rfl (Sub.cons rfl (Sub.cons rfl (Sub.cons rfl (Sub.nil _))))))))) (hm89.pick [0] rfl (by decide)) hM
   intro hk5
   clear hj5
   refine Rn.condD rfl (fun h97 => ?_) (fun h97 => ?_)
   ·replace hM := iteT h97 hM
    refine gg 11 rfl ?_
    exact hk5 ((W64 ((W64 ((W64 (((toU64 (W64 (x1 + x3))) >>> UInt64.ofNat 1).toNat : Int)) + x2)) - x3)), (W64 (((toU64 (W64 (x1 + x3))) >>> UInt64.ofNat 1).toNat : Int))) _ _ (Sub.cons rfl (Sub.cons rfl (Sub.cons rfl (Sub.cons rfl (Sub.cons rfl (Sub.cons rfl (Sub.cons rfl (Sub.cons rfl (Sub.cons rfl (Sub.nil _)))))))))) (hm0.pick [0] rfl (by decide)) hM
   ·replace hM := iteF h97 hM
    refine gg 9 rfl ?_
    exact hk5 (x1, x2) _ _ (Sub.cons rfl (Sub.cons rfl (Sub.cons rfl (Sub.cons rfl (Sub.cons rfl (Sub.cons rfl (Sub.cons rfl (Sub.cons rfl (Sub.cons rfl (Sub.nil _)))))))))) (hm0.pick [0] rfl (by decide)) hM

end Go.Proofs.YtfcpdojcfogkbaaGreat
