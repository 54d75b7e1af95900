/-
  The calls of functions of the program answer as their plain forms say, part 7. Printed by a program.
-/
import Derived.Test.YtfcpdojcfogkbaaGreatRows
import Derived.Test.YtfcpdojcfogkbaaGreatSA6
set_option maxRecDepth 20000
set_option maxHeartbeats 4000000
set_option linter.unusedVariables false
set_option linter.unusedSimpArgs false
namespace Go.Proofs.YtfcpdojcfogkbaaGreat
open Go Go.RowKit Go.Wk
theorem m_limnographlaw12_PointBack_sim {Z0 : Nat → Prop} {w : World} {x0 : T_api_Point} {cs0 : List Value} {r : Bool} (hM : m_limnographlaw12_PointBack x0 = some r) (h0 : T_api_Point.rep.rel Z0 w cs0 x0) :
    Calls Tryz.prog 3 #[.agg cs0.toArray] w fun x w' => x = .returned (.bool (r)) ∧ Hp Z0 No w w' [] := by
 have hm0 := Hp.nil Z0 No w
 have hc0 := Calm.nil
 obtain ⟨_, _, rfl, ⟨rfl, _⟩, ⟨_, _, rfl, ⟨A1, c1, rfl, p1, q1, s1⟩, ⟨_, _, rfl, ⟨rfl, _⟩, ⟨_, _, rfl, ⟨rfl, _⟩, ⟨_, _, rfl, ⟨rfl, _⟩, ⟨_, _, rfl, ⟨rfl, _⟩, ⟨_, _, rfl, ⟨rfl, _⟩, ⟨_, _, rfl, ⟨rfl, _⟩, ⟨_, _, rfl, ⟨rfl, _⟩, ⟨_, _, rfl, ⟨rfl, _⟩, ⟨_, _, rfl, ⟨_, _, rfl, ⟨rfl, _⟩, ⟨_, _, rfl, ⟨rfl, _⟩, ⟨_, _, rfl, ⟨_, _, rfl, ⟨rfl, _⟩, ⟨A3, c3, rfl, p3, q3, s3⟩⟩, ⟨_, _, rfl, ⟨rfl, _⟩, ⟨A5, c5, rfl, p5, q5, s5⟩⟩⟩⟩⟩, ⟨rfl, _⟩⟩⟩⟩⟩⟩⟩⟩⟩⟩⟩⟩ := h0
 have hm7 := hm0.know (slR A1 c1 T_api_Pair.rep x0.Attrs) (fun _ h => h) (hm0.in0 hc0 ⟨p1, q1, s1⟩)
 replace hc0 := hc0.snoc (r := slR A1 c1 T_api_Pair.rep x0.Attrs) (fun _ h => h)
 have hm8 := hm7.know (slR A3 c3 w64R x0.Hist.Pos.Counts) (fun _ h => h) (hm7.in0 hc0 ⟨p3, q3, s3⟩)
 replace hc0 := hc0.snoc (r := slR A3 c3 w64R x0.Hist.Pos.Counts) (fun _ h => h)
 have hm9 := hm8.know (slR A5 c5 w64R x0.Hist.Neg.Counts) (fun _ h => h) (hm8.in0 hc0 ⟨p5, q5, s5⟩)
 replace hc0 := hc0.snoc (r := slR A5 c5 w64R x0.Hist.Neg.Counts) (fun _ h => h)
 refine Rn.enter Tryz.func3 rfl rfl (Nat.le_of_ble_eq_true rfl) ?_
 refine gg 2 rfl (Rn.box rfl rfl rfl rfl rfl ?_)
 intro b10 w10 hb10 m10 e10
 have hm12 := (hm9.addBox hb10 e10 m10).nf [_, _, _, boxR _ _ [_, _, _, _, _, _, _, _, _, _, _, _, _, _, _, _, _]] rfl
 refine gg 5 rfl ?_
 obtain ⟨p13, e13, hM⟩ := bindE hM
 refine Rn.cl ck5 rfl rfl rfl rfl (m_limnographlaw12_awake_sim (Z0 := All) e13  :) ?_
 rintro _ w13 ⟨rfl, hq13⟩
 refine ⟨_, rfl, ?_⟩
 have hm14 := hm12.call0 hq13
 refine Rn.q rfl (V.notB rfl) (gg 1 rfl ?_)
 refine Rn.condS rfl (fun h15 => ?_) (fun h15 => ?_)
 ·replace hM := iteT h15 hM
  refine gg 4 rfl ?_
  refine Rn.retG1 Tryz.func3 rfl (rvT rfl) ?_
  obtain rfl := someE hM
  exact ⟨rfl, hm14.pick [] rfl (by decide)⟩
 ·replace hM := iteFB hM h15
  refine gg 4 rfl (Rn.q rfl (V.ldBA [_, _, _, _, _, _, _, _, _, _, _, _, _, _, _, _, _] Tryz.isAgg30 Tryz.sizeOf30 rfl (hm14.get 3 rfl) rfl rfl) ?_)
  obtain ⟨p16, e16, hM⟩ := bindE hM
  refine Rn.cl ck6 rfl rfl rfl rfl (m_limnographref12_Light_sim (Z0 := All) e16 (show T_api_Point.rep.rel All _ _ _ from ⟨_, _, rfl, ⟨rfl, trivial⟩, ⟨_, _, rfl, ⟨_, _, rfl, (slR_all (hm14.get 0 rfl)).1, (slR_all (hm14.get 0 rfl)).2.1, (slR_all (hm14.get 0 rfl)).2.2⟩, ⟨_, _, rfl, ⟨rfl, trivial⟩, ⟨_, _, rfl, ⟨rfl, trivial⟩, ⟨_, _, rfl, ⟨rfl, trivial⟩, ⟨_, _, rfl, ⟨rfl, trivial⟩, ⟨_, _, rfl, ⟨rfl, trivial⟩, ⟨_, _, rfl, ⟨rfl, trivial⟩, ⟨_, _, rfl, ⟨rfl, trivial⟩, ⟨_, _, rfl, ⟨rfl, trivial⟩, ⟨_, _, rfl, ⟨_, _, rfl, ⟨rfl, trivial⟩, ⟨_, _, rfl, ⟨rfl, trivial⟩, ⟨_, _, rfl, ⟨_, _, rfl, ⟨rfl, trivial⟩, ⟨_, _, rfl, (slR_all (hm14.get 1 rfl)).1, (slR_all (hm14.get 1 rfl)).2.1, (slR_all (hm14.get 1 rfl)).2.2⟩⟩, ⟨_, _, rfl, ⟨rfl, trivial⟩, ⟨_, _, rfl, (slR_all (hm14.get 2 rfl)).1, (slR_all (hm14.get 2 rfl)).2.1, (slR_all (hm14.get 2 rfl)).2.2⟩⟩⟩⟩⟩, ⟨rfl, trivial⟩⟩⟩⟩⟩⟩⟩⟩⟩⟩⟩⟩) :) ?_
  rintro _ w16 ⟨rfl, hq16⟩
  refine ⟨_, rfl, ?_⟩
  have hm17 := hm14.call0 hq16
  refine Rn.q rfl (V.notB rfl) (gg 1 rfl ?_)
  refine Rn.condS rfl (fun h18 => ?_) (fun h18 => ?_)
  ·replace hM := iteT h18 hM
   refine gg 4 rfl ?_
   refine Rn.retG1 Tryz.func3 rfl (rvT rfl) ?_
   obtain rfl := someE hM
   exact ⟨rfl, hm17.pick [] rfl (by decide)⟩
  ·replace hM := iteFB hM h18
   refine gg 3 rfl (Rn.q rfl (V.ldBA [_, _, _, _, _, _, _, _, _, _, _, _, _, _, _, _, _] Tryz.isAgg30 Tryz.sizeOf30 rfl (hm17.get 3 rfl) rfl rfl) ?_)
   obtain ⟨p19, e19, hM⟩ := bindE hM
   refine Rn.cl ck7 rfl rfl rfl rfl (m_point_Bytes_sim (Z0 := All) e19 (show T_api_Point.rep.rel All _ _ _ from ⟨_, _, rfl, ⟨rfl, trivial⟩, ⟨_, _, rfl, ⟨_, _, rfl, (slR_all (hm17.get 0 rfl)).1, (slR_all (hm17.get 0 rfl)).2.1, (slR_all (hm17.get 0 rfl)).2.2⟩, ⟨_, _, rfl, ⟨rfl, trivial⟩, ⟨_, _, rfl, ⟨rfl, trivial⟩, ⟨_, _, rfl, ⟨rfl, trivial⟩, ⟨_, _, rfl, ⟨rfl, trivial⟩, ⟨_, _, rfl, ⟨rfl, trivial⟩, ⟨_, _, rfl, ⟨rfl, trivial⟩, ⟨_, _, rfl, ⟨rfl, trivial⟩, ⟨_, _, rfl, ⟨rfl, trivial⟩, ⟨_, _, rfl, ⟨_, _, rfl, ⟨rfl, trivial⟩, ⟨_, _, rfl, ⟨rfl, trivial⟩, ⟨_, _, rfl, ⟨_, _, rfl, ⟨rfl, trivial⟩, ⟨_, _, rfl, (slR_all (hm17.get 1 rfl)).1, (slR_all (hm17.get 1 rfl)).2.1, (slR_all (hm17.get 1 rfl)).2.2⟩⟩, ⟨_, _, rfl, ⟨rfl, trivial⟩, ⟨_, _, rfl, (slR_all (hm17.get 2 rfl)).1, (slR_all (hm17.get 2 rfl)).2.1, (slR_all (hm17.get 2 rfl)).2.2⟩⟩⟩⟩⟩, ⟨rfl, trivial⟩⟩⟩⟩⟩⟩⟩⟩⟩⟩⟩⟩) :) ?_
   rintro _ w19 ⟨A19_0_0, c19_0_0, rfl, hq19⟩
   refine ⟨_, rfl, ?_⟩
   have hm21 := hm17.callF (flC (ownR_flat byte_flat _ _ _ _) fl0) hq19
   refine gg 12 rfl ?_
   refine Rn.condD rfl (fun h22 => ?_) (fun h22 => ?_)
   ·replace hM := iteT h22 hM
    refine gg 3 rfl (Rn.q rfl (V.lenV Tryz.underlying33 rfl) (gg 2 rfl ?_))
    obtain ⟨j1, hj1, hM⟩ := jnE hM
    refine Rn.joinR (r := r) (G := Bool) [9] (fun g => [(31, .bool (g))]) (fun g w' => Hp Z0 No w w' [slR A1 c1 T_api_Pair.rep x0.Attrs, slR A3 c3 w64R x0.Hist.Pos.Counts, slR A5 c5 w64R x0.Hist.Neg.Counts, boxR b10 30 [Str (x0.Name), .slice A1 (x0.Attrs).length c1, .int .i64 (x0.Kind), .int .i64 (x0.Temp), .bool (x0.Mono), .int .i64 (x0.Start), .int .i64 (x0.Time), .int .i64 (x0.Int_), .int .u64 (((x0.Re).toNat : Nat) : Int), .int .u64 (((x0.Im).toNat : Nat) : Int), .int .i64 (x0.Hist.Scale), .int .u64 (((x0.Hist.Zero).toNat : Nat) : Int), .int .i64 (x0.Hist.Pos.Offset), .slice A3 (x0.Hist.Pos.Counts).length c3, .int .i64 (x0.Hist.Neg.Offset), .slice A5 (x0.Hist.Neg.Counts).length c5, .int .i64 (x0.Flags)], ownR 5 A19_0_0 c19_0_0 byteR p19.1]) (fun g => j1 g) ?_ ?_
    ·subst hj1
     clear hM
     rintro y23 w24 hm24 hM
     try dsimp only at hM
     refine gg 2 rfl ?_
     refine Rn.retG1 Tryz.func3 rfl (rvT rfl) ?_
     obtain rfl := someE hM
     exact ⟨rfl, hm24.pick [] rfl (by decide)⟩
    intro hk1
    clear hj1
    refine Rn.partD (t := 26) rfl (fun h25 => ?_) (fun h25 => ?_)
    ·replace hM := iteT h25 hM
     refine gg 1 rfl (Rn.q rfl (V.ldBA [_, _, _, _, _, _, _, _, _, _, _, _, _, _, _, _, _] Tryz.isAgg30 Tryz.sizeOf30 rfl (hm21.get 3 rfl) rfl rfl) ?_)
     obtain ⟨p26, e26, hM⟩ := bindE hM
     refine Rn.cl ck8 rfl rfl rfl rfl (m_point_Check_sim (Z0 := All) e26 (show T_api_Point.rep.rel All _ _ _ from ⟨_, _, rfl, ⟨rfl, trivial⟩, ⟨_, _, rfl, ⟨_, _, rfl, (slR_all (hm21.get 0 rfl)).1, (slR_all (hm21.get 0 rfl)).2.1, (slR_all (hm21.get 0 rfl)).2.2⟩, ⟨_, _, rfl, ⟨rfl, trivial⟩, ⟨_, _, rfl, ⟨rfl, trivial⟩, ⟨_, _, rfl, ⟨rfl, trivial⟩, ⟨_, _, rfl, ⟨rfl, trivial⟩, ⟨_, _, rfl, ⟨rfl, trivial⟩, ⟨_, _, rfl, ⟨rfl, trivial⟩, ⟨_, _, rfl, ⟨rfl, trivial⟩, ⟨_, _, rfl, ⟨rfl, trivial⟩, ⟨_, _, rfl, ⟨_, _, rfl, ⟨rfl, trivial⟩, ⟨_, _, rfl, ⟨rfl, trivial⟩, ⟨_, _, rfl, ⟨_, _, rfl, ⟨rfl, trivial⟩, ⟨_, _, rfl, (slR_all (hm21.get 1 rfl)).1, (slR_all (hm21.get 1 rfl)).2.1, (slR_all (hm21.get 1 rfl)).2.2⟩⟩, ⟨_, _, rfl, ⟨rfl, trivial⟩, ⟨_, _, rfl, (slR_all (hm21.get 2 rfl)).1, (slR_all (hm21.get 2 rfl)).2.1, (slR_all (hm21.get 2 rfl)).2.2⟩⟩⟩⟩⟩, ⟨rfl, trivial⟩⟩⟩⟩⟩⟩⟩⟩⟩⟩⟩⟩) :) ?_
     rintro _ w26 ⟨rfl, hq26⟩
     refine ⟨_, rfl, ?_⟩
     have hm27 := hm21.call0 hq26
     refine gg 2 rfl ?_
     exact hk1 (decide (p19.2 = p26)) _ _ (Sub.cons rfl (Sub.nil _)) (hm27.pick [0, 1, 2, 3, 4] rfl (by decide)) hM
    ·replace hM := iteF h25 hM
     refine gg 5 rfl ?_
     exact hk1 false _ _ (Sub.cons rfl (Sub.nil _)) (hm21.pick [0, 1, 2, 3, 4] rfl (by decide)) hM
   ·replace hM := iteF h22 hM
    refine gg 4 rfl ?_
    obtain ⟨p28, e28, hM⟩ := bindE hM
    refine Rn.cl ck9 rfl rfl rfl rfl (m_point_Read_sim (Z0 := All) e28 (own_slR (hm21.get 4 rfl)) :) ?_
    rintro _ w28 ⟨A28_0_0, c28_0_0, A28_0_1, c28_0_1, A28_0_2, c28_0_2, rfl, hq28⟩
    refine ⟨_, rfl, ?_⟩
    have hm32 := hm21.callF (flC (ownR_flat T_api_Pair.flat _ _ _ _) (flC (ownR_flat w64_flat _ _ _ _) (flC (ownR_flat w64_flat _ _ _ _) fl0))) hq28
    refine gg 3 rfl (Rn.als rfl rfl rfl Tryz.zeroValue30 rfl Tryz.sizeOf30 rfl rfl rfl rfl (by first | exact ones rfl | (simp [Value.oneCell']; done)) ?_)
    intro b33 w33 hb33 m33 e33
    have hm35 := (hm32.addBox hb33 e33 m33).nf [_, _, _, _, _, _, _, _, boxR _ _ [_, _, _, _, _, _, _, _, _, _, _, _, _, _, _, _, _]] rfl
    refine gg 4 rfl (Rn.q rfl (V.ldBA [_, _, _, _, _, _, _, _, _, _, _, _, _, _, _, _, _] Tryz.isAgg30 Tryz.sizeOf30 rfl (hm35.get 3 rfl) rfl rfl) ?_)
    obtain ⟨p36, e36, hM⟩ := bindE hM
    refine Rn.cl ck10 rfl rfl rfl rfl (m_point_Clone_sim (Z0 := All) e36 (show T_api_Point.rep.rel All _ _ _ from ⟨_, _, rfl, ⟨rfl, trivial⟩, ⟨_, _, rfl, ⟨_, _, rfl, (slR_all (hm35.get 0 rfl)).1, (slR_all (hm35.get 0 rfl)).2.1, (slR_all (hm35.get 0 rfl)).2.2⟩, ⟨_, _, rfl, ⟨rfl, trivial⟩, ⟨_, _, rfl, ⟨rfl, trivial⟩, ⟨_, _, rfl, ⟨rfl, trivial⟩, ⟨_, _, rfl, ⟨rfl, trivial⟩, ⟨_, _, rfl, ⟨rfl, trivial⟩, ⟨_, _, rfl, ⟨rfl, trivial⟩, ⟨_, _, rfl, ⟨rfl, trivial⟩, ⟨_, _, rfl, ⟨rfl, trivial⟩, ⟨_, _, rfl, ⟨_, _, rfl, ⟨rfl, trivial⟩, ⟨_, _, rfl, ⟨rfl, trivial⟩, ⟨_, _, rfl, ⟨_, _, rfl, ⟨rfl, trivial⟩, ⟨_, _, rfl, (slR_all (hm35.get 1 rfl)).1, (slR_all (hm35.get 1 rfl)).2.1, (slR_all (hm35.get 1 rfl)).2.2⟩⟩, ⟨_, _, rfl, ⟨rfl, trivial⟩, ⟨_, _, rfl, (slR_all (hm35.get 2 rfl)).1, (slR_all (hm35.get 2 rfl)).2.1, (slR_all (hm35.get 2 rfl)).2.2⟩⟩⟩⟩⟩, ⟨rfl, trivial⟩⟩⟩⟩⟩⟩⟩⟩⟩⟩⟩⟩) :) ?_
    rintro _ w36 ⟨A36_0_0, c36_0_0, A36_0_1, c36_0_1, A36_0_2, c36_0_2, rfl, hq36⟩
    refine ⟨_, rfl, ?_⟩
    have hm40 := hm35.callF (flC (ownR_flat T_api_Pair.flat _ _ _ _) (flC (ownR_flat w64_flat _ _ _ _) (flC (ownR_flat w64_flat _ _ _ _) fl0))) hq36
    refine Rn.als rfl rfl rfl Tryz.zeroValue30 rfl Tryz.sizeOf30 rfl rfl rfl rfl (by first | exact ones rfl | (simp [Value.oneCell']; done)) ?_
    intro b41 w41 hb41 m41 e41
    have hm43 := (hm40.addBox hb41 e41 m41).nf [_, _, _, _, _, _, _, _, _, _, _, _, boxR _ _ [_, _, _, _, _, _, _, _, _, _, _, _, _, _, _, _, _]] rfl
    refine gg 6 rfl ?_
    obtain ⟨j2, hj2, hM⟩ := jnE hM
    refine Rn.joinG (r := r) (G := Unit) (fun g => [(1, .pointer (some ⟨b10, 0, none⟩)), (5, .pointer (some ⟨b33, 0, none⟩)), (6, .int .i64 (p28.2)), (7, .pointer (some ⟨b41, 0, none⟩))]) (fun g w' => Hp Z0 No w w' [slR A1 c1 T_api_Pair.rep x0.Attrs, slR A3 c3 w64R x0.Hist.Pos.Counts, slR A5 c5 w64R x0.Hist.Neg.Counts, boxR b10 30 [Str (x0.Name), .slice A1 (x0.Attrs).length c1, .int .i64 (x0.Kind), .int .i64 (x0.Temp), .bool (x0.Mono), .int .i64 (x0.Start), .int .i64 (x0.Time), .int .i64 (x0.Int_), .int .u64 (((x0.Re).toNat : Nat) : Int), .int .u64 (((x0.Im).toNat : Nat) : Int), .int .i64 (x0.Hist.Scale), .int .u64 (((x0.Hist.Zero).toNat : Nat) : Int), .int .i64 (x0.Hist.Pos.Offset), .slice A3 (x0.Hist.Pos.Counts).length c3, .int .i64 (x0.Hist.Neg.Offset), .slice A5 (x0.Hist.Neg.Counts).length c5, .int .i64 (x0.Flags)], ownR 42 A28_0_0 c28_0_0 T_api_Pair.rep p28.1.Attrs, ownR 23 A28_0_1 c28_0_1 w64R p28.1.Hist.Pos.Counts, ownR 23 A28_0_2 c28_0_2 w64R p28.1.Hist.Neg.Counts, boxR b33 30 [Str (p28.1.Name), .slice A28_0_0 (p28.1.Attrs).length c28_0_0, .int .i64 (p28.1.Kind), .int .i64 (p28.1.Temp), .bool (p28.1.Mono), .int .i64 (p28.1.Start), .int .i64 (p28.1.Time), .int .i64 (p28.1.Int_), .int .u64 (((p28.1.Re).toNat : Nat) : Int), .int .u64 (((p28.1.Im).toNat : Nat) : Int), .int .i64 (p28.1.Hist.Scale), .int .u64 (((p28.1.Hist.Zero).toNat : Nat) : Int), .int .i64 (p28.1.Hist.Pos.Offset), .slice A28_0_1 (p28.1.Hist.Pos.Counts).length c28_0_1, .int .i64 (p28.1.Hist.Neg.Offset), .slice A28_0_2 (p28.1.Hist.Neg.Counts).length c28_0_2, .int .i64 (p28.1.Flags)], ownR 42 A36_0_0 c36_0_0 T_api_Pair.rep p36.Attrs, ownR 23 A36_0_1 c36_0_1 w64R p36.Hist.Pos.Counts, ownR 23 A36_0_2 c36_0_2 w64R p36.Hist.Neg.Counts, boxR b41 30 [Str (p36.Name), .slice A36_0_0 (p36.Attrs).length c36_0_0, .int .i64 (p36.Kind), .int .i64 (p36.Temp), .bool (p36.Mono), .int .i64 (p36.Start), .int .i64 (p36.Time), .int .i64 (p36.Int_), .int .u64 (((p36.Re).toNat : Nat) : Int), .int .u64 (((p36.Im).toNat : Nat) : Int), .int .i64 (p36.Hist.Scale), .int .u64 (((p36.Hist.Zero).toNat : Nat) : Int), .int .i64 (p36.Hist.Pos.Offset), .slice A36_0_1 (p36.Hist.Pos.Counts).length c36_0_1, .int .i64 (p36.Hist.Neg.Offset), .slice A36_0_2 (p36.Hist.Neg.Counts).length c36_0_2, .int .i64 (p36.Flags)]]) (fun g => j2 ()) ?_ ?_
    ·subst hj2
     clear hM
     rintro _ w44 hm44 hM
     try dsimp only at hM
     refine gg 5 rfl ?_
     obtain ⟨j3, hj3, hM⟩ := jnE hM
     refine Rn.joinG (r := r) (G := T_api_Point × Option Addr × Nat × Option Addr × Nat × Option Addr × Nat) (fun g => [(1, .pointer (some ⟨b10, 0, none⟩)), (5, .pointer (some ⟨b33, 0, none⟩)), (6, .int .i64 (p28.2)), (7, .pointer (some ⟨b41, 0, none⟩))]) (fun g w' => Hp Z0 No w w' [slR A1 c1 T_api_Pair.rep x0.Attrs, slR A3 c3 w64R x0.Hist.Pos.Counts, slR A5 c5 w64R x0.Hist.Neg.Counts, boxR b10 30 [Str (x0.Name), .slice A1 (x0.Attrs).length c1, .int .i64 (x0.Kind), .int .i64 (x0.Temp), .bool (x0.Mono), .int .i64 (x0.Start), .int .i64 (x0.Time), .int .i64 (x0.Int_), .int .u64 (((x0.Re).toNat : Nat) : Int), .int .u64 (((x0.Im).toNat : Nat) : Int), .int .i64 (x0.Hist.Scale), .int .u64 (((x0.Hist.Zero).toNat : Nat) : Int), .int .i64 (x0.Hist.Pos.Offset), .slice A3 (x0.Hist.Pos.Counts).length c3, .int .i64 (x0.Hist.Neg.Offset), .slice A5 (x0.Hist.Neg.Counts).length c5, .int .i64 (x0.Flags)], ownR 42 A28_0_0 c28_0_0 T_api_Pair.rep p28.1.Attrs, ownR 23 A28_0_1 c28_0_1 w64R p28.1.Hist.Pos.Counts, ownR 23 A28_0_2 c28_0_2 w64R p28.1.Hist.Neg.Counts, boxR b33 30 [Str (p28.1.Name), .slice A28_0_0 (p28.1.Attrs).length c28_0_0, .int .i64 (p28.1.Kind), .int .i64 (p28.1.Temp), .bool (p28.1.Mono), .int .i64 (p28.1.Start), .int .i64 (p28.1.Time), .int .i64 (p28.1.Int_), .int .u64 (((p28.1.Re).toNat : Nat) : Int), .int .u64 (((p28.1.Im).toNat : Nat) : Int), .int .i64 (p28.1.Hist.Scale), .int .u64 (((p28.1.Hist.Zero).toNat : Nat) : Int), .int .i64 (p28.1.Hist.Pos.Offset), .slice A28_0_1 (p28.1.Hist.Pos.Counts).length c28_0_1, .int .i64 (p28.1.Hist.Neg.Offset), .slice A28_0_2 (p28.1.Hist.Neg.Counts).length c28_0_2, .int .i64 (p28.1.Flags)], ownR 42 (g.2.1) (g.2.2.1) T_api_Pair.rep (g.1).Attrs, ownR 23 (g.2.2.2.1) (g.2.2.2.2.1) w64R (g.1).Hist.Pos.Counts, ownR 23 (g.2.2.2.2.2.1) (g.2.2.2.2.2.2) w64R (g.1).Hist.Neg.Counts, boxR b41 30 [Str ((g.1).Name), .slice (g.2.1) ((g.1).Attrs).length (g.2.2.1), .int .i64 ((g.1).Kind), .int .i64 ((g.1).Temp), .bool ((g.1).Mono), .int .i64 ((g.1).Start), .int .i64 ((g.1).Time), .int .i64 ((g.1).Int_), .int .u64 ((((g.1).Re).toNat : Nat) : Int), .int .u64 ((((g.1).Im).toNat : Nat) : Int), .int .i64 ((g.1).Hist.Scale), .int .u64 ((((g.1).Hist.Zero).toNat : Nat) : Int), .int .i64 ((g.1).Hist.Pos.Offset), .slice (g.2.2.2.1) ((g.1).Hist.Pos.Counts).length (g.2.2.2.2.1), .int .i64 ((g.1).Hist.Neg.Offset), .slice (g.2.2.2.2.2.1) ((g.1).Hist.Neg.Counts).length (g.2.2.2.2.2.2), .int .i64 ((g.1).Flags)]]) (fun g => j3 g.1) ?_ ?_
     ·subst hj3
      clear hM
      rintro ⟨y45, A46, c46, A48, c48, A50, c50⟩ w52 hm52 hM
      try dsimp only at hM
      refine gg 5 rfl ?_
      obtain ⟨j4, hj4, hM⟩ := jnE hM
      refine Rn.joinG (r := r) (G := Unit) (fun g => [(1, .pointer (some ⟨b10, 0, none⟩)), (5, .pointer (some ⟨b33, 0, none⟩)), (6, .int .i64 (p28.2))]) (fun g w' => Hp Z0 No w w' [slR A1 c1 T_api_Pair.rep x0.Attrs, slR A3 c3 w64R x0.Hist.Pos.Counts, slR A5 c5 w64R x0.Hist.Neg.Counts, boxR b10 30 [Str (x0.Name), .slice A1 (x0.Attrs).length c1, .int .i64 (x0.Kind), .int .i64 (x0.Temp), .bool (x0.Mono), .int .i64 (x0.Start), .int .i64 (x0.Time), .int .i64 (x0.Int_), .int .u64 (((x0.Re).toNat : Nat) : Int), .int .u64 (((x0.Im).toNat : Nat) : Int), .int .i64 (x0.Hist.Scale), .int .u64 (((x0.Hist.Zero).toNat : Nat) : Int), .int .i64 (x0.Hist.Pos.Offset), .slice A3 (x0.Hist.Pos.Counts).length c3, .int .i64 (x0.Hist.Neg.Offset), .slice A5 (x0.Hist.Neg.Counts).length c5, .int .i64 (x0.Flags)], ownR 42 A28_0_0 c28_0_0 T_api_Pair.rep p28.1.Attrs, ownR 23 A28_0_1 c28_0_1 w64R p28.1.Hist.Pos.Counts, ownR 23 A28_0_2 c28_0_2 w64R p28.1.Hist.Neg.Counts, boxR b33 30 [Str (p28.1.Name), .slice A28_0_0 (p28.1.Attrs).length c28_0_0, .int .i64 (p28.1.Kind), .int .i64 (p28.1.Temp), .bool (p28.1.Mono), .int .i64 (p28.1.Start), .int .i64 (p28.1.Time), .int .i64 (p28.1.Int_), .int .u64 (((p28.1.Re).toNat : Nat) : Int), .int .u64 (((p28.1.Im).toNat : Nat) : Int), .int .i64 (p28.1.Hist.Scale), .int .u64 (((p28.1.Hist.Zero).toNat : Nat) : Int), .int .i64 (p28.1.Hist.Pos.Offset), .slice A28_0_1 (p28.1.Hist.Pos.Counts).length c28_0_1, .int .i64 (p28.1.Hist.Neg.Offset), .slice A28_0_2 (p28.1.Hist.Neg.Counts).length c28_0_2, .int .i64 (p28.1.Flags)]]) (fun g => j4 ()) ?_ ?_
      ·subst hj4
       clear hM
       rintro _ w53 hm53 hM
       try dsimp only at hM
       refine gg 5 rfl ?_
       obtain ⟨j5, hj5, hM⟩ := jnE hM
       refine Rn.joinR (r := r) (G := Bool) [7, 8, 9, 10, 11, 12, 13, 14, 15, 16, 17] (fun g => [(1, .pointer (some ⟨b10, 0, none⟩)), (5, .pointer (some ⟨b33, 0, none⟩)), (89, .bool (g))]) (fun g w' => Hp Z0 No w w' [slR A1 c1 T_api_Pair.rep x0.Attrs, slR A3 c3 w64R x0.Hist.Pos.Counts, slR A5 c5 w64R x0.Hist.Neg.Counts, boxR b10 30 [Str (x0.Name), .slice A1 (x0.Attrs).length c1, .int .i64 (x0.Kind), .int .i64 (x0.Temp), .bool (x0.Mono), .int .i64 (x0.Start), .int .i64 (x0.Time), .int .i64 (x0.Int_), .int .u64 (((x0.Re).toNat : Nat) : Int), .int .u64 (((x0.Im).toNat : Nat) : Int), .int .i64 (x0.Hist.Scale), .int .u64 (((x0.Hist.Zero).toNat : Nat) : Int), .int .i64 (x0.Hist.Pos.Offset), .slice A3 (x0.Hist.Pos.Counts).length c3, .int .i64 (x0.Hist.Neg.Offset), .slice A5 (x0.Hist.Neg.Counts).length c5, .int .i64 (x0.Flags)], ownR 42 A28_0_0 c28_0_0 T_api_Pair.rep p28.1.Attrs, ownR 23 A28_0_1 c28_0_1 w64R p28.1.Hist.Pos.Counts, ownR 23 A28_0_2 c28_0_2 w64R p28.1.Hist.Neg.Counts, boxR b33 30 [Str (p28.1.Name), .slice A28_0_0 (p28.1.Attrs).length c28_0_0, .int .i64 (p28.1.Kind), .int .i64 (p28.1.Temp), .bool (p28.1.Mono), .int .i64 (p28.1.Start), .int .i64 (p28.1.Time), .int .i64 (p28.1.Int_), .int .u64 (((p28.1.Re).toNat : Nat) : Int), .int .u64 (((p28.1.Im).toNat : Nat) : Int), .int .i64 (p28.1.Hist.Scale), .int .u64 (((p28.1.Hist.Zero).toNat : Nat) : Int), .int .i64 (p28.1.Hist.Pos.Offset), .slice A28_0_1 (p28.1.Hist.Pos.Counts).length c28_0_1, .int .i64 (p28.1.Hist.Neg.Offset), .slice A28_0_2 (p28.1.Hist.Neg.Counts).length c28_0_2, .int .i64 (p28.1.Flags)]]) (fun g => j5 g) ?_ ?_
       ·subst hj5
        clear hM
        rintro y54 w55 hm55 hM
        try dsimp only at hM
        refine gg 1 rfl ?_
        obtain ⟨j6, hj6, hM⟩ := jnE hM
        refine Rn.joinR (r := r) (G := Bool) [12, 13, 14, 15, 16, 17] (fun g => [(1, .pointer (some ⟨b10, 0, none⟩)), (94, .bool (g))]) (fun g w' => Hp Z0 No w w' [slR A1 c1 T_api_Pair.rep x0.Attrs, slR A3 c3 w64R x0.Hist.Pos.Counts, slR A5 c5 w64R x0.Hist.Neg.Counts, boxR b10 30 [Str (x0.Name), .slice A1 (x0.Attrs).length c1, .int .i64 (x0.Kind), .int .i64 (x0.Temp), .bool (x0.Mono), .int .i64 (x0.Start), .int .i64 (x0.Time), .int .i64 (x0.Int_), .int .u64 (((x0.Re).toNat : Nat) : Int), .int .u64 (((x0.Im).toNat : Nat) : Int), .int .i64 (x0.Hist.Scale), .int .u64 (((x0.Hist.Zero).toNat : Nat) : Int), .int .i64 (x0.Hist.Pos.Offset), .slice A3 (x0.Hist.Pos.Counts).length c3, .int .i64 (x0.Hist.Neg.Offset), .slice A5 (x0.Hist.Neg.Counts).length c5, .int .i64 (x0.Flags)], ownR 42 A28_0_0 c28_0_0 T_api_Pair.rep p28.1.Attrs, ownR 23 A28_0_1 c28_0_1 w64R p28.1.Hist.Pos.Counts, ownR 23 A28_0_2 c28_0_2 w64R p28.1.Hist.Neg.Counts, boxR b33 30 [Str (p28.1.Name), .slice A28_0_0 (p28.1.Attrs).length c28_0_0, .int .i64 (p28.1.Kind), .int .i64 (p28.1.Temp), .bool (p28.1.Mono), .int .i64 (p28.1.Start), .int .i64 (p28.1.Time), .int .i64 (p28.1.Int_), .int .u64 (((p28.1.Re).toNat : Nat) : Int), .int .u64 (((p28.1.Im).toNat : Nat) : Int), .int .i64 (p28.1.Hist.Scale), .int .u64 (((p28.1.Hist.Zero).toNat : Nat) : Int), .int .i64 (p28.1.Hist.Pos.Offset), .slice A28_0_1 (p28.1.Hist.Pos.Counts).length c28_0_1, .int .i64 (p28.1.Hist.Neg.Offset), .slice A28_0_2 (p28.1.Hist.Neg.Counts).length c28_0_2, .int .i64 (p28.1.Flags)]]) (fun g => j6 g) ?_ ?_
        ·subst hj6
         clear hM
         rintro y56 w57 hm57 hM
         try dsimp only at hM
         refine gg 1 rfl ?_
         obtain ⟨j7, hj7, hM⟩ := jnE hM
         refine Rn.joinR (r := r) (G := Bool) [17] (fun g => [(99, .bool (g))]) (fun g w' => Hp Z0 No w w' [slR A1 c1 T_api_Pair.rep x0.Attrs, slR A3 c3 w64R x0.Hist.Pos.Counts, slR A5 c5 w64R x0.Hist.Neg.Counts, boxR b10 30 [Str (x0.Name), .slice A1 (x0.Attrs).length c1, .int .i64 (x0.Kind), .int .i64 (x0.Temp), .bool (x0.Mono), .int .i64 (x0.Start), .int .i64 (x0.Time), .int .i64 (x0.Int_), .int .u64 (((x0.Re).toNat : Nat) : Int), .int .u64 (((x0.Im).toNat : Nat) : Int), .int .i64 (x0.Hist.Scale), .int .u64 (((x0.Hist.Zero).toNat : Nat) : Int), .int .i64 (x0.Hist.Pos.Offset), .slice A3 (x0.Hist.Pos.Counts).length c3, .int .i64 (x0.Hist.Neg.Offset), .slice A5 (x0.Hist.Neg.Counts).length c5, .int .i64 (x0.Flags)], ownR 42 A28_0_0 c28_0_0 T_api_Pair.rep p28.1.Attrs, ownR 23 A28_0_1 c28_0_1 w64R p28.1.Hist.Pos.Counts, ownR 23 A28_0_2 c28_0_2 w64R p28.1.Hist.Neg.Counts, boxR b33 30 [Str (p28.1.Name), .slice A28_0_0 (p28.1.Attrs).length c28_0_0, .int .i64 (p28.1.Kind), .int .i64 (p28.1.Temp), .bool (p28.1.Mono), .int .i64 (p28.1.Start), .int .i64 (p28.1.Time), .int .i64 (p28.1.Int_), .int .u64 (((p28.1.Re).toNat : Nat) : Int), .int .u64 (((p28.1.Im).toNat : Nat) : Int), .int .i64 (p28.1.Hist.Scale), .int .u64 (((p28.1.Hist.Zero).toNat : Nat) : Int), .int .i64 (p28.1.Hist.Pos.Offset), .slice A28_0_1 (p28.1.Hist.Pos.Counts).length c28_0_1, .int .i64 (p28.1.Hist.Neg.Offset), .slice A28_0_2 (p28.1.Hist.Neg.Counts).length c28_0_2, .int .i64 (p28.1.Flags)]]) (fun g => j7 g) ?_ ?_
         ·subst hj7
          clear hM
          rintro y58 w59 hm59 hM
          try dsimp only at hM
          refine gg 2 rfl ?_
          refine Rn.retG1 Tryz.func3 rfl (rvT rfl) ?_
          obtain rfl := someE hM
          exact ⟨rfl, hm59.pick [] rfl (by decide)⟩
         intro hk7
         clear hj7
         refine Rn.part (t := 95) rfl (fun h60 => ?_) (fun h60 => ?_)
         ·replace hM := iteT h60 hM
          refine Rn.q rfl (V.ldBA [_, _, _, _, _, _, _, _, _, _, _, _, _, _, _, _, _] Tryz.isAgg30 Tryz.sizeOf30 rfl (hm57.get 3 rfl) rfl rfl) ?_
          obtain ⟨p61, e61, hM⟩ := bindE hM
          refine Rn.cl ck8 rfl rfl rfl rfl (m_point_Check_sim (Z0 := All) e61 (show T_api_Point.rep.rel All _ _ _ from ⟨_, _, rfl, ⟨rfl, trivial⟩, ⟨_, _, rfl, ⟨_, _, rfl, (slR_all (hm57.get 0 rfl)).1, (slR_all (hm57.get 0 rfl)).2.1, (slR_all (hm57.get 0 rfl)).2.2⟩, ⟨_, _, rfl, ⟨rfl, trivial⟩, ⟨_, _, rfl, ⟨rfl, trivial⟩, ⟨_, _, rfl, ⟨rfl, trivial⟩, ⟨_, _, rfl, ⟨rfl, trivial⟩, ⟨_, _, rfl, ⟨rfl, trivial⟩, ⟨_, _, rfl, ⟨rfl, trivial⟩, ⟨_, _, rfl, ⟨rfl, trivial⟩, ⟨_, _, rfl, ⟨rfl, trivial⟩, ⟨_, _, rfl, ⟨_, _, rfl, ⟨rfl, trivial⟩, ⟨_, _, rfl, ⟨rfl, trivial⟩, ⟨_, _, rfl, ⟨_, _, rfl, ⟨rfl, trivial⟩, ⟨_, _, rfl, (slR_all (hm57.get 1 rfl)).1, (slR_all (hm57.get 1 rfl)).2.1, (slR_all (hm57.get 1 rfl)).2.2⟩⟩, ⟨_, _, rfl, ⟨rfl, trivial⟩, ⟨_, _, rfl, (slR_all (hm57.get 2 rfl)).1, (slR_all (hm57.get 2 rfl)).2.1, (slR_all (hm57.get 2 rfl)).2.2⟩⟩⟩⟩⟩, ⟨rfl, trivial⟩⟩⟩⟩⟩⟩⟩⟩⟩⟩⟩⟩) :) ?_
          rintro _ w61 ⟨rfl, hq61⟩
          refine ⟨_, rfl, ?_⟩
          have hm62 := hm57.call0 hq61
          refine gg 2 rfl ?_
          exact hk7 (decide (p61 = 0)) _ _ (Sub.cons rfl (Sub.nil _)) (hm62.pick [0, 1, 2, 3, 4, 5, 6, 7] rfl (by decide)) hM
         ·replace hM := iteFB hM h60
          refine gg 4 rfl ?_
          exact hk7 false _ _ (Sub.cons rfl (Sub.nil _)) (hm57.pick [0, 1, 2, 3, 4, 5, 6, 7] rfl (by decide)) hM
        intro hk6
        clear hj6
        refine Rn.part (t := 90) rfl (fun h63 => ?_) (fun h63 => ?_)
        ·replace hM := iteT h63 hM
         refine Rn.q rfl (V.ldBA [_, _, _, _, _, _, _, _, _, _, _, _, _, _, _, _, _] Tryz.isAgg30 Tryz.sizeOf30 rfl (hm55.get 3 rfl) rfl rfl) (Rn.q rfl (V.ldBA [_, _, _, _, _, _, _, _, _, _, _, _, _, _, _, _, _] Tryz.isAgg30 Tryz.sizeOf30 rfl (hm55.get 7 rfl) rfl rfl) ?_)
         obtain ⟨p64, e64, hM⟩ := bindE hM
         refine Rn.cl ck12 rfl rfl rfl rfl (m_point_Same_sim (Z0 := All) e64 (show T_api_Point.rep.rel All _ _ _ from ⟨_, _, rfl, ⟨rfl, trivial⟩, ⟨_, _, rfl, ⟨_, _, rfl, (slR_all (hm55.get 0 rfl)).1, (slR_all (hm55.get 0 rfl)).2.1, (slR_all (hm55.get 0 rfl)).2.2⟩, ⟨_, _, rfl, ⟨rfl, trivial⟩, ⟨_, _, rfl, ⟨rfl, trivial⟩, ⟨_, _, rfl, ⟨rfl, trivial⟩, ⟨_, _, rfl, ⟨rfl, trivial⟩, ⟨_, _, rfl, ⟨rfl, trivial⟩, ⟨_, _, rfl, ⟨rfl, trivial⟩, ⟨_, _, rfl, ⟨rfl, trivial⟩, ⟨_, _, rfl, ⟨rfl, trivial⟩, ⟨_, _, rfl, ⟨_, _, rfl, ⟨rfl, trivial⟩, ⟨_, _, rfl, ⟨rfl, trivial⟩, ⟨_, _, rfl, ⟨_, _, rfl, ⟨rfl, trivial⟩, ⟨_, _, rfl, (slR_all (hm55.get 1 rfl)).1, (slR_all (hm55.get 1 rfl)).2.1, (slR_all (hm55.get 1 rfl)).2.2⟩⟩, ⟨_, _, rfl, ⟨rfl, trivial⟩, ⟨_, _, rfl, (slR_all (hm55.get 2 rfl)).1, (slR_all (hm55.get 2 rfl)).2.1, (slR_all (hm55.get 2 rfl)).2.2⟩⟩⟩⟩⟩, ⟨rfl, trivial⟩⟩⟩⟩⟩⟩⟩⟩⟩⟩⟩⟩) (show T_api_Point.rep.rel All _ _ _ from ⟨_, _, rfl, ⟨rfl, trivial⟩, ⟨_, _, rfl, ⟨_, _, rfl, (own_slR (hm55.get 4 rfl)).1, (own_slR (hm55.get 4 rfl)).2.1, (own_slR (hm55.get 4 rfl)).2.2⟩, ⟨_, _, rfl, ⟨rfl, trivial⟩, ⟨_, _, rfl, ⟨rfl, trivial⟩, ⟨_, _, rfl, ⟨rfl, trivial⟩, ⟨_, _, rfl, ⟨rfl, trivial⟩, ⟨_, _, rfl, ⟨rfl, trivial⟩, ⟨_, _, rfl, ⟨rfl, trivial⟩, ⟨_, _, rfl, ⟨rfl, trivial⟩, ⟨_, _, rfl, ⟨rfl, trivial⟩, ⟨_, _, rfl, ⟨_, _, rfl, ⟨rfl, trivial⟩, ⟨_, _, rfl, ⟨rfl, trivial⟩, ⟨_, _, rfl, ⟨_, _, rfl, ⟨rfl, trivial⟩, ⟨_, _, rfl, (own_slR (hm55.get 5 rfl)).1, (own_slR (hm55.get 5 rfl)).2.1, (own_slR (hm55.get 5 rfl)).2.2⟩⟩, ⟨_, _, rfl, ⟨rfl, trivial⟩, ⟨_, _, rfl, (own_slR (hm55.get 6 rfl)).1, (own_slR (hm55.get 6 rfl)).2.1, (own_slR (hm55.get 6 rfl)).2.2⟩⟩⟩⟩⟩, ⟨rfl, trivial⟩⟩⟩⟩⟩⟩⟩⟩⟩⟩⟩⟩) :) ?_
         rintro _ w64 ⟨rfl, hq64⟩
         refine ⟨_, rfl, ?_⟩
         have hm65 := hm55.call0 hq64
         refine gg 1 rfl ?_
         exact hk6 p64 _ _ (Sub.cons rfl (Sub.cons rfl (Sub.nil _))) (hm65.pick [0, 1, 2, 3, 4, 5, 6, 7] rfl (by decide)) hM
        ·replace hM := iteFB hM h63
         refine gg 4 rfl ?_
         exact hk6 false _ _ (Sub.cons rfl (Sub.cons rfl (Sub.nil _))) (hm55.pick [0, 1, 2, 3, 4, 5, 6, 7] rfl (by decide)) hM
       intro hk5
       clear hj5
       refine Rn.partD (t := 85) rfl (fun h66 => ?_) (fun h66 => ?_)
       ·replace hM := iteT h66 hM
        refine Rn.q rfl (V.ldBA [_, _, _, _, _, _, _, _, _, _, _, _, _, _, _, _, _] Tryz.isAgg30 Tryz.sizeOf30 rfl (hm53.get 3 rfl) rfl rfl) (Rn.q rfl (V.ldBA [_, _, _, _, _, _, _, _, _, _, _, _, _, _, _, _, _] Tryz.isAgg30 Tryz.sizeOf30 rfl (hm53.get 7 rfl) rfl rfl) ?_)
        obtain ⟨p67, e67, hM⟩ := bindE hM
        refine Rn.cl ck11 rfl rfl rfl rfl (m_limnographref12_Same_sim (Z0 := All) e67 (show T_api_Point.rep.rel All _ _ _ from ⟨_, _, rfl, ⟨rfl, trivial⟩, ⟨_, _, rfl, ⟨_, _, rfl, (slR_all (hm53.get 0 rfl)).1, (slR_all (hm53.get 0 rfl)).2.1, (slR_all (hm53.get 0 rfl)).2.2⟩, ⟨_, _, rfl, ⟨rfl, trivial⟩, ⟨_, _, rfl, ⟨rfl, trivial⟩, ⟨_, _, rfl, ⟨rfl, trivial⟩, ⟨_, _, rfl, ⟨rfl, trivial⟩, ⟨_, _, rfl, ⟨rfl, trivial⟩, ⟨_, _, rfl, ⟨rfl, trivial⟩, ⟨_, _, rfl, ⟨rfl, trivial⟩, ⟨_, _, rfl, ⟨rfl, trivial⟩, ⟨_, _, rfl, ⟨_, _, rfl, ⟨rfl, trivial⟩, ⟨_, _, rfl, ⟨rfl, trivial⟩, ⟨_, _, rfl, ⟨_, _, rfl, ⟨rfl, trivial⟩, ⟨_, _, rfl, (slR_all (hm53.get 1 rfl)).1, (slR_all (hm53.get 1 rfl)).2.1, (slR_all (hm53.get 1 rfl)).2.2⟩⟩, ⟨_, _, rfl, ⟨rfl, trivial⟩, ⟨_, _, rfl, (slR_all (hm53.get 2 rfl)).1, (slR_all (hm53.get 2 rfl)).2.1, (slR_all (hm53.get 2 rfl)).2.2⟩⟩⟩⟩⟩, ⟨rfl, trivial⟩⟩⟩⟩⟩⟩⟩⟩⟩⟩⟩⟩) (show T_api_Point.rep.rel All _ _ _ from ⟨_, _, rfl, ⟨rfl, trivial⟩, ⟨_, _, rfl, ⟨_, _, rfl, (own_slR (hm53.get 4 rfl)).1, (own_slR (hm53.get 4 rfl)).2.1, (own_slR (hm53.get 4 rfl)).2.2⟩, ⟨_, _, rfl, ⟨rfl, trivial⟩, ⟨_, _, rfl, ⟨rfl, trivial⟩, ⟨_, _, rfl, ⟨rfl, trivial⟩, ⟨_, _, rfl, ⟨rfl, trivial⟩, ⟨_, _, rfl, ⟨rfl, trivial⟩, ⟨_, _, rfl, ⟨rfl, trivial⟩, ⟨_, _, rfl, ⟨rfl, trivial⟩, ⟨_, _, rfl, ⟨rfl, trivial⟩, ⟨_, _, rfl, ⟨_, _, rfl, ⟨rfl, trivial⟩, ⟨_, _, rfl, ⟨rfl, trivial⟩, ⟨_, _, rfl, ⟨_, _, rfl, ⟨rfl, trivial⟩, ⟨_, _, rfl, (own_slR (hm53.get 5 rfl)).1, (own_slR (hm53.get 5 rfl)).2.1, (own_slR (hm53.get 5 rfl)).2.2⟩⟩, ⟨_, _, rfl, ⟨rfl, trivial⟩, ⟨_, _, rfl, (own_slR (hm53.get 6 rfl)).1, (own_slR (hm53.get 6 rfl)).2.1, (own_slR (hm53.get 6 rfl)).2.2⟩⟩⟩⟩⟩, ⟨rfl, trivial⟩⟩⟩⟩⟩⟩⟩⟩⟩⟩⟩⟩) :) ?_
        rintro _ w67 ⟨rfl, hq67⟩
        refine ⟨_, rfl, ?_⟩
        have hm68 := hm53.call0 hq67
        refine gg 1 rfl ?_
        exact hk5 p67 _ _ (Sub.cons rfl (Sub.cons rfl (Sub.cons rfl (Sub.nil _)))) (hm68.pick [0, 1, 2, 3, 4, 5, 6, 7] rfl (by decide)) hM
       ·replace hM := iteF h66 hM
        refine gg 4 rfl ?_
        exact hk5 false _ _ (Sub.cons rfl (Sub.cons rfl (Sub.cons rfl (Sub.nil _)))) (hm53.pick [0, 1, 2, 3, 4, 5, 6, 7] rfl (by decide)) hM
      intro hk4
      clear hj4
      refine gg 1 rfl ?_
      refine Rn.loopF (G := Int × T_api_Point × Option Addr × Nat × Option Addr × Nat × Option Addr × Nat) (fun g => [(1, .pointer (some ⟨b10, 0, none⟩)), (5, .pointer (some ⟨b33, 0, none⟩)), (6, .int .i64 (p28.2)), (7, .pointer (some ⟨b41, 0, none⟩)), (10, .int .i64 ((g.1)))]) (fun g w' => Hp Z0 No w w' [slR A1 c1 T_api_Pair.rep x0.Attrs, slR A3 c3 w64R x0.Hist.Pos.Counts, slR A5 c5 w64R x0.Hist.Neg.Counts, boxR b10 30 [Str (x0.Name), .slice A1 (x0.Attrs).length c1, .int .i64 (x0.Kind), .int .i64 (x0.Temp), .bool (x0.Mono), .int .i64 (x0.Start), .int .i64 (x0.Time), .int .i64 (x0.Int_), .int .u64 (((x0.Re).toNat : Nat) : Int), .int .u64 (((x0.Im).toNat : Nat) : Int), .int .i64 (x0.Hist.Scale), .int .u64 (((x0.Hist.Zero).toNat : Nat) : Int), .int .i64 (x0.Hist.Pos.Offset), .slice A3 (x0.Hist.Pos.Counts).length c3, .int .i64 (x0.Hist.Neg.Offset), .slice A5 (x0.Hist.Neg.Counts).length c5, .int .i64 (x0.Flags)], ownR 42 A28_0_0 c28_0_0 T_api_Pair.rep p28.1.Attrs, ownR 23 A28_0_1 c28_0_1 w64R p28.1.Hist.Pos.Counts, ownR 23 A28_0_2 c28_0_2 w64R p28.1.Hist.Neg.Counts, boxR b33 30 [Str (p28.1.Name), .slice A28_0_0 (p28.1.Attrs).length c28_0_0, .int .i64 (p28.1.Kind), .int .i64 (p28.1.Temp), .bool (p28.1.Mono), .int .i64 (p28.1.Start), .int .i64 (p28.1.Time), .int .i64 (p28.1.Int_), .int .u64 (((p28.1.Re).toNat : Nat) : Int), .int .u64 (((p28.1.Im).toNat : Nat) : Int), .int .i64 (p28.1.Hist.Scale), .int .u64 (((p28.1.Hist.Zero).toNat : Nat) : Int), .int .i64 (p28.1.Hist.Pos.Offset), .slice A28_0_1 (p28.1.Hist.Pos.Counts).length c28_0_1, .int .i64 (p28.1.Hist.Neg.Offset), .slice A28_0_2 (p28.1.Hist.Neg.Counts).length c28_0_2, .int .i64 (p28.1.Flags)], ownR 42 (g.2.2.1) (g.2.2.2.1) T_api_Pair.rep (g.2.1).Attrs, ownR 23 (g.2.2.2.2.1) (g.2.2.2.2.2.1) w64R (g.2.1).Hist.Pos.Counts, ownR 23 (g.2.2.2.2.2.2.1) (g.2.2.2.2.2.2.2) w64R (g.2.1).Hist.Neg.Counts, boxR b41 30 [Str ((g.2.1).Name), .slice (g.2.2.1) ((g.2.1).Attrs).length (g.2.2.2.1), .int .i64 ((g.2.1).Kind), .int .i64 ((g.2.1).Temp), .bool ((g.2.1).Mono), .int .i64 ((g.2.1).Start), .int .i64 ((g.2.1).Time), .int .i64 ((g.2.1).Int_), .int .u64 ((((g.2.1).Re).toNat : Nat) : Int), .int .u64 ((((g.2.1).Im).toNat : Nat) : Int), .int .i64 ((g.2.1).Hist.Scale), .int .u64 ((((g.2.1).Hist.Zero).toNat : Nat) : Int), .int .i64 ((g.2.1).Hist.Pos.Offset), .slice (g.2.2.2.2.1) ((g.2.1).Hist.Pos.Counts).length (g.2.2.2.2.2.1), .int .i64 ((g.2.1).Hist.Neg.Offset), .slice (g.2.2.2.2.2.2.1) ((g.2.1).Hist.Neg.Counts).length (g.2.2.2.2.2.2.2), .int .i64 ((g.2.1).Flags)]]) (fun n g => m_limnographlaw12_PointBack_L1 j4 n g.1 g.2.1) fuel (0, y45, A46, c46, A48, c48, A50, c50) (Sub.cons rfl (Sub.cons rfl (Sub.cons rfl (Sub.cons rfl (Sub.cons rfl (Sub.nil _)))))) (hm52.pick [0, 1, 2, 3, 4, 5, 6, 7, 8, 9, 10, 11] rfl (by decide)) hM (fun _ => rfl) ?_
      clear hM
      rintro m77 ⟨y69, y70, A71, c71, A73, c73, A75, c75⟩ w77 hm77 hM hn77
      replace hM : m_limnographlaw12_PointBack_L1 j4 (m77 + 1) y69 y70 = some r := hM
      rw [m_limnographlaw12_PointBack_L1] at hM
      refine gg 7 rfl (Rn.q rfl (V.ldB Tryz.isAgg24 rfl (hm77.get 11 rfl) rfl) (Rn.q rfl (V.lenV Tryz.underlying24 rfl) (gg 2 rfl ?_)))
      refine Rn.condD rfl (fun h78 => ?_) (fun h78 => ?_)
      ·replace hM := iteT h78 hM
       refine gg 3 rfl ?_
       refine Rn.drawT 14 rfl hm77 (by kernel_rfl) ?_
       intro w79 hm79
       refine RT.v 0 (by kernel_rfl) rfl rfl rfl rfl (V.fa Tryz.underlying30 rfl Tryz.sizeOf28 rfl rfl) ?_
       refine RT.v 1 (by kernel_rfl) rfl rfl rfl rfl (V.fa Tryz.underlying28 rfl Tryz.sizeOf26 rfl rfl) ?_
       refine RT.v 2 (by kernel_rfl) rfl rfl rfl rfl (V.fa Tryz.underlying26 rfl Tryz.sizeOf24 rfl rfl) ?_
       refine RT.v 3 (by kernel_rfl) rfl rfl rfl rfl (V.ldB Tryz.isAgg24 rfl (hm79.get 11 rfl) rfl) ?_
       refine RT.v 4 (by kernel_rfl) rfl rfl rfl rfl (V.mv rfl) ?_
       refine RT.v 5 (by kernel_rfl) rfl rfl rfl rfl (V.fa Tryz.underlying30 rfl Tryz.sizeOf28 rfl rfl) ?_
       refine RT.v 6 (by kernel_rfl) rfl rfl rfl rfl (V.fa Tryz.underlying28 rfl Tryz.sizeOf26 rfl rfl) ?_
       refine RT.v 7 (by kernel_rfl) rfl rfl rfl rfl (V.fa Tryz.underlying26 rfl Tryz.sizeOf24 rfl rfl) ?_
       refine RT.v 8 (by kernel_rfl) rfl rfl rfl rfl (V.ldB Tryz.isAgg24 rfl (hm79.get 11 rfl) rfl) ?_
       refine RT.v 9 (by kernel_rfl) rfl rfl rfl rfl (V.mv rfl) ?_
       obtain ⟨z80, e80, hM⟩ := bindE hM
       obtain ⟨kk80, ke80, kz80, kl80⟩ := idxE e80
       obtain ⟨g80, vs80, hA80, hR80, hrel80⟩ := hm79.ownAt 9 rfl kz80
       subst hA80
       obtain ⟨rfl, _⟩ := hrel80
       refine RT.v 10 (by kernel_rfl) rfl rfl rfl rfl (V.ixE kk80 Tryz.underlying24 Tryz.sizeOf23 rfl rfl ke80 kl80) ?_
       refine RT.v 11 (by kernel_rfl) rfl rfl rfl rfl (V.ldR0 Tryz.isAgg23 rfl hR80 rfl) ?_
       refine RT.v 12 (by kernel_rfl) rfl rfl rfl rfl (V.ari64 (a := z80) (b := (1 : UInt64)) rfl rfl _ rfl (toU64_add _ _)) ?_
       obtain ⟨z81, e81, hM⟩ := bindE hM
       obtain ⟨kk81, ke81, kz81, kl81⟩ := idxE e81
       obtain ⟨vs81, hR81, hrel81⟩ := hm79.ownAtL 9 rfl kz81
       obtain ⟨rfl, _⟩ := hrel81
       refine RT.v 13 (by kernel_rfl) rfl rfl rfl rfl (V.ixE kk81 Tryz.underlying24 Tryz.sizeOf23 rfl rfl ke81 kl81) ?_
       refine RT.tail ?_
       refine RH.stI 14 (by kernel_rfl) hm79 9 rfl ke81 kl81 rfl rfl Tryz.sizeOf23 rfl rfl rfl (vs := [.int .u64 (((z80 + (1 : UInt64)).toNat : Nat) : Int)]) rfl (⟨rfl, trivial⟩) ?_
       intro w82 hm82
       refine ⟨trivial, ?_⟩
       refine RH.doneP (by kernel_rfl) ?_
       refine gg 6 rfl ?_
       refine Rn.say (t := 64) (.slice (some ⟨g80, 0, none⟩) ((setI y70.Hist.Pos.Counts y69 (z80 + (1 : UInt64)))).length c73) rfl (by rw [show (y70.Hist.Pos.Counts).length = ((setI y70.Hist.Pos.Counts y69 (z80 + (1 : UInt64)))).length from ((length_setI _ _ _)).symm.trans (rfl)]) ?_
       refine Rn.say (t := 72) (.slice (some ⟨g80, 0, none⟩) ((setI y70.Hist.Pos.Counts y69 (z80 + (1 : UInt64)))).length c73) rfl (by rw [show (y70.Hist.Pos.Counts).length = ((setI y70.Hist.Pos.Counts y69 (z80 + (1 : UInt64)))).length from ((length_setI _ _ _)).symm.trans (rfl)]) ?_
       refine Rn.say (t := 77) (.slice (some ⟨g80, 0, none⟩) ((setI y70.Hist.Pos.Counts y69 (z80 + (1 : UInt64)))).length c73) rfl (by rw [show (y70.Hist.Pos.Counts).length = ((setI y70.Hist.Pos.Counts y69 (z80 + (1 : UInt64)))).length from ((length_setI _ _ _)).symm.trans (rfl)]) ?_
       have hm83 := (hm82.reBox 11 rfl (congrArg (fun (n0 : Nat) => ([Str (y70.Name), .slice A71 (y70.Attrs).length c71, .int .i64 (y70.Kind), .int .i64 (y70.Temp), .bool (y70.Mono), .int .i64 (y70.Start), .int .i64 (y70.Time), .int .i64 (y70.Int_), .int .u64 (((y70.Re).toNat : Nat) : Int), .int .u64 (((y70.Im).toNat : Nat) : Int), .int .i64 (y70.Hist.Scale), .int .u64 (((y70.Hist.Zero).toNat : Nat) : Int), .int .i64 (y70.Hist.Pos.Offset), .slice (some ⟨g80, 0, none⟩) n0 c73, .int .i64 (y70.Hist.Neg.Offset), .slice A75 (y70.Hist.Neg.Counts).length c75, .int .i64 (y70.Flags)] : List Value)) (show (y70.Hist.Pos.Counts).length = ((setI y70.Hist.Pos.Counts y69 (z80 + (1 : UInt64)))).length from ((length_setI _ _ _)).symm.trans (rfl)))).nf [_, _, _, _, _, _, _, _, _, _, _, boxR _ _ [_, _, _, _, _, _, _, _, _, _, _, _, _, _, _, _, _]] rfl
       exact hn77 ((W64 (y69 + 1)), ({ Name := y70.Name, Attrs := y70.Attrs, Kind := y70.Kind, Temp := y70.Temp, Mono := y70.Mono, Start := y70.Start, Time := y70.Time, Int_ := y70.Int_, Re := y70.Re, Im := y70.Im, Hist := ({ Scale := y70.Hist.Scale, Zero := y70.Hist.Zero, Pos := ({ Offset := y70.Hist.Pos.Offset, Counts := (setI y70.Hist.Pos.Counts y69 (z80 + (1 : UInt64))) } : T_api_Side), Neg := y70.Hist.Neg } : T_api_Hist), Flags := y70.Flags } : T_api_Point), A71, c71, (some ⟨g80, 0, none⟩), c73, A75, c75) _ _ (Sub.cons rfl (Sub.cons rfl (Sub.cons rfl (Sub.cons rfl (Sub.cons rfl (Sub.nil _)))))) (hm83.pick [0, 1, 2, 3, 4, 5, 6, 7, 8, 9, 10, 11] rfl (by decide)) hM
      ·replace hM := iteF h78 hM
       refine gg 1 rfl ?_
       exact hk4 () _ _ (Sub.cons rfl (Sub.cons rfl (Sub.cons rfl (Sub.nil _)))) (hm77.pick [0, 1, 2, 3, 4, 5, 6, 7] rfl (by decide)) hM
     intro hk3
     clear hj3
     refine gg 1 rfl ?_
     refine Rn.loopF (G := Int × T_api_Point × Option Addr × Nat × Option Addr × Nat × Option Addr × Nat) (fun g => [(1, .pointer (some ⟨b10, 0, none⟩)), (5, .pointer (some ⟨b33, 0, none⟩)), (6, .int .i64 (p28.2)), (7, .pointer (some ⟨b41, 0, none⟩)), (9, .int .i64 ((g.1)))]) (fun g w' => Hp Z0 No w w' [slR A1 c1 T_api_Pair.rep x0.Attrs, slR A3 c3 w64R x0.Hist.Pos.Counts, slR A5 c5 w64R x0.Hist.Neg.Counts, boxR b10 30 [Str (x0.Name), .slice A1 (x0.Attrs).length c1, .int .i64 (x0.Kind), .int .i64 (x0.Temp), .bool (x0.Mono), .int .i64 (x0.Start), .int .i64 (x0.Time), .int .i64 (x0.Int_), .int .u64 (((x0.Re).toNat : Nat) : Int), .int .u64 (((x0.Im).toNat : Nat) : Int), .int .i64 (x0.Hist.Scale), .int .u64 (((x0.Hist.Zero).toNat : Nat) : Int), .int .i64 (x0.Hist.Pos.Offset), .slice A3 (x0.Hist.Pos.Counts).length c3, .int .i64 (x0.Hist.Neg.Offset), .slice A5 (x0.Hist.Neg.Counts).length c5, .int .i64 (x0.Flags)], ownR 42 A28_0_0 c28_0_0 T_api_Pair.rep p28.1.Attrs, ownR 23 A28_0_1 c28_0_1 w64R p28.1.Hist.Pos.Counts, ownR 23 A28_0_2 c28_0_2 w64R p28.1.Hist.Neg.Counts, boxR b33 30 [Str (p28.1.Name), .slice A28_0_0 (p28.1.Attrs).length c28_0_0, .int .i64 (p28.1.Kind), .int .i64 (p28.1.Temp), .bool (p28.1.Mono), .int .i64 (p28.1.Start), .int .i64 (p28.1.Time), .int .i64 (p28.1.Int_), .int .u64 (((p28.1.Re).toNat : Nat) : Int), .int .u64 (((p28.1.Im).toNat : Nat) : Int), .int .i64 (p28.1.Hist.Scale), .int .u64 (((p28.1.Hist.Zero).toNat : Nat) : Int), .int .i64 (p28.1.Hist.Pos.Offset), .slice A28_0_1 (p28.1.Hist.Pos.Counts).length c28_0_1, .int .i64 (p28.1.Hist.Neg.Offset), .slice A28_0_2 (p28.1.Hist.Neg.Counts).length c28_0_2, .int .i64 (p28.1.Flags)], ownR 42 (g.2.2.1) (g.2.2.2.1) T_api_Pair.rep (g.2.1).Attrs, ownR 23 (g.2.2.2.2.1) (g.2.2.2.2.2.1) w64R (g.2.1).Hist.Pos.Counts, ownR 23 (g.2.2.2.2.2.2.1) (g.2.2.2.2.2.2.2) w64R (g.2.1).Hist.Neg.Counts, boxR b41 30 [Str ((g.2.1).Name), .slice (g.2.2.1) ((g.2.1).Attrs).length (g.2.2.2.1), .int .i64 ((g.2.1).Kind), .int .i64 ((g.2.1).Temp), .bool ((g.2.1).Mono), .int .i64 ((g.2.1).Start), .int .i64 ((g.2.1).Time), .int .i64 ((g.2.1).Int_), .int .u64 ((((g.2.1).Re).toNat : Nat) : Int), .int .u64 ((((g.2.1).Im).toNat : Nat) : Int), .int .i64 ((g.2.1).Hist.Scale), .int .u64 ((((g.2.1).Hist.Zero).toNat : Nat) : Int), .int .i64 ((g.2.1).Hist.Pos.Offset), .slice (g.2.2.2.2.1) ((g.2.1).Hist.Pos.Counts).length (g.2.2.2.2.2.1), .int .i64 ((g.2.1).Hist.Neg.Offset), .slice (g.2.2.2.2.2.2.1) ((g.2.1).Hist.Neg.Counts).length (g.2.2.2.2.2.2.2), .int .i64 ((g.2.1).Flags)]]) (fun n g => m_limnographlaw12_PointBack_L2 j3 n g.1 g.2.1) fuel (0, p36, A36_0_0, c36_0_0, A36_0_1, c36_0_1, A36_0_2, c36_0_2) (Sub.cons rfl (Sub.cons rfl (Sub.cons rfl (Sub.cons rfl (Sub.cons rfl (Sub.nil _)))))) (hm44.pick [0, 1, 2, 3, 4, 5, 6, 7, 8, 9, 10, 11] rfl (by decide)) hM (fun _ => rfl) ?_
     clear hM
     rintro m92 ⟨y84, y85, A86, c86, A88, c88, A90, c90⟩ w92 hm92 hM hn92
     replace hM : m_limnographlaw12_PointBack_L2 j3 (m92 + 1) y84 y85 = some r := hM
     rw [m_limnographlaw12_PointBack_L2] at hM
     refine gg 5 rfl (Rn.q rfl (V.ldB Tryz.isAgg22 rfl (hm92.get 11 rfl) rfl) (Rn.q rfl (V.lenV Tryz.underlying22 rfl) (gg 2 rfl ?_)))
     refine Rn.condD rfl (fun h93 => ?_) (fun h93 => ?_)
     ·replace hM := iteT h93 hM
      refine gg 5 rfl (Rn.q rfl (V.ldB Tryz.isAgg22 rfl (hm92.get 11 rfl) rfl) (gg 1 rfl ?_))
      obtain ⟨z94, e94, hM⟩ := bindE hM
      obtain ⟨kk94, ke94, kz94, kl94⟩ := idxE e94
      obtain ⟨g94, vs94, hA94, hR94, hrel94⟩ := hm92.ownAt 8 rfl kz94
      subst hA94
      obtain ⟨_, _, rfl, ⟨rfl, _⟩, ⟨rfl, _⟩⟩ := hrel94
      refine Rn.q rfl (V.ixE kk94 Tryz.underlying22 Tryz.sizeOf42 rfl rfl ke94 kl94) (gg 1 rfl (Rn.stP (z := ({ Key := ([33] : List UInt8), Val := z94.Val } : T_api_Pair)) (us := [Str (([33] : List UInt8))]) (vs1 := [Str (([33] : List UInt8)), Str (z94.Val)]) hm92 8 rfl ke94 kl94 hR94 rfl rfl Tryz.sizeOf9 rfl rfl rfl rfl rfl (by first | exact ones rfl | (simp [Value.oneCell']; done)) rfl rfl rfl (⟨_, _, rfl, ⟨rfl, trivial⟩, ⟨rfl, trivial⟩⟩) ?_))
      intro w95 hm95
      refine gg 7 rfl ?_
      refine Rn.say (t := 50) (.slice (some ⟨g94, 0, none⟩) ((setI y85.Attrs y84 ({ Key := ([33] : List UInt8), Val := z94.Val } : T_api_Pair))).length c86) rfl (by rw [show (y85.Attrs).length = ((setI y85.Attrs y84 ({ Key := ([33] : List UInt8), Val := z94.Val } : T_api_Pair))).length from ((length_setI _ _ _)).symm.trans (rfl)]) ?_
      refine Rn.say (t := 56) (.slice (some ⟨g94, 0, none⟩) ((setI y85.Attrs y84 ({ Key := ([33] : List UInt8), Val := z94.Val } : T_api_Pair))).length c86) rfl (by rw [show (y85.Attrs).length = ((setI y85.Attrs y84 ({ Key := ([33] : List UInt8), Val := z94.Val } : T_api_Pair))).length from ((length_setI _ _ _)).symm.trans (rfl)]) ?_
      have hm96 := (hm95.reBox 11 rfl (congrArg (fun (n0 : Nat) => ([Str (y85.Name), .slice (some ⟨g94, 0, none⟩) n0 c86, .int .i64 (y85.Kind), .int .i64 (y85.Temp), .bool (y85.Mono), .int .i64 (y85.Start), .int .i64 (y85.Time), .int .i64 (y85.Int_), .int .u64 (((y85.Re).toNat : Nat) : Int), .int .u64 (((y85.Im).toNat : Nat) : Int), .int .i64 (y85.Hist.Scale), .int .u64 (((y85.Hist.Zero).toNat : Nat) : Int), .int .i64 (y85.Hist.Pos.Offset), .slice A88 (y85.Hist.Pos.Counts).length c88, .int .i64 (y85.Hist.Neg.Offset), .slice A90 (y85.Hist.Neg.Counts).length c90, .int .i64 (y85.Flags)] : List Value)) (show (y85.Attrs).length = ((setI y85.Attrs y84 ({ Key := ([33] : List UInt8), Val := z94.Val } : T_api_Pair))).length from ((length_setI _ _ _)).symm.trans (rfl)))).nf [_, _, _, _, _, _, _, _, _, _, _, boxR _ _ [_, _, _, _, _, _, _, _, _, _, _, _, _, _, _, _, _]] rfl
      exact hn92 ((W64 (y84 + 1)), ({ Name := y85.Name, Attrs := (setI y85.Attrs y84 ({ Key := ([33] : List UInt8), Val := z94.Val } : T_api_Pair)), Kind := y85.Kind, Temp := y85.Temp, Mono := y85.Mono, Start := y85.Start, Time := y85.Time, Int_ := y85.Int_, Re := y85.Re, Im := y85.Im, Hist := y85.Hist, Flags := y85.Flags } : T_api_Point), (some ⟨g94, 0, none⟩), c86, A88, c88, A90, c90) _ _ (Sub.cons rfl (Sub.cons rfl (Sub.cons rfl (Sub.cons rfl (Sub.cons rfl (Sub.nil _)))))) (hm96.pick [0, 1, 2, 3, 4, 5, 6, 7, 8, 9, 10, 11] rfl (by decide)) hM
     ·replace hM := iteF h93 hM
      refine gg 1 rfl ?_
      exact hk3 (y85, A86, c86, A88, c88, A90, c90) _ _ (Sub.cons rfl (Sub.cons rfl (Sub.cons rfl (Sub.cons rfl (Sub.nil _))))) (hm92.pick [0, 1, 2, 3, 4, 5, 6, 7, 8, 9, 10, 11] rfl (by decide)) hM
    intro hk2
    clear hj2
    refine gg 1 rfl ?_
    refine Rn.loopF (G := (List UInt8) × Int) (fun g => [(1, .pointer (some ⟨b10, 0, none⟩)), (3, .slice A19_0_0 (p19.1).length c19_0_0), (5, .pointer (some ⟨b33, 0, none⟩)), (6, .int .i64 (p28.2)), (7, .pointer (some ⟨b41, 0, none⟩)), (8, .int .i64 ((g.2)))]) (fun g w' => Hp Z0 No w w' [slR A1 c1 T_api_Pair.rep x0.Attrs, slR A3 c3 w64R x0.Hist.Pos.Counts, slR A5 c5 w64R x0.Hist.Neg.Counts, boxR b10 30 [Str (x0.Name), .slice A1 (x0.Attrs).length c1, .int .i64 (x0.Kind), .int .i64 (x0.Temp), .bool (x0.Mono), .int .i64 (x0.Start), .int .i64 (x0.Time), .int .i64 (x0.Int_), .int .u64 (((x0.Re).toNat : Nat) : Int), .int .u64 (((x0.Im).toNat : Nat) : Int), .int .i64 (x0.Hist.Scale), .int .u64 (((x0.Hist.Zero).toNat : Nat) : Int), .int .i64 (x0.Hist.Pos.Offset), .slice A3 (x0.Hist.Pos.Counts).length c3, .int .i64 (x0.Hist.Neg.Offset), .slice A5 (x0.Hist.Neg.Counts).length c5, .int .i64 (x0.Flags)], ownR 5 A19_0_0 c19_0_0 byteR (g.1), ownR 42 A28_0_0 c28_0_0 T_api_Pair.rep p28.1.Attrs, ownR 23 A28_0_1 c28_0_1 w64R p28.1.Hist.Pos.Counts, ownR 23 A28_0_2 c28_0_2 w64R p28.1.Hist.Neg.Counts, boxR b33 30 [Str (p28.1.Name), .slice A28_0_0 (p28.1.Attrs).length c28_0_0, .int .i64 (p28.1.Kind), .int .i64 (p28.1.Temp), .bool (p28.1.Mono), .int .i64 (p28.1.Start), .int .i64 (p28.1.Time), .int .i64 (p28.1.Int_), .int .u64 (((p28.1.Re).toNat : Nat) : Int), .int .u64 (((p28.1.Im).toNat : Nat) : Int), .int .i64 (p28.1.Hist.Scale), .int .u64 (((p28.1.Hist.Zero).toNat : Nat) : Int), .int .i64 (p28.1.Hist.Pos.Offset), .slice A28_0_1 (p28.1.Hist.Pos.Counts).length c28_0_1, .int .i64 (p28.1.Hist.Neg.Offset), .slice A28_0_2 (p28.1.Hist.Neg.Counts).length c28_0_2, .int .i64 (p28.1.Flags)], ownR 42 A36_0_0 c36_0_0 T_api_Pair.rep p36.Attrs, ownR 23 A36_0_1 c36_0_1 w64R p36.Hist.Pos.Counts, ownR 23 A36_0_2 c36_0_2 w64R p36.Hist.Neg.Counts, boxR b41 30 [Str (p36.Name), .slice A36_0_0 (p36.Attrs).length c36_0_0, .int .i64 (p36.Kind), .int .i64 (p36.Temp), .bool (p36.Mono), .int .i64 (p36.Start), .int .i64 (p36.Time), .int .i64 (p36.Int_), .int .u64 (((p36.Re).toNat : Nat) : Int), .int .u64 (((p36.Im).toNat : Nat) : Int), .int .i64 (p36.Hist.Scale), .int .u64 (((p36.Hist.Zero).toNat : Nat) : Int), .int .i64 (p36.Hist.Pos.Offset), .slice A36_0_1 (p36.Hist.Pos.Counts).length c36_0_1, .int .i64 (p36.Hist.Neg.Offset), .slice A36_0_2 (p36.Hist.Neg.Counts).length c36_0_2, .int .i64 (p36.Flags)]] ∧ (g.1).length = (p19.1).length) (fun n g => m_limnographlaw12_PointBack_L3 p19 j2 n g.1 g.2) fuel (p19.1, 0) (Sub.cons rfl (Sub.cons rfl (Sub.cons rfl (Sub.cons rfl (Sub.cons rfl (Sub.cons rfl (Sub.nil _))))))) (⟨hm43.pick [0, 1, 2, 3, 4, 5, 6, 7, 8, 9, 10, 11, 12] rfl (by decide), rfl⟩) hM (fun _ => rfl) ?_
    clear hM
    rintro m99 ⟨y97, y98⟩ w99 ⟨hm99, hl97⟩ hM hn99
    replace hl97 : y97.length = (p19.1).length := hl97
    replace hM : m_limnographlaw12_PointBack_L3 p19 j2 (m99 + 1) y97 y98 = some r := hM
    rw [m_limnographlaw12_PointBack_L3] at hM
    refine gg 5 rfl (Rn.q rfl (V.lenV Tryz.underlying33 rfl) (gg 2 rfl ?_))
    refine Rn.condD rfl (fun h100 => ?_) (fun h100 => ?_)
    ·replace hM := iteT h100 hM
     refine gg 6 rfl ?_
     obtain ⟨z101, e101, hM⟩ := bindE hM
     obtain ⟨kk101, ke101, kz101, kl101⟩ := idxE e101
     obtain ⟨g101, vs101, hA101, hR101, hrel101⟩ := hm99.ownAt 4 rfl kz101
     subst hA101
     obtain ⟨rfl, _⟩ := hrel101
     refine Rn.q rfl (V.ixE kk101 Tryz.underlying33 Tryz.sizeOf5 rfl rfl ke101 (Nat.lt_of_lt_of_eq kl101 hl97)) (Rn.stI hm99 4 rfl ke101 kl101 rfl rfl Tryz.sizeOf5 rfl rfl rfl (vs := [.int .u8 ((((255 : UInt8)).toNat : Nat) : Int)]) rfl (⟨rfl, trivial⟩) ?_)
     intro w102 hm102
     refine gg 7 rfl ?_
     exact hn99 ((setI y97 y98 (255 : UInt8)), (W64 (y98 + 1))) _ _ (Sub.cons rfl (Sub.cons rfl (Sub.cons rfl (Sub.cons rfl (Sub.cons rfl (Sub.cons rfl (Sub.nil _))))))) (⟨hm102.pick [0, 1, 2, 3, 4, 5, 6, 7, 8, 9, 10, 11, 12] rfl (by decide), ((length_setI _ _ _).trans hl97)⟩) hM
    ·replace hM := iteF h100 hM
     refine gg 1 rfl ?_
     exact hk2 () _ _ (Sub.cons rfl (Sub.cons rfl (Sub.cons rfl (Sub.cons rfl (Sub.nil _))))) (hm99.pick [0, 1, 2, 3, 5, 6, 7, 8, 9, 10, 11, 12] rfl (by decide)) hM

theorem m_limnographlaw12_PointKeys_sim {Z0 : Nat → Prop} {w : World} {x0 : T_api_Point} {cs0 : List Value} {x1 : T_api_Point} {cs1 : List Value} {r : Bool} (hM : m_limnographlaw12_PointKeys x0 x1 = some r) (h0 : T_api_Point.rep.rel Z0 w cs0 x0) (h1 : T_api_Point.rep.rel Z0 w cs1 x1) :
    Calls Tryz.prog 4 #[.agg cs0.toArray, .agg cs1.toArray] w fun x w' => x = .returned (.bool (r)) ∧ Hp Z0 No w w' [] := by
 have hm0 := Hp.nil Z0 No w
 have hc0 := Calm.nil
 obtain ⟨_, _, rfl, ⟨rfl, _⟩, ⟨_, _, rfl, ⟨A1, c1, rfl, p1, q1, s1⟩, ⟨_, _, rfl, ⟨rfl, _⟩, ⟨_, _, rfl, ⟨rfl, _⟩, ⟨_, _, rfl, ⟨rfl, _⟩, ⟨_, _, rfl, ⟨rfl, _⟩, ⟨_, _, rfl, ⟨rfl, _⟩, ⟨_, _, rfl, ⟨rfl, _⟩, ⟨_, _, rfl, ⟨rfl, _⟩, ⟨_, _, rfl, ⟨rfl, _⟩, ⟨_, _, rfl, ⟨_, _, rfl, ⟨rfl, _⟩, ⟨_, _, rfl, ⟨rfl, _⟩, ⟨_, _, rfl, ⟨_, _, rfl, ⟨rfl, _⟩, ⟨A3, c3, rfl, p3, q3, s3⟩⟩, ⟨_, _, rfl, ⟨rfl, _⟩, ⟨A5, c5, rfl, p5, q5, s5⟩⟩⟩⟩⟩, ⟨rfl, _⟩⟩⟩⟩⟩⟩⟩⟩⟩⟩⟩⟩ := h0
 have hm13 := hm0.know (slR A1 c1 T_api_Pair.rep x0.Attrs) (fun _ h => h) (hm0.in0 hc0 ⟨p1, q1, s1⟩)
 replace hc0 := hc0.snoc (r := slR A1 c1 T_api_Pair.rep x0.Attrs) (fun _ h => h)
 have hm14 := hm13.know (slR A3 c3 w64R x0.Hist.Pos.Counts) (fun _ h => h) (hm13.in0 hc0 ⟨p3, q3, s3⟩)
 replace hc0 := hc0.snoc (r := slR A3 c3 w64R x0.Hist.Pos.Counts) (fun _ h => h)
 have hm15 := hm14.know (slR A5 c5 w64R x0.Hist.Neg.Counts) (fun _ h => h) (hm14.in0 hc0 ⟨p5, q5, s5⟩)
 replace hc0 := hc0.snoc (r := slR A5 c5 w64R x0.Hist.Neg.Counts) (fun _ h => h)
 obtain ⟨_, _, rfl, ⟨rfl, _⟩, ⟨_, _, rfl, ⟨A7, c7, rfl, p7, q7, s7⟩, ⟨_, _, rfl, ⟨rfl, _⟩, ⟨_, _, rfl, ⟨rfl, _⟩, ⟨_, _, rfl, ⟨rfl, _⟩, ⟨_, _, rfl, ⟨rfl, _⟩, ⟨_, _, rfl, ⟨rfl, _⟩, ⟨_, _, rfl, ⟨rfl, _⟩, ⟨_, _, rfl, ⟨rfl, _⟩, ⟨_, _, rfl, ⟨rfl, _⟩, ⟨_, _, rfl, ⟨_, _, rfl, ⟨rfl, _⟩, ⟨_, _, rfl, ⟨rfl, _⟩, ⟨_, _, rfl, ⟨_, _, rfl, ⟨rfl, _⟩, ⟨A9, c9, rfl, p9, q9, s9⟩⟩, ⟨_, _, rfl, ⟨rfl, _⟩, ⟨A11, c11, rfl, p11, q11, s11⟩⟩⟩⟩⟩, ⟨rfl, _⟩⟩⟩⟩⟩⟩⟩⟩⟩⟩⟩⟩ := h1
 have hm16 := hm15.know (slR A7 c7 T_api_Pair.rep x1.Attrs) (fun _ h => h) (hm15.in0 hc0 ⟨p7, q7, s7⟩)
 replace hc0 := hc0.snoc (r := slR A7 c7 T_api_Pair.rep x1.Attrs) (fun _ h => h)
 have hm17 := hm16.know (slR A9 c9 w64R x1.Hist.Pos.Counts) (fun _ h => h) (hm16.in0 hc0 ⟨p9, q9, s9⟩)
 replace hc0 := hc0.snoc (r := slR A9 c9 w64R x1.Hist.Pos.Counts) (fun _ h => h)
 have hm18 := hm17.know (slR A11 c11 w64R x1.Hist.Neg.Counts) (fun _ h => h) (hm17.in0 hc0 ⟨p11, q11, s11⟩)
 replace hc0 := hc0.snoc (r := slR A11 c11 w64R x1.Hist.Neg.Counts) (fun _ h => h)
 refine Rn.enter Tryz.func4 rfl rfl (Nat.le_of_ble_eq_true rfl) ?_
 refine gg 2 rfl (Rn.box rfl rfl rfl rfl rfl ?_)
 intro b19 w19 hb19 m19 e19
 have hm21 := (hm18.addBox hb19 e19 m19).nf [_, _, _, _, _, _, boxR _ _ [_, _, _, _, _, _, _, _, _, _, _, _, _, _, _, _, _]] rfl
 refine Rn.box rfl rfl rfl rfl rfl ?_
 intro b22 w22 hb22 m22 e22
 have hm24 := (hm21.addBox hb22 e22 m22).nf [_, _, _, _, _, _, _, boxR _ _ [_, _, _, _, _, _, _, _, _, _, _, _, _, _, _, _, _]] rfl
 refine gg 5 rfl ?_
 obtain ⟨p25, e25, hM⟩ := bindE hM
 refine Rn.cl ck5 rfl rfl rfl rfl (m_limnographlaw12_awake_sim (Z0 := All) e25  :) ?_
 rintro _ w25 ⟨rfl, hq25⟩
 refine ⟨_, rfl, ?_⟩
 have hm26 := hm24.call0 hq25
 refine Rn.q rfl (V.notB rfl) (gg 1 rfl ?_)
 refine Rn.condS rfl (fun h27 => ?_) (fun h27 => ?_)
 ·replace hM := iteT h27 hM
  refine gg 4 rfl ?_
  refine Rn.retG1 Tryz.func4 rfl (rvT rfl) ?_
  obtain rfl := someE hM
  exact ⟨rfl, hm26.pick [] rfl (by decide)⟩
 ·replace hM := iteFB hM h27
  refine gg 4 rfl (Rn.q rfl (V.ldBA [_, _, _, _, _, _, _, _, _, _, _, _, _, _, _, _, _] Tryz.isAgg30 Tryz.sizeOf30 rfl (hm26.get 6 rfl) rfl rfl) ?_)
  obtain ⟨p28, e28, hM⟩ := bindE hM
  refine Rn.cl ck6 rfl rfl rfl rfl (m_limnographref12_Light_sim (Z0 := All) e28 (show T_api_Point.rep.rel All _ _ _ from ⟨_, _, rfl, ⟨rfl, trivial⟩, ⟨_, _, rfl, ⟨_, _, rfl, (slR_all (hm26.get 0 rfl)).1, (slR_all (hm26.get 0 rfl)).2.1, (slR_all (hm26.get 0 rfl)).2.2⟩, ⟨_, _, rfl, ⟨rfl, trivial⟩, ⟨_, _, rfl, ⟨rfl, trivial⟩, ⟨_, _, rfl, ⟨rfl, trivial⟩, ⟨_, _, rfl, ⟨rfl, trivial⟩, ⟨_, _, rfl, ⟨rfl, trivial⟩, ⟨_, _, rfl, ⟨rfl, trivial⟩, ⟨_, _, rfl, ⟨rfl, trivial⟩, ⟨_, _, rfl, ⟨rfl, trivial⟩, ⟨_, _, rfl, ⟨_, _, rfl, ⟨rfl, trivial⟩, ⟨_, _, rfl, ⟨rfl, trivial⟩, ⟨_, _, rfl, ⟨_, _, rfl, ⟨rfl, trivial⟩, ⟨_, _, rfl, (slR_all (hm26.get 1 rfl)).1, (slR_all (hm26.get 1 rfl)).2.1, (slR_all (hm26.get 1 rfl)).2.2⟩⟩, ⟨_, _, rfl, ⟨rfl, trivial⟩, ⟨_, _, rfl, (slR_all (hm26.get 2 rfl)).1, (slR_all (hm26.get 2 rfl)).2.1, (slR_all (hm26.get 2 rfl)).2.2⟩⟩⟩⟩⟩, ⟨rfl, trivial⟩⟩⟩⟩⟩⟩⟩⟩⟩⟩⟩⟩) :) ?_
  rintro _ w28 ⟨rfl, hq28⟩
  refine ⟨_, rfl, ?_⟩
  have hm29 := hm26.call0 hq28
  refine Rn.q rfl (V.notB rfl) (gg 1 rfl ?_)
  obtain ⟨j1, hj1, hM⟩ := jnE hM
  refine Rn.joinR (r := r) (G := Bool) [] (fun g => [(2, .pointer (some ⟨b19, 0, none⟩)), (3, .pointer (some ⟨b22, 0, none⟩)), (19, .bool (g))]) (fun g w' => Hp Z0 No w w' [slR A1 c1 T_api_Pair.rep x0.Attrs, slR A3 c3 w64R x0.Hist.Pos.Counts, slR A5 c5 w64R x0.Hist.Neg.Counts, slR A7 c7 T_api_Pair.rep x1.Attrs, slR A9 c9 w64R x1.Hist.Pos.Counts, slR A11 c11 w64R x1.Hist.Neg.Counts, boxR b19 30 [Str (x0.Name), .slice A1 (x0.Attrs).length c1, .int .i64 (x0.Kind), .int .i64 (x0.Temp), .bool (x0.Mono), .int .i64 (x0.Start), .int .i64 (x0.Time), .int .i64 (x0.Int_), .int .u64 (((x0.Re).toNat : Nat) : Int), .int .u64 (((x0.Im).toNat : Nat) : Int), .int .i64 (x0.Hist.Scale), .int .u64 (((x0.Hist.Zero).toNat : Nat) : Int), .int .i64 (x0.Hist.Pos.Offset), .slice A3 (x0.Hist.Pos.Counts).length c3, .int .i64 (x0.Hist.Neg.Offset), .slice A5 (x0.Hist.Neg.Counts).length c5, .int .i64 (x0.Flags)], boxR b22 30 [Str (x1.Name), .slice A7 (x1.Attrs).length c7, .int .i64 (x1.Kind), .int .i64 (x1.Temp), .bool (x1.Mono), .int .i64 (x1.Start), .int .i64 (x1.Time), .int .i64 (x1.Int_), .int .u64 (((x1.Re).toNat : Nat) : Int), .int .u64 (((x1.Im).toNat : Nat) : Int), .int .i64 (x1.Hist.Scale), .int .u64 (((x1.Hist.Zero).toNat : Nat) : Int), .int .i64 (x1.Hist.Pos.Offset), .slice A9 (x1.Hist.Pos.Counts).length c9, .int .i64 (x1.Hist.Neg.Offset), .slice A11 (x1.Hist.Neg.Counts).length c11, .int .i64 (x1.Flags)]]) (fun g => j1 g) ?_ ?_
  ·subst hj1
   clear hM
   rintro y30 w31 hm31 hM
   try dsimp only at hM
   refine gg 1 rfl ?_
   refine Rn.condS rfl (fun h32 => ?_) (fun h32 => ?_)
   ·replace hM := iteT h32 hM
    refine gg 4 rfl ?_
    refine Rn.retG1 Tryz.func4 rfl (rvT rfl) ?_
    obtain rfl := someE hM
    exact ⟨rfl, hm31.pick [] rfl (by decide)⟩
   ·replace hM := iteFB hM h32
    refine gg 3 rfl ?_
    obtain ⟨j2, hj2, hM⟩ := jnE hM
    refine Rn.joinG (r := r) (G := Bool) (fun g => [(2, .pointer (some ⟨b19, 0, none⟩)), (3, .pointer (some ⟨b22, 0, none⟩)), (33, .bool (g))]) (fun g w' => Hp Z0 No w w' [slR A1 c1 T_api_Pair.rep x0.Attrs, slR A3 c3 w64R x0.Hist.Pos.Counts, slR A5 c5 w64R x0.Hist.Neg.Counts, slR A7 c7 T_api_Pair.rep x1.Attrs, slR A9 c9 w64R x1.Hist.Pos.Counts, slR A11 c11 w64R x1.Hist.Neg.Counts, boxR b19 30 [Str (x0.Name), .slice A1 (x0.Attrs).length c1, .int .i64 (x0.Kind), .int .i64 (x0.Temp), .bool (x0.Mono), .int .i64 (x0.Start), .int .i64 (x0.Time), .int .i64 (x0.Int_), .int .u64 (((x0.Re).toNat : Nat) : Int), .int .u64 (((x0.Im).toNat : Nat) : Int), .int .i64 (x0.Hist.Scale), .int .u64 (((x0.Hist.Zero).toNat : Nat) : Int), .int .i64 (x0.Hist.Pos.Offset), .slice A3 (x0.Hist.Pos.Counts).length c3, .int .i64 (x0.Hist.Neg.Offset), .slice A5 (x0.Hist.Neg.Counts).length c5, .int .i64 (x0.Flags)], boxR b22 30 [Str (x1.Name), .slice A7 (x1.Attrs).length c7, .int .i64 (x1.Kind), .int .i64 (x1.Temp), .bool (x1.Mono), .int .i64 (x1.Start), .int .i64 (x1.Time), .int .i64 (x1.Int_), .int .u64 (((x1.Re).toNat : Nat) : Int), .int .u64 (((x1.Im).toNat : Nat) : Int), .int .i64 (x1.Hist.Scale), .int .u64 (((x1.Hist.Zero).toNat : Nat) : Int), .int .i64 (x1.Hist.Pos.Offset), .slice A9 (x1.Hist.Pos.Counts).length c9, .int .i64 (x1.Hist.Neg.Offset), .slice A11 (x1.Hist.Neg.Counts).length c11, .int .i64 (x1.Flags)]]) (fun g => j2 g) ?_ ?_
    ·subst hj2
     clear hM
     rintro y33 w34 hm34 hM
     try dsimp only at hM
     refine Rn.condS rfl (fun h35 => ?_) (fun h35 => ?_)
     ·replace hM := iteT h35 hM
      refine gg 4 rfl ?_
      refine Rn.retG1 Tryz.func4 rfl (rvT rfl) ?_
      obtain rfl := someE hM
      exact ⟨rfl, hm34.pick [] rfl (by decide)⟩
     ·replace hM := iteFB hM h35
      refine gg 3 rfl (Rn.q rfl (V.ldBA [_, _, _, _, _, _, _, _, _, _, _, _, _, _, _, _, _] Tryz.isAgg30 Tryz.sizeOf30 rfl (hm34.get 6 rfl) rfl rfl) ?_)
      obtain ⟨p36, e36, hM⟩ := bindE hM
      refine Rn.cl ck13 rfl rfl rfl rfl (m_point_Key_sim (Z0 := All) e36 (show T_api_Point.rep.rel All _ _ _ from ⟨_, _, rfl, ⟨rfl, trivial⟩, ⟨_, _, rfl, ⟨_, _, rfl, (slR_all (hm34.get 0 rfl)).1, (slR_all (hm34.get 0 rfl)).2.1, (slR_all (hm34.get 0 rfl)).2.2⟩, ⟨_, _, rfl, ⟨rfl, trivial⟩, ⟨_, _, rfl, ⟨rfl, trivial⟩, ⟨_, _, rfl, ⟨rfl, trivial⟩, ⟨_, _, rfl, ⟨rfl, trivial⟩, ⟨_, _, rfl, ⟨rfl, trivial⟩, ⟨_, _, rfl, ⟨rfl, trivial⟩, ⟨_, _, rfl, ⟨rfl, trivial⟩, ⟨_, _, rfl, ⟨rfl, trivial⟩, ⟨_, _, rfl, ⟨_, _, rfl, ⟨rfl, trivial⟩, ⟨_, _, rfl, ⟨rfl, trivial⟩, ⟨_, _, rfl, ⟨_, _, rfl, ⟨rfl, trivial⟩, ⟨_, _, rfl, (slR_all (hm34.get 1 rfl)).1, (slR_all (hm34.get 1 rfl)).2.1, (slR_all (hm34.get 1 rfl)).2.2⟩⟩, ⟨_, _, rfl, ⟨rfl, trivial⟩, ⟨_, _, rfl, (slR_all (hm34.get 2 rfl)).1, (slR_all (hm34.get 2 rfl)).2.1, (slR_all (hm34.get 2 rfl)).2.2⟩⟩⟩⟩⟩, ⟨rfl, trivial⟩⟩⟩⟩⟩⟩⟩⟩⟩⟩⟩⟩) :) ?_
      rintro _ w36 ⟨rfl, hq36⟩
      refine ⟨_, rfl, ?_⟩
      have hm37 := hm34.call0 hq36
      refine gg 8 rfl (Rn.q rfl (V.ldBA [_, _, _, _, _, _, _, _, _, _, _, _, _, _, _, _, _] Tryz.isAgg30 Tryz.sizeOf30 rfl (hm37.get 7 rfl) rfl rfl) ?_)
      obtain ⟨p38, e38, hM⟩ := bindE hM
      refine Rn.cl ck13 rfl rfl rfl rfl (m_point_Key_sim (Z0 := All) e38 (show T_api_Point.rep.rel All _ _ _ from ⟨_, _, rfl, ⟨rfl, trivial⟩, ⟨_, _, rfl, ⟨_, _, rfl, (slR_all (hm37.get 3 rfl)).1, (slR_all (hm37.get 3 rfl)).2.1, (slR_all (hm37.get 3 rfl)).2.2⟩, ⟨_, _, rfl, ⟨rfl, trivial⟩, ⟨_, _, rfl, ⟨rfl, trivial⟩, ⟨_, _, rfl, ⟨rfl, trivial⟩, ⟨_, _, rfl, ⟨rfl, trivial⟩, ⟨_, _, rfl, ⟨rfl, trivial⟩, ⟨_, _, rfl, ⟨rfl, trivial⟩, ⟨_, _, rfl, ⟨rfl, trivial⟩, ⟨_, _, rfl, ⟨rfl, trivial⟩, ⟨_, _, rfl, ⟨_, _, rfl, ⟨rfl, trivial⟩, ⟨_, _, rfl, ⟨rfl, trivial⟩, ⟨_, _, rfl, ⟨_, _, rfl, ⟨rfl, trivial⟩, ⟨_, _, rfl, (slR_all (hm37.get 4 rfl)).1, (slR_all (hm37.get 4 rfl)).2.1, (slR_all (hm37.get 4 rfl)).2.2⟩⟩, ⟨_, _, rfl, ⟨rfl, trivial⟩, ⟨_, _, rfl, (slR_all (hm37.get 5 rfl)).1, (slR_all (hm37.get 5 rfl)).2.1, (slR_all (hm37.get 5 rfl)).2.2⟩⟩⟩⟩⟩, ⟨rfl, trivial⟩⟩⟩⟩⟩⟩⟩⟩⟩⟩⟩⟩) :) ?_
      rintro _ w38 ⟨rfl, hq38⟩
      refine ⟨_, rfl, ?_⟩
      have hm39 := hm37.call0 hq38
      refine gg 12 rfl ?_
      refine Rn.cutR [] [(2, .pointer (some ⟨b19, 0, none⟩)), (3, .pointer (some ⟨b22, 0, none⟩)), (5, Str (p36.1)), (7, Str (p38.1)), (49, .bool (decide ((p36.2 ≠ 0) ∨ (p38.2 ≠ 0))))] (fun hk40 => ?_) ?_
      ·refine Rn.partD (t := 46) rfl (fun h41 => ?_) (fun h41 => ?_)
       ·refine gg 3 rfl ?_
        refine hk40 _ ?_
        exact Sub.cons rfl (Sub.cons rfl (Sub.cons rfl (Sub.cons rfl (Sub.cons (lkv _ rfl (by first | exact andT h41 | exact andF h41 | exact orT h41 | exact orF h41 | exact nandF h41 | exact nandT h41 | exact norT h41 | exact norF h41 | (simp [h41]; done) | grind)) (Sub.nil _)))))
       ·refine gg 3 rfl ?_
        refine hk40 _ ?_
        exact Sub.cons rfl (Sub.cons rfl (Sub.cons rfl (Sub.cons rfl (Sub.cons (lkv _ rfl (by first | exact andT h41 | exact andF h41 | exact orT h41 | exact orF h41 | exact nandF h41 | exact nandT h41 | exact norT h41 | exact norF h41 | (simp [h41]; done) | grind)) (Sub.nil _)))))
      refine gg 1 rfl ?_
      refine Rn.condD rfl (fun h42 => ?_) (fun h42 => ?_)
      ·replace hM := iteT h42 hM
       refine gg 4 rfl ?_
       refine Rn.retG1 Tryz.func4 rfl (rvT rfl) ?_
       obtain rfl := someE hM
       exact ⟨rfl, hm39.pick [] rfl (by decide)⟩
      ·replace hM := iteF h42 hM
       refine gg 2 rfl ?_
       obtain ⟨j3, hj3, hM⟩ := jnE hM
       refine Rn.joinG (r := r) (G := Bool) (fun g => [(5, Str (p36.1)), (7, Str (p38.1)), (9, .bool (g))]) (fun g w' => Hp Z0 No w w' [slR A1 c1 T_api_Pair.rep x0.Attrs, slR A3 c3 w64R x0.Hist.Pos.Counts, slR A5 c5 w64R x0.Hist.Neg.Counts, slR A7 c7 T_api_Pair.rep x1.Attrs, slR A9 c9 w64R x1.Hist.Pos.Counts, slR A11 c11 w64R x1.Hist.Neg.Counts, boxR b19 30 [Str (x0.Name), .slice A1 (x0.Attrs).length c1, .int .i64 (x0.Kind), .int .i64 (x0.Temp), .bool (x0.Mono), .int .i64 (x0.Start), .int .i64 (x0.Time), .int .i64 (x0.Int_), .int .u64 (((x0.Re).toNat : Nat) : Int), .int .u64 (((x0.Im).toNat : Nat) : Int), .int .i64 (x0.Hist.Scale), .int .u64 (((x0.Hist.Zero).toNat : Nat) : Int), .int .i64 (x0.Hist.Pos.Offset), .slice A3 (x0.Hist.Pos.Counts).length c3, .int .i64 (x0.Hist.Neg.Offset), .slice A5 (x0.Hist.Neg.Counts).length c5, .int .i64 (x0.Flags)], boxR b22 30 [Str (x1.Name), .slice A7 (x1.Attrs).length c7, .int .i64 (x1.Kind), .int .i64 (x1.Temp), .bool (x1.Mono), .int .i64 (x1.Start), .int .i64 (x1.Time), .int .i64 (x1.Int_), .int .u64 (((x1.Re).toNat : Nat) : Int), .int .u64 (((x1.Im).toNat : Nat) : Int), .int .i64 (x1.Hist.Scale), .int .u64 (((x1.Hist.Zero).toNat : Nat) : Int), .int .i64 (x1.Hist.Pos.Offset), .slice A9 (x1.Hist.Pos.Counts).length c9, .int .i64 (x1.Hist.Neg.Offset), .slice A11 (x1.Hist.Neg.Counts).length c11, .int .i64 (x1.Flags)]]) (fun g => j3 g) ?_ ?_
       ·subst hj3
        clear hM
        rintro y43 w44 hm44 hM
        try dsimp only at hM
        refine gg 4 rfl (Rn.q rfl (V.eqlS rfl rfl) (gg 1 rfl (Rn.q rfl (V.eqlB Tryz.underlying4 rfl rfl) (gg 2 rfl ?_))))
        refine Rn.retG1 Tryz.func4 rfl (rvT rfl) ?_
        obtain rfl := someE hM
        exact ⟨rfl, hm44.pick [] rfl (by decide)⟩
       intro hk3
       clear hj3
       refine Rn.drawH rfl hm39 ?_
       intro w45 hm45
       refine dd [0] (by kernel_rfl) rfl rfl ?_
       refine RH.take 1 (by kernel_rfl) rfl rfl rfl rfl (fun w' hDr => V.ldB Tryz.isAgg9 rfl ((hm45.ext hDr).get 6 rfl) rfl) ?_
       refine dd [2] (by kernel_rfl) rfl rfl ?_
       refine RH.here fun hS3 => RH.one 3 (by kernel_rfl) rfl rfl rfl rfl (V.ldB Tryz.isAgg9 rfl (hm45.get 7 rfl) rfl) hS3 ?_
       refine RH.here fun hS4 => RH.one 4 (by kernel_rfl) rfl rfl rfl rfl (V.eqlS rfl rfl) hS4 ?_
       refine dd [5] (by kernel_rfl) rfl rfl ?_
       refine RH.partD (t := 55) rfl (fun h46 => ?_) (fun h46 => ?_)
       ·replace hM := iteT h46 hM
        refine dd [6] (by kernel_rfl) rfl rfl ?_
        refine RH.take 7 (by kernel_rfl) rfl rfl rfl rfl (fun w' hDr => V.ldB Tryz.isAgg3 rfl ((hm45.ext hDr).get 6 rfl) rfl) ?_
        refine dd [8] (by kernel_rfl) rfl rfl ?_
        refine RH.here fun hS9 => RH.one 9 (by kernel_rfl) rfl rfl rfl rfl (V.ldB Tryz.isAgg3 rfl (hm45.get 7 rfl) rfl) hS9 ?_
        refine dd [10, 11, 12] (by kernel_rfl) rfl rfl ?_
        refine RH.partD (t := 62) rfl (fun h47 => ?_) (fun h47 => ?_)
        ·replace hM := iteT h47 hM
         refine dd [13] (by kernel_rfl) rfl rfl ?_
         refine RH.take 14 (by kernel_rfl) rfl rfl rfl rfl (fun w' hDr => V.ldB Tryz.isAgg3 rfl ((hm45.ext hDr).get 6 rfl) rfl) ?_
         refine dd [15] (by kernel_rfl) rfl rfl ?_
         refine RH.here fun hS16 => RH.one 16 (by kernel_rfl) rfl rfl rfl rfl (V.ldB Tryz.isAgg3 rfl (hm45.get 7 rfl) rfl) hS16 ?_
         refine dd [17, 18, 19] (by kernel_rfl) rfl rfl ?_
         refine RH.partD (t := 69) rfl (fun h48 => ?_) (fun h48 => ?_)
         ·replace hM := iteT h48 hM
          refine dd [20] (by kernel_rfl) rfl rfl ?_
          refine RH.take 21 (by kernel_rfl) rfl rfl rfl rfl (fun w' hDr => V.ldB Tryz.isAgg4 rfl ((hm45.ext hDr).get 6 rfl) rfl) ?_
          refine dd [22] (by kernel_rfl) rfl rfl ?_
          refine RH.here fun hS23 => RH.one 23 (by kernel_rfl) rfl rfl rfl rfl (V.ldB Tryz.isAgg4 rfl (hm45.get 7 rfl) rfl) hS23 ?_
          refine RH.here fun hS24 => RH.one 24 (by kernel_rfl) rfl rfl rfl rfl (V.eqlB Tryz.underlying4 rfl rfl) hS24 ?_
          refine dd [25, 26] (by kernel_rfl) rfl rfl ?_
          refine RH.partD (t := 76) rfl (fun h49 => ?_) (fun h49 => ?_)
          ·replace hM := iteT h49 hM
           refine dd [27] (by kernel_rfl) rfl rfl ?_
           refine RH.take 28 (by kernel_rfl) rfl rfl rfl rfl (fun w' hDr => V.ldB Tryz.isAgg22 rfl ((hm45.ext hDr).get 6 rfl) rfl) ?_
           refine dd [30] (by kernel_rfl) rfl rfl ?_
           refine RH.take 31 (by kernel_rfl) rfl rfl rfl rfl (fun w' hDr => V.ldB Tryz.isAgg22 rfl ((hm45.ext hDr).get 7 rfl) rfl) ?_
           obtain ⟨p50, e50, hM⟩ := bindE hM
           refine RH.cl ck15 29 (by kernel_rfl) rfl rfl rfl rfl (m_limnographref11_Sorted_sim (Z0 := All) e50 (slR_all (hm45.get 0 rfl)) :) ?_
           rintro _ w50 ⟨A50_0_0, c50_0_0, rfl, hq50⟩
           refine ⟨_, rfl, ((Ext.refl _).trans hq50.fr), ?_⟩
           have hm52 := hm45.callF (flC (ownR_flat T_api_Pair.flat _ _ _ _) fl0) hq50
           obtain ⟨p53, e53, hM⟩ := bindE hM
           refine RH.cl ck15 32 (by kernel_rfl) rfl rfl rfl rfl (m_limnographref11_Sorted_sim (Z0 := All) e53 (slR_all (hm52.get 3 rfl)) :) ?_
           rintro _ w53 ⟨A53_0_0, c53_0_0, rfl, hq53⟩
           refine ⟨_, rfl, (((Ext.refl _).trans hq50.fr).trans hq53.fr), ?_⟩
           have hm55 := hm52.callF (flC (ownR_flat T_api_Pair.flat _ _ _ _) fl0) hq53
           obtain ⟨p56, e56, hM⟩ := bindE hM
           refine RH.cl ck14 33 (by kernel_rfl) rfl rfl rfl rfl (m_limnographref11_Same_sim (Z0 := All) e56 (own_slR (hm55.get 8 rfl)) (own_slR (hm55.get 9 rfl)) :) ?_
           rintro _ w56 ⟨rfl, hq56⟩
           refine ⟨_, rfl, ((((Ext.refl _).trans hq50.fr).trans hq53.fr).trans hq56.fr), ?_⟩
           have hm57 := hm55.call0 hq56
           refine dd [34, 35] (by kernel_rfl) rfl rfl ?_
           refine RH.doneP (by kernel_rfl) ?_
           exact hk3 p56 _ _ (Sub.cons rfl (Sub.cons rfl (Sub.cons rfl (Sub.nil _)))) (hm57.pick [0, 1, 2, 3, 4, 5, 6, 7] rfl (by decide)) hM
          ·replace hM := iteF h49 hM
           refine dd [27, 28, 29, 30, 31, 32, 33, 34, 35] (by kernel_rfl) rfl rfl ?_
           refine RH.doneP (by kernel_rfl) ?_
           exact hk3 false _ _ (Sub.cons rfl (Sub.cons rfl (Sub.cons rfl (Sub.nil _)))) (hm45.pick [0, 1, 2, 3, 4, 5, 6, 7] rfl (by decide)) hM
         ·replace hM := iteF h48 hM
          refine dd [20, 21, 22, 23, 24, 25, 26, 27, 28, 29, 30, 31, 32, 33, 34, 35] (by kernel_rfl) rfl rfl ?_
          refine RH.doneP (by kernel_rfl) ?_
          exact hk3 false _ _ (Sub.cons rfl (Sub.cons rfl (Sub.cons rfl (Sub.nil _)))) (hm45.pick [0, 1, 2, 3, 4, 5, 6, 7] rfl (by decide)) hM
        ·replace hM := iteF h47 hM
         refine dd [13, 14, 15, 16, 17, 18, 19, 20, 21, 22, 23, 24, 25, 26, 27, 28, 29, 30, 31, 32, 33, 34, 35] (by kernel_rfl) rfl rfl ?_
         refine RH.doneP (by kernel_rfl) ?_
         exact hk3 false _ _ (Sub.cons rfl (Sub.cons rfl (Sub.cons rfl (Sub.nil _)))) (hm45.pick [0, 1, 2, 3, 4, 5, 6, 7] rfl (by decide)) hM
       ·replace hM := iteF h46 hM
        refine dd [6, 7, 8, 9, 10, 11, 12, 13, 14, 15, 16, 17, 18, 19, 20, 21, 22, 23, 24, 25, 26, 27, 28, 29, 30, 31, 32, 33, 34, 35] (by kernel_rfl) rfl rfl ?_
        refine RH.doneP (by kernel_rfl) ?_
        exact hk3 false _ _ (Sub.cons rfl (Sub.cons rfl (Sub.cons rfl (Sub.nil _)))) (hm45.pick [0, 1, 2, 3, 4, 5, 6, 7] rfl (by decide)) hM
    intro hk2
    clear hj2
    refine Rn.drawH rfl hm31 ?_
    intro w58 hm58
    refine RH.take 0 (by kernel_rfl) rfl rfl rfl rfl (fun w' hDr => V.ldBA [_, _, _, _, _, _, _, _, _, _, _, _, _, _, _, _, _] Tryz.isAgg30 Tryz.sizeOf30 rfl ((hm58.ext hDr).get 6 rfl) rfl rfl) ?_
    refine RH.take 1 (by kernel_rfl) rfl rfl rfl rfl (fun w' hDr => V.ldBA [_, _, _, _, _, _, _, _, _, _, _, _, _, _, _, _, _] Tryz.isAgg30 Tryz.sizeOf30 rfl ((hm58.ext hDr).get 7 rfl) rfl rfl) ?_
    refine RH.take 3 (by kernel_rfl) rfl rfl rfl rfl (fun w' hDr => V.ldBA [_, _, _, _, _, _, _, _, _, _, _, _, _, _, _, _, _] Tryz.isAgg30 Tryz.sizeOf30 rfl ((hm58.ext hDr).get 6 rfl) rfl rfl) ?_
    refine RH.take 4 (by kernel_rfl) rfl rfl rfl rfl (fun w' hDr => V.ldBA [_, _, _, _, _, _, _, _, _, _, _, _, _, _, _, _, _] Tryz.isAgg30 Tryz.sizeOf30 rfl ((hm58.ext hDr).get 7 rfl) rfl rfl) ?_
    obtain ⟨p59, e59, hM⟩ := bindE hM
    refine RH.cl ck12 2 (by kernel_rfl) rfl rfl rfl rfl (m_point_Same_sim (Z0 := All) e59 (show T_api_Point.rep.rel All _ _ _ from ⟨_, _, rfl, ⟨rfl, trivial⟩, ⟨_, _, rfl, ⟨_, _, rfl, (slR_all (hm58.get 0 rfl)).1, (slR_all (hm58.get 0 rfl)).2.1, (slR_all (hm58.get 0 rfl)).2.2⟩, ⟨_, _, rfl, ⟨rfl, trivial⟩, ⟨_, _, rfl, ⟨rfl, trivial⟩, ⟨_, _, rfl, ⟨rfl, trivial⟩, ⟨_, _, rfl, ⟨rfl, trivial⟩, ⟨_, _, rfl, ⟨rfl, trivial⟩, ⟨_, _, rfl, ⟨rfl, trivial⟩, ⟨_, _, rfl, ⟨rfl, trivial⟩, ⟨_, _, rfl, ⟨rfl, trivial⟩, ⟨_, _, rfl, ⟨_, _, rfl, ⟨rfl, trivial⟩, ⟨_, _, rfl, ⟨rfl, trivial⟩, ⟨_, _, rfl, ⟨_, _, rfl, ⟨rfl, trivial⟩, ⟨_, _, rfl, (slR_all (hm58.get 1 rfl)).1, (slR_all (hm58.get 1 rfl)).2.1, (slR_all (hm58.get 1 rfl)).2.2⟩⟩, ⟨_, _, rfl, ⟨rfl, trivial⟩, ⟨_, _, rfl, (slR_all (hm58.get 2 rfl)).1, (slR_all (hm58.get 2 rfl)).2.1, (slR_all (hm58.get 2 rfl)).2.2⟩⟩⟩⟩⟩, ⟨rfl, trivial⟩⟩⟩⟩⟩⟩⟩⟩⟩⟩⟩⟩) (show T_api_Point.rep.rel All _ _ _ from ⟨_, _, rfl, ⟨rfl, trivial⟩, ⟨_, _, rfl, ⟨_, _, rfl, (slR_all (hm58.get 3 rfl)).1, (slR_all (hm58.get 3 rfl)).2.1, (slR_all (hm58.get 3 rfl)).2.2⟩, ⟨_, _, rfl, ⟨rfl, trivial⟩, ⟨_, _, rfl, ⟨rfl, trivial⟩, ⟨_, _, rfl, ⟨rfl, trivial⟩, ⟨_, _, rfl, ⟨rfl, trivial⟩, ⟨_, _, rfl, ⟨rfl, trivial⟩, ⟨_, _, rfl, ⟨rfl, trivial⟩, ⟨_, _, rfl, ⟨rfl, trivial⟩, ⟨_, _, rfl, ⟨rfl, trivial⟩, ⟨_, _, rfl, ⟨_, _, rfl, ⟨rfl, trivial⟩, ⟨_, _, rfl, ⟨rfl, trivial⟩, ⟨_, _, rfl, ⟨_, _, rfl, ⟨rfl, trivial⟩, ⟨_, _, rfl, (slR_all (hm58.get 4 rfl)).1, (slR_all (hm58.get 4 rfl)).2.1, (slR_all (hm58.get 4 rfl)).2.2⟩⟩, ⟨_, _, rfl, ⟨rfl, trivial⟩, ⟨_, _, rfl, (slR_all (hm58.get 5 rfl)).1, (slR_all (hm58.get 5 rfl)).2.1, (slR_all (hm58.get 5 rfl)).2.2⟩⟩⟩⟩⟩, ⟨rfl, trivial⟩⟩⟩⟩⟩⟩⟩⟩⟩⟩⟩⟩) :) ?_
    rintro _ w59 ⟨rfl, hq59⟩
    refine ⟨_, rfl, ((Ext.refl _).trans hq59.fr), ?_⟩
    have hm60 := hm58.call0 hq59
    obtain ⟨p61, e61, hM⟩ := bindE hM
    refine RH.cl ck11 5 (by kernel_rfl) rfl rfl rfl rfl (m_limnographref12_Same_sim (Z0 := All) e61 (show T_api_Point.rep.rel All _ _ _ from ⟨_, _, rfl, ⟨rfl, trivial⟩, ⟨_, _, rfl, ⟨_, _, rfl, (slR_all (hm60.get 0 rfl)).1, (slR_all (hm60.get 0 rfl)).2.1, (slR_all (hm60.get 0 rfl)).2.2⟩, ⟨_, _, rfl, ⟨rfl, trivial⟩, ⟨_, _, rfl, ⟨rfl, trivial⟩, ⟨_, _, rfl, ⟨rfl, trivial⟩, ⟨_, _, rfl, ⟨rfl, trivial⟩, ⟨_, _, rfl, ⟨rfl, trivial⟩, ⟨_, _, rfl, ⟨rfl, trivial⟩, ⟨_, _, rfl, ⟨rfl, trivial⟩, ⟨_, _, rfl, ⟨rfl, trivial⟩, ⟨_, _, rfl, ⟨_, _, rfl, ⟨rfl, trivial⟩, ⟨_, _, rfl, ⟨rfl, trivial⟩, ⟨_, _, rfl, ⟨_, _, rfl, ⟨rfl, trivial⟩, ⟨_, _, rfl, (slR_all (hm60.get 1 rfl)).1, (slR_all (hm60.get 1 rfl)).2.1, (slR_all (hm60.get 1 rfl)).2.2⟩⟩, ⟨_, _, rfl, ⟨rfl, trivial⟩, ⟨_, _, rfl, (slR_all (hm60.get 2 rfl)).1, (slR_all (hm60.get 2 rfl)).2.1, (slR_all (hm60.get 2 rfl)).2.2⟩⟩⟩⟩⟩, ⟨rfl, trivial⟩⟩⟩⟩⟩⟩⟩⟩⟩⟩⟩⟩) (show T_api_Point.rep.rel All _ _ _ from ⟨_, _, rfl, ⟨rfl, trivial⟩, ⟨_, _, rfl, ⟨_, _, rfl, (slR_all (hm60.get 3 rfl)).1, (slR_all (hm60.get 3 rfl)).2.1, (slR_all (hm60.get 3 rfl)).2.2⟩, ⟨_, _, rfl, ⟨rfl, trivial⟩, ⟨_, _, rfl, ⟨rfl, trivial⟩, ⟨_, _, rfl, ⟨rfl, trivial⟩, ⟨_, _, rfl, ⟨rfl, trivial⟩, ⟨_, _, rfl, ⟨rfl, trivial⟩, ⟨_, _, rfl, ⟨rfl, trivial⟩, ⟨_, _, rfl, ⟨rfl, trivial⟩, ⟨_, _, rfl, ⟨rfl, trivial⟩, ⟨_, _, rfl, ⟨_, _, rfl, ⟨rfl, trivial⟩, ⟨_, _, rfl, ⟨rfl, trivial⟩, ⟨_, _, rfl, ⟨_, _, rfl, ⟨rfl, trivial⟩, ⟨_, _, rfl, (slR_all (hm60.get 4 rfl)).1, (slR_all (hm60.get 4 rfl)).2.1, (slR_all (hm60.get 4 rfl)).2.2⟩⟩, ⟨_, _, rfl, ⟨rfl, trivial⟩, ⟨_, _, rfl, (slR_all (hm60.get 5 rfl)).1, (slR_all (hm60.get 5 rfl)).2.1, (slR_all (hm60.get 5 rfl)).2.2⟩⟩⟩⟩⟩, ⟨rfl, trivial⟩⟩⟩⟩⟩⟩⟩⟩⟩⟩⟩⟩) :) ?_
    rintro _ w61 ⟨rfl, hq61⟩
    refine ⟨_, rfl, (((Ext.refl _).trans hq59.fr).trans hq61.fr), ?_⟩
    have hm62 := hm60.call0 hq61
    refine RH.here fun hS6 => RH.one 6 (by kernel_rfl) rfl rfl rfl rfl (V.neqB Tryz.underlying4 rfl rfl) hS6 ?_
    refine dd [7] (by kernel_rfl) rfl rfl ?_
    refine RH.partD (t := 27) rfl (fun h63 => ?_) (fun h63 => ?_)
    ·replace hM := iteT h63 hM
     refine dd [8, 9, 10, 11, 12, 13] (by kernel_rfl) rfl rfl ?_
     refine RH.doneP (by kernel_rfl) ?_
     exact hk2 true _ _ (Sub.cons rfl (Sub.cons rfl (Sub.cons rfl (Sub.nil _)))) (hm62.pick [0, 1, 2, 3, 4, 5, 6, 7] rfl (by decide)) hM
    ·replace hM := iteF h63 hM
     refine RH.take 8 (by kernel_rfl) rfl rfl rfl rfl (fun w' hDr => V.ldBA [_, _, _, _, _, _, _, _, _, _, _, _, _, _, _, _, _] Tryz.isAgg30 Tryz.sizeOf30 rfl ((hm58.ext hDr).get 6 rfl) rfl rfl) ?_
     refine RH.here fun hS9 => RH.one 9 (by kernel_rfl) rfl rfl rfl rfl (V.ldBA [_, _, _, _, _, _, _, _, _, _, _, _, _, _, _, _, _] Tryz.isAgg30 Tryz.sizeOf30 rfl (hm62.get 6 rfl) rfl rfl) hS9 ?_
     obtain ⟨p64, e64, hM⟩ := bindE hM
     refine RH.cl ck10 10 (by kernel_rfl) rfl rfl rfl rfl (m_point_Clone_sim (Z0 := All) e64 (show T_api_Point.rep.rel All _ _ _ from ⟨_, _, rfl, ⟨rfl, trivial⟩, ⟨_, _, rfl, ⟨_, _, rfl, (slR_all (hm62.get 0 rfl)).1, (slR_all (hm62.get 0 rfl)).2.1, (slR_all (hm62.get 0 rfl)).2.2⟩, ⟨_, _, rfl, ⟨rfl, trivial⟩, ⟨_, _, rfl, ⟨rfl, trivial⟩, ⟨_, _, rfl, ⟨rfl, trivial⟩, ⟨_, _, rfl, ⟨rfl, trivial⟩, ⟨_, _, rfl, ⟨rfl, trivial⟩, ⟨_, _, rfl, ⟨rfl, trivial⟩, ⟨_, _, rfl, ⟨rfl, trivial⟩, ⟨_, _, rfl, ⟨rfl, trivial⟩, ⟨_, _, rfl, ⟨_, _, rfl, ⟨rfl, trivial⟩, ⟨_, _, rfl, ⟨rfl, trivial⟩, ⟨_, _, rfl, ⟨_, _, rfl, ⟨rfl, trivial⟩, ⟨_, _, rfl, (slR_all (hm62.get 1 rfl)).1, (slR_all (hm62.get 1 rfl)).2.1, (slR_all (hm62.get 1 rfl)).2.2⟩⟩, ⟨_, _, rfl, ⟨rfl, trivial⟩, ⟨_, _, rfl, (slR_all (hm62.get 2 rfl)).1, (slR_all (hm62.get 2 rfl)).2.1, (slR_all (hm62.get 2 rfl)).2.2⟩⟩⟩⟩⟩, ⟨rfl, trivial⟩⟩⟩⟩⟩⟩⟩⟩⟩⟩⟩⟩) :) ?_
     rintro _ w64 ⟨A64_0_0, c64_0_0, A64_0_1, c64_0_1, A64_0_2, c64_0_2, rfl, hq64⟩
     refine ⟨_, rfl, ((((Ext.refl _).trans hq59.fr).trans hq61.fr).trans hq64.fr), ?_⟩
     have hm68 := hm62.callF (flC (ownR_flat T_api_Pair.flat _ _ _ _) (flC (ownR_flat w64_flat _ _ _ _) (flC (ownR_flat w64_flat _ _ _ _) fl0))) hq64
     obtain ⟨p69, e69, hM⟩ := bindE hM
     refine RH.cl ck12 11 (by kernel_rfl) rfl rfl rfl rfl (m_point_Same_sim (Z0 := All) e69 (show T_api_Point.rep.rel All _ _ _ from ⟨_, _, rfl, ⟨rfl, trivial⟩, ⟨_, _, rfl, ⟨_, _, rfl, (slR_all (hm68.get 0 rfl)).1, (slR_all (hm68.get 0 rfl)).2.1, (slR_all (hm68.get 0 rfl)).2.2⟩, ⟨_, _, rfl, ⟨rfl, trivial⟩, ⟨_, _, rfl, ⟨rfl, trivial⟩, ⟨_, _, rfl, ⟨rfl, trivial⟩, ⟨_, _, rfl, ⟨rfl, trivial⟩, ⟨_, _, rfl, ⟨rfl, trivial⟩, ⟨_, _, rfl, ⟨rfl, trivial⟩, ⟨_, _, rfl, ⟨rfl, trivial⟩, ⟨_, _, rfl, ⟨rfl, trivial⟩, ⟨_, _, rfl, ⟨_, _, rfl, ⟨rfl, trivial⟩, ⟨_, _, rfl, ⟨rfl, trivial⟩, ⟨_, _, rfl, ⟨_, _, rfl, ⟨rfl, trivial⟩, ⟨_, _, rfl, (slR_all (hm68.get 1 rfl)).1, (slR_all (hm68.get 1 rfl)).2.1, (slR_all (hm68.get 1 rfl)).2.2⟩⟩, ⟨_, _, rfl, ⟨rfl, trivial⟩, ⟨_, _, rfl, (slR_all (hm68.get 2 rfl)).1, (slR_all (hm68.get 2 rfl)).2.1, (slR_all (hm68.get 2 rfl)).2.2⟩⟩⟩⟩⟩, ⟨rfl, trivial⟩⟩⟩⟩⟩⟩⟩⟩⟩⟩⟩⟩) (show T_api_Point.rep.rel All _ _ _ from ⟨_, _, rfl, ⟨rfl, trivial⟩, ⟨_, _, rfl, ⟨_, _, rfl, (own_slR (hm68.get 8 rfl)).1, (own_slR (hm68.get 8 rfl)).2.1, (own_slR (hm68.get 8 rfl)).2.2⟩, ⟨_, _, rfl, ⟨rfl, trivial⟩, ⟨_, _, rfl, ⟨rfl, trivial⟩, ⟨_, _, rfl, ⟨rfl, trivial⟩, ⟨_, _, rfl, ⟨rfl, trivial⟩, ⟨_, _, rfl, ⟨rfl, trivial⟩, ⟨_, _, rfl, ⟨rfl, trivial⟩, ⟨_, _, rfl, ⟨rfl, trivial⟩, ⟨_, _, rfl, ⟨rfl, trivial⟩, ⟨_, _, rfl, ⟨_, _, rfl, ⟨rfl, trivial⟩, ⟨_, _, rfl, ⟨rfl, trivial⟩, ⟨_, _, rfl, ⟨_, _, rfl, ⟨rfl, trivial⟩, ⟨_, _, rfl, (own_slR (hm68.get 9 rfl)).1, (own_slR (hm68.get 9 rfl)).2.1, (own_slR (hm68.get 9 rfl)).2.2⟩⟩, ⟨_, _, rfl, ⟨rfl, trivial⟩, ⟨_, _, rfl, (own_slR (hm68.get 10 rfl)).1, (own_slR (hm68.get 10 rfl)).2.1, (own_slR (hm68.get 10 rfl)).2.2⟩⟩⟩⟩⟩, ⟨rfl, trivial⟩⟩⟩⟩⟩⟩⟩⟩⟩⟩⟩⟩) :) ?_
     rintro _ w69 ⟨rfl, hq69⟩
     refine ⟨_, rfl, (((((Ext.refl _).trans hq59.fr).trans hq61.fr).trans hq64.fr).trans hq69.fr), ?_⟩
     have hm70 := hm68.call0 hq69
     refine RH.here fun hS12 => RH.one 12 (by kernel_rfl) rfl rfl rfl rfl (V.notB rfl) hS12 ?_
     refine dd [13] (by kernel_rfl) rfl rfl ?_
     refine RH.doneP (by kernel_rfl) ?_
     exact hk2 (!p69) _ _ (Sub.cons rfl (Sub.cons rfl (Sub.cons rfl (Sub.nil _)))) (hm70.pick [0, 1, 2, 3, 4, 5, 6, 7] rfl (by decide)) hM
  intro hk1
  clear hj1
  refine Rn.part (t := 15) rfl (fun h71 => ?_) (fun h71 => ?_)
  ·replace hM := iteT h71 hM
   refine gg 4 rfl ?_
   exact hk1 true _ _ (Sub.cons rfl (Sub.cons rfl (Sub.cons rfl (Sub.nil _)))) (hm29.pick [0, 1, 2, 3, 4, 5, 6, 7] rfl (by decide)) hM
  ·replace hM := iteFB hM h71
   refine Rn.q rfl (V.ldBA [_, _, _, _, _, _, _, _, _, _, _, _, _, _, _, _, _] Tryz.isAgg30 Tryz.sizeOf30 rfl (hm29.get 7 rfl) rfl rfl) ?_
   obtain ⟨p72, e72, hM⟩ := bindE hM
   refine Rn.cl ck6 rfl rfl rfl rfl (m_limnographref12_Light_sim (Z0 := All) e72 (show T_api_Point.rep.rel All _ _ _ from ⟨_, _, rfl, ⟨rfl, trivial⟩, ⟨_, _, rfl, ⟨_, _, rfl, (slR_all (hm29.get 3 rfl)).1, (slR_all (hm29.get 3 rfl)).2.1, (slR_all (hm29.get 3 rfl)).2.2⟩, ⟨_, _, rfl, ⟨rfl, trivial⟩, ⟨_, _, rfl, ⟨rfl, trivial⟩, ⟨_, _, rfl, ⟨rfl, trivial⟩, ⟨_, _, rfl, ⟨rfl, trivial⟩, ⟨_, _, rfl, ⟨rfl, trivial⟩, ⟨_, _, rfl, ⟨rfl, trivial⟩, ⟨_, _, rfl, ⟨rfl, trivial⟩, ⟨_, _, rfl, ⟨rfl, trivial⟩, ⟨_, _, rfl, ⟨_, _, rfl, ⟨rfl, trivial⟩, ⟨_, _, rfl, ⟨rfl, trivial⟩, ⟨_, _, rfl, ⟨_, _, rfl, ⟨rfl, trivial⟩, ⟨_, _, rfl, (slR_all (hm29.get 4 rfl)).1, (slR_all (hm29.get 4 rfl)).2.1, (slR_all (hm29.get 4 rfl)).2.2⟩⟩, ⟨_, _, rfl, ⟨rfl, trivial⟩, ⟨_, _, rfl, (slR_all (hm29.get 5 rfl)).1, (slR_all (hm29.get 5 rfl)).2.1, (slR_all (hm29.get 5 rfl)).2.2⟩⟩⟩⟩⟩, ⟨rfl, trivial⟩⟩⟩⟩⟩⟩⟩⟩⟩⟩⟩⟩) :) ?_
   rintro _ w72 ⟨rfl, hq72⟩
   refine ⟨_, rfl, ?_⟩
   have hm73 := hm29.call0 hq72
   refine Rn.q rfl (V.notB rfl) (gg 1 rfl ?_)
   exact hk1 (!p72) _ _ (Sub.cons rfl (Sub.cons rfl (Sub.cons rfl (Sub.nil _)))) (hm73.pick [0, 1, 2, 3, 4, 5, 6, 7] rfl (by decide)) hM

end Go.Proofs.YtfcpdojcfogkbaaGreat
