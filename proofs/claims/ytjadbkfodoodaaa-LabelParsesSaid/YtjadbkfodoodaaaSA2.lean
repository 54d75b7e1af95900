/-
  The calls of functions of the program answer as their plain forms say, part 2. Printed by a program.
-/
import Derived.Test.YtjadbkfodoodaaaRows
import Derived.Test.YtjadbkfodoodaaaSA1
namespace Go.Proofs.Ytjadbkfodoodaaa
open Go Go.RowKit Go.Wk
set_option maxRecDepth 20000 in
theorem m_limnographref11_Value_sim {Z0 : Nat → Prop} (w : World) (x0 : (List UInt8)) {r : Bool}  (hM : m_limnographref11_Value x0 = some r) :
    Calls Try.prog 34 #[Str (x0)] w fun x w' => x = .returned (.bool (r)) ∧ Hp Z0 No w w' [] := by
  have hm0 := Hp.nil Z0 No w
  have hc0 := Calm.nil
  refine Rn.enter Try.func34 rfl rfl (Nat.le_of_ble_eq_true rfl) ?_
  refine Rn.seq (Rn.reg (Rn.v rfl rfl rfl rfl (V.as rfl) (Rn.regEnd (Rn.seq (Rn.seq (Rn.reg (Rn.v rfl rfl rfl rfl (V.mv rfl) (Rn.v rfl rfl rfl rfl (V.lenS Try.underlying9 rfl) (Rn.v rfl rfl rfl rfl (V.lss rfl rfl) (Rn.v rfl rfl rfl rfl (V.mv rfl) ?_))))))))))
  refine Rn.cutR [] [(0, Str (x0)), (12, .bool (decide (((x0.length : Int) < 1) ∨ ((x0.length : Int) > 32))))] (fun hk1 => ?_) ?_
  · refine Rn.partD (t := 8) rfl (fun h2 => ?_) (fun h2 => ?_)
    · refine Rn.no rfl rfl rfl rfl (Rn.no rfl rfl rfl rfl (Rn.no rfl rfl rfl rfl (Rn.v rfl rfl rfl rfl (V.pkT rfl rfl) ?_)))
      refine hk1 _ ?_
      exact Sub.cons rfl (Sub.cons (lkv _ rfl (by first | exact andT h2 | exact andF h2 | exact orT h2 | exact orF h2 | exact nandF h2 | exact nandT h2 | exact norT h2 | exact norF h2 | (simp [h2]; done) | grind)) (Sub.nil _))
    · refine Rn.v rfl rfl rfl rfl (V.mv rfl) (Rn.v rfl rfl rfl rfl (V.lenS Try.underlying9 rfl) (Rn.v rfl rfl rfl rfl (V.gtr rfl rfl) (Rn.v rfl rfl rfl rfl (V.pkF rfl rfl) ?_)))
      refine hk1 _ ?_
      exact Sub.cons rfl (Sub.cons (lkv _ rfl (by first | exact andT h2 | exact andF h2 | exact orT h2 | exact orF h2 | exact nandF h2 | exact nandT h2 | exact norT h2 | exact norF h2 | (simp [h2]; done) | grind)) (Sub.nil _))
  refine Rn.regEnd ?_
  refine Rn.condD rfl (fun h3 => ?_) (fun h3 => ?_)
  · replace hM := iteT h3 hM
    refine Rn.seq (Rn.reg (Rn.v rfl rfl rfl rfl (V.as rfl) (Rn.regEnd ?_)))
    refine Rn.retG1 Try.func34 rfl (rvT rfl) ?_
    obtain rfl := someE hM
    exact ⟨rfl, hm0.pick [] rfl (by decide)⟩
  · replace hM := iteF h3 hM
    refine Rn.skip (Rn.seq (Rn.seq (Rn.reg (Rn.v rfl rfl rfl rfl (V.as rfl) (Rn.regEnd ?_)))))
    obtain ⟨j1, hj1, hM⟩ := jnE hM
    refine Rn.joinG (r := r) (G := Unit) (fun g => []) (fun g w' => Hp Z0 No w w' []) (fun g => j1 ()) ?_ ?_
    · subst hj1
      clear hM
      rintro _ w4 hm4 hM
      replace hm4 : Hp Z0 No w w4 [] := hm4
      show Rn _ _ _ _ _ [] _
      try dsimp only at hM
      refine Rn.seq (Rn.reg (Rn.v rfl rfl rfl rfl (V.as rfl) (Rn.regEnd ?_)))
      refine Rn.retG1 Try.func34 rfl (rvT rfl) ?_
      obtain rfl := someE hM
      exact ⟨rfl, hm4.pick [] rfl (by decide)⟩
    intro hk1
    clear hj1
    refine Rn.block ?_
    refine Rn.loopF (G := Int) (fun g => [(0, Str (x0)), (3, .int .i64 (g))]) (fun g w' => Hp Z0 No w w' []) (fun n g => m_limnographref11_Value_L1 x0 j1 n g) fuel 0 (Sub.cons rfl (Sub.cons rfl (Sub.nil _))) (hm0.pick [] rfl (by decide)) hM (fun _ => rfl) ?_
    clear hM
    rintro m6 y5 w6 hm6 hM hn6
    replace hm6 : Hp Z0 No w w6 [] := hm6
    show Rn _ _ _ _ _ [(0, Str (x0)), (3, .int .i64 (y5))] _
    replace hM : m_limnographref11_Value_L1 x0 j1 (m6 + 1) y5 = some r := hM
    rw [m_limnographref11_Value_L1] at hM
    refine Rn.seq (Rn.seq (Rn.reg (Rn.v rfl rfl rfl rfl (V.mv rfl) (Rn.v rfl rfl rfl rfl (V.mv rfl) (Rn.v rfl rfl rfl rfl (V.lenS Try.underlying9 rfl) (Rn.v rfl rfl rfl rfl (V.lss rfl rfl) (Rn.regEnd ?_)))))))
    refine Rn.condD rfl (fun h7 => ?_) (fun h7 => ?_)
    · replace hM := iteT h7 hM
      refine Rn.skip (Rn.seq (Rn.block (Rn.seq (Rn.reg (Rn.v rfl rfl rfl rfl (V.mv rfl) (Rn.v rfl rfl rfl rfl (V.mv rfl) ?_))))))
      obtain ⟨z8, e8, hM⟩ := bindE hM
      refine Rn.v rfl rfl rfl rfl (V.idxSZ Try.underlying9 rfl rfl e8) (Rn.v rfl rfl rfl rfl (V.as rfl) (Rn.regEnd (Rn.seq (Rn.reg (Rn.v rfl rfl rfl rfl (V.mv rfl) (Rn.v rfl rfl rfl rfl (V.leq rfl rfl) (Rn.v rfl rfl rfl rfl (V.mv rfl) ?_)))))))
      refine Rn.cutR [6, 7, 8, 9, 10, 11, 12, 13, 14, 15, 16, 17] [(0, Str (x0)), (3, .int .i64 (y5)), (4, .int .u8 (((z8).toNat : Nat) : Int)), (27, .bool (decide ((((z8).toNat : Int) ≤ 32) ∨ (((z8).toNat : Int) ≥ 127))))] (fun hk9 => ?_) ?_
      · refine Rn.partD (t := 24) rfl (fun h10 => ?_) (fun h10 => ?_)
        · refine Rn.no rfl rfl rfl rfl (Rn.no rfl rfl rfl rfl (Rn.v rfl rfl rfl rfl (V.pkT rfl rfl) ?_))
          refine hk9 _ ?_
          exact Sub.cons rfl (Sub.cons rfl (Sub.cons rfl (Sub.cons (lkv _ rfl (by first | exact andT h10 | exact andF h10 | exact orT h10 | exact orF h10 | exact nandF h10 | exact nandT h10 | exact norT h10 | exact norF h10 | (simp [h10]; done) | grind)) (Sub.nil _))))
        · refine Rn.v rfl rfl rfl rfl (V.mv rfl) (Rn.v rfl rfl rfl rfl (V.geq rfl rfl) (Rn.v rfl rfl rfl rfl (V.pkF rfl rfl) ?_))
          refine hk9 _ ?_
          exact Sub.cons rfl (Sub.cons rfl (Sub.cons rfl (Sub.cons (lkv _ rfl (by first | exact andT h10 | exact andF h10 | exact orT h10 | exact orF h10 | exact nandF h10 | exact nandT h10 | exact norT h10 | exact norF h10 | (simp [h10]; done) | grind)) (Sub.nil _))))
      refine Rn.v rfl rfl rfl rfl (V.mv rfl) ?_
      refine Rn.cutR [10, 11, 12, 13, 14, 15, 16, 17] [(0, Str (x0)), (3, .int .i64 (y5)), (4, .int .u8 (((z8).toNat : Nat) : Int)), (31, .bool (decide (((((z8).toNat : Int) ≤ 32) ∨ (((z8).toNat : Int) ≥ 127)) ∨ (((z8).toNat : Int) = 61))))] (fun hk11 => ?_) ?_
      · refine Rn.partD (t := 28) rfl (fun h12 => ?_) (fun h12 => ?_)
        · refine Rn.no rfl rfl rfl rfl (Rn.no rfl rfl rfl rfl (Rn.v rfl rfl rfl rfl (V.pkT rfl rfl) ?_))
          refine hk11 _ ?_
          exact Sub.cons rfl (Sub.cons rfl (Sub.cons rfl (Sub.cons (lkv _ rfl (by first | exact andT h12 | exact andF h12 | exact orT h12 | exact orF h12 | exact nandF h12 | exact nandT h12 | exact norT h12 | exact norF h12 | (simp [h12]; done) | grind)) (Sub.nil _))))
        · refine Rn.v rfl rfl rfl rfl (V.mv rfl) (Rn.v rfl rfl rfl rfl (V.eql rfl rfl) (Rn.v rfl rfl rfl rfl (V.pkF rfl rfl) ?_))
          refine hk11 _ ?_
          exact Sub.cons rfl (Sub.cons rfl (Sub.cons rfl (Sub.cons (lkv _ rfl (by first | exact andT h12 | exact andF h12 | exact orT h12 | exact orF h12 | exact nandF h12 | exact nandT h12 | exact norT h12 | exact norF h12 | (simp [h12]; done) | grind)) (Sub.nil _))))
      refine Rn.v rfl rfl rfl rfl (V.mv rfl) ?_
      refine Rn.cutR [14, 15, 16, 17] [(0, Str (x0)), (3, .int .i64 (y5)), (4, .int .u8 (((z8).toNat : Nat) : Int)), (35, .bool (decide ((((((z8).toNat : Int) ≤ 32) ∨ (((z8).toNat : Int) ≥ 127)) ∨ (((z8).toNat : Int) = 61)) ∨ (((z8).toNat : Int) = 59))))] (fun hk13 => ?_) ?_
      · refine Rn.partD (t := 32) rfl (fun h14 => ?_) (fun h14 => ?_)
        · refine Rn.no rfl rfl rfl rfl (Rn.no rfl rfl rfl rfl (Rn.v rfl rfl rfl rfl (V.pkT rfl rfl) ?_))
          refine hk13 _ ?_
          exact Sub.cons rfl (Sub.cons rfl (Sub.cons rfl (Sub.cons (lkv _ rfl (by first | exact andT h14 | exact andF h14 | exact orT h14 | exact orF h14 | exact nandF h14 | exact nandT h14 | exact norT h14 | exact norF h14 | (simp [h14]; done) | grind)) (Sub.nil _))))
        · refine Rn.v rfl rfl rfl rfl (V.mv rfl) (Rn.v rfl rfl rfl rfl (V.eql rfl rfl) (Rn.v rfl rfl rfl rfl (V.pkF rfl rfl) ?_))
          refine hk13 _ ?_
          exact Sub.cons rfl (Sub.cons rfl (Sub.cons rfl (Sub.cons (lkv _ rfl (by first | exact andT h14 | exact andF h14 | exact orT h14 | exact orF h14 | exact nandF h14 | exact nandT h14 | exact norT h14 | exact norF h14 | (simp [h14]; done) | grind)) (Sub.nil _))))
      refine Rn.v rfl rfl rfl rfl (V.mv rfl) ?_
      refine Rn.cutR [] [(0, Str (x0)), (3, .int .i64 (y5)), (39, .bool (decide (((((((z8).toNat : Int) ≤ 32) ∨ (((z8).toNat : Int) ≥ 127)) ∨ (((z8).toNat : Int) = 61)) ∨ (((z8).toNat : Int) = 59)) ∨ (((z8).toNat : Int) = 44))))] (fun hk15 => ?_) ?_
      · refine Rn.partD (t := 36) rfl (fun h16 => ?_) (fun h16 => ?_)
        · refine Rn.no rfl rfl rfl rfl (Rn.no rfl rfl rfl rfl (Rn.v rfl rfl rfl rfl (V.pkT rfl rfl) ?_))
          refine hk15 _ ?_
          exact Sub.cons rfl (Sub.cons rfl (Sub.cons (lkv _ rfl (by first | exact andT h16 | exact andF h16 | exact orT h16 | exact orF h16 | exact nandF h16 | exact nandT h16 | exact norT h16 | exact norF h16 | (simp [h16]; done) | grind)) (Sub.nil _)))
        · refine Rn.v rfl rfl rfl rfl (V.mv rfl) (Rn.v rfl rfl rfl rfl (V.eql rfl rfl) (Rn.v rfl rfl rfl rfl (V.pkF rfl rfl) ?_))
          refine hk15 _ ?_
          exact Sub.cons rfl (Sub.cons rfl (Sub.cons (lkv _ rfl (by first | exact andT h16 | exact andF h16 | exact orT h16 | exact orF h16 | exact nandF h16 | exact nandT h16 | exact norT h16 | exact norF h16 | (simp [h16]; done) | grind)) (Sub.nil _)))
      refine Rn.regEnd ?_
      refine Rn.condD rfl (fun h17 => ?_) (fun h17 => ?_)
      · replace hM := iteT h17 hM
        refine Rn.seq (Rn.reg (Rn.v rfl rfl rfl rfl (V.as rfl) (Rn.regEnd ?_)))
        refine Rn.retG1 Try.func34 rfl (rvT rfl) ?_
        obtain rfl := someE hM
        exact ⟨rfl, hm6.pick [] rfl (by decide)⟩
      · replace hM := iteF h17 hM
        refine Rn.skip (Rn.inBlock (Rn.reg (Rn.v rfl rfl rfl rfl (V.mv rfl) (Rn.v rfl rfl rfl rfl (V.addW rfl rfl) (Rn.v rfl rfl rfl rfl (V.as rfl) (Rn.regEnd ?_))))))
        exact hn6 (W64 (y5 + 1)) _ _ (Sub.cons rfl (Sub.cons rfl (Sub.nil _))) (hm6.pick [] rfl (by decide)) hM
    · replace hM := iteF h7 hM
      refine Rn.exit rfl ?_
      exact hk1 () _ _ (Sub.nil _) (hm6.pick [] rfl (by decide)) hM

set_option maxRecDepth 20000 in
theorem m_limnographref11_Check_sim {Z0 : Nat → Prop} (w : World) (x0 : (List UInt8)) (A1 : Option Addr) (c1 : Nat) (x1 : (List T_api_Pair)) {r : Int} (f0 : (slR A1 c1 T_api_Pair.rep x1).H Z0 w) (hM : m_limnographref11_Check x0 x1 = some r) :
    Calls Try.prog 17 #[Str (x0), .slice A1 (x1).length c1] w fun x w' => x = .returned (.int .i64 (r)) ∧ Hp Z0 No w w' [] := by
  have hm0 := Hp.nil Z0 No w
  have hc0 := Calm.nil
  have hm2 := hm0.know (slR A1 c1 T_api_Pair.rep x1) (fun _ h => h) (hm0.in0 hc0 f0)
  replace hc0 := hc0.snoc (r := slR A1 c1 T_api_Pair.rep x1) (fun _ h => h)
  refine Rn.enter Try.func17 rfl rfl (Nat.le_of_ble_eq_true rfl) ?_
  refine Rn.seq (Rn.reg (Rn.v rfl rfl rfl rfl (V.as rfl) (Rn.regEnd (Rn.seq (Rn.seq (Rn.reg (Rn.v rfl rfl rfl rfl (V.mv rfl) ?_)))))))
  obtain ⟨p3, e3, hM⟩ := bindE hM
  refine Rn.cl ck33 rfl rfl rfl rfl (m_limnographref11_Name_sim (Z0 := All) _ x0  e3) ?_
  rintro _ w3 ⟨rfl, hq3⟩
  refine ⟨_, rfl, ?_⟩
  have hm4 := hm2.call0 hq3
  refine Rn.v rfl rfl rfl rfl (V.notB rfl) (Rn.regEnd ?_)
  refine Rn.condS rfl (fun h5 => ?_) (fun h5 => ?_)
  · replace hM := iteT h5 hM
    refine Rn.seq (Rn.reg (Rn.v rfl rfl rfl rfl (V.as rfl) (Rn.regEnd ?_)))
    refine Rn.retG1 Try.func17 rfl (rvT rfl) ?_
    obtain rfl := someE hM
    exact ⟨rfl, hm4.pick [] rfl (by decide)⟩
  · replace hM := iteF (by rw [h5]; exact Bool.false_ne_true) hM
    refine Rn.skip (Rn.seq (Rn.seq (Rn.reg (Rn.v rfl rfl rfl rfl (V.mv rfl) (Rn.v rfl rfl rfl rfl (V.lenV Try.underlying22 rfl) (Rn.v rfl rfl rfl rfl (V.gtr rfl rfl) (Rn.regEnd ?_)))))))
    refine Rn.condD rfl (fun h6 => ?_) (fun h6 => ?_)
    · replace hM := iteT h6 hM
      refine Rn.seq (Rn.reg (Rn.v rfl rfl rfl rfl (V.as rfl) (Rn.regEnd ?_)))
      refine Rn.retG1 Try.func17 rfl (rvT rfl) ?_
      obtain rfl := someE hM
      exact ⟨rfl, hm4.pick [] rfl (by decide)⟩
    · replace hM := iteF h6 hM
      refine Rn.skip (Rn.seq (Rn.seq (Rn.reg (Rn.v rfl rfl rfl rfl (V.as rfl) (Rn.regEnd ?_)))))
      obtain ⟨j1, hj1, hM⟩ := jnE hM
      refine Rn.joinG (r := r) (G := Unit) (fun g => []) (fun g w' => Hp Z0 No w w' [slR A1 c1 T_api_Pair.rep x1]) (fun g => j1 ()) ?_ ?_
      · subst hj1
        clear hM
        rintro _ w7 hm7 hM
        replace hm7 : Hp Z0 No w w7 [slR A1 c1 T_api_Pair.rep x1] := hm7
        show Rn _ _ _ _ _ [] _
        try dsimp only at hM
        refine Rn.seq (Rn.reg (Rn.v rfl rfl rfl rfl (V.as rfl) (Rn.regEnd ?_)))
        refine Rn.retG1 Try.func17 rfl (rvT rfl) ?_
        obtain rfl := someE hM
        exact ⟨rfl, hm7.pick [] rfl (by decide)⟩
      intro hk1
      clear hj1
      refine Rn.block ?_
      refine Rn.loopF (G := Int) (fun g => [(1, .slice A1 (x1).length c1), (5, .int .i64 (g))]) (fun g w' => Hp Z0 No w w' [slR A1 c1 T_api_Pair.rep x1]) (fun n g => m_limnographref11_Check_L1 x1 j1 n g) fuel 0 (Sub.cons rfl (Sub.cons rfl (Sub.nil _))) (hm4.pick [0] rfl (by decide)) hM (fun _ => rfl) ?_
      clear hM
      rintro m9 y8 w9 hm9 hM hn9
      replace hm9 : Hp Z0 No w w9 [slR A1 c1 T_api_Pair.rep x1] := hm9
      show Rn _ _ _ _ _ [(1, .slice A1 (x1).length c1), (5, .int .i64 (y8))] _
      replace hM : m_limnographref11_Check_L1 x1 j1 (m9 + 1) y8 = some r := hM
      rw [m_limnographref11_Check_L1] at hM
      refine Rn.seq (Rn.seq (Rn.reg (Rn.v rfl rfl rfl rfl (V.mv rfl) (Rn.v rfl rfl rfl rfl (V.mv rfl) (Rn.v rfl rfl rfl rfl (V.lenV Try.underlying22 rfl) (Rn.v rfl rfl rfl rfl (V.lss rfl rfl) (Rn.regEnd ?_)))))))
      refine Rn.condD rfl (fun h10 => ?_) (fun h10 => ?_)
      · replace hM := iteT h10 hM
        refine Rn.skip (Rn.seq (Rn.block (Rn.seq (Rn.seq (Rn.reg (Rn.v rfl rfl rfl rfl (V.mv rfl) (Rn.v rfl rfl rfl rfl (V.mv rfl) ?_)))))))
        obtain ⟨z11, e11, hM⟩ := bindE hM
        refine Rn.ixH hm9 0 rfl e11 rfl rfl rfl Try.underlying22 Try.sizeOf40 rfl rfl rfl rfl ?_
        rintro b11 o11 vs11 ⟨_, _, rfl, ⟨rfl, _⟩, ⟨rfl, _⟩⟩ hm11
        refine Rn.v rfl rfl rfl rfl (V.fa Try.underlying40 rfl Try.sizeOf9 rfl rfl) (Rn.v rfl rfl rfl rfl (V.ldR0 Try.isAgg9 rfl (hm11.get 1 rfl).2 rfl) ?_)
        obtain ⟨p13, e13, hM⟩ := bindE hM
        refine Rn.cl ck33 rfl rfl rfl rfl (m_limnographref11_Name_sim (Z0 := All) _ z11.Key  e13) ?_
        rintro _ w13 ⟨rfl, hq13⟩
        refine ⟨_, rfl, ?_⟩
        have hm14 := hm11.call0 hq13
        refine Rn.v rfl rfl rfl rfl (V.notB rfl) (Rn.v rfl rfl rfl rfl (V.mv rfl) ?_)
        obtain ⟨j2, hj2, hM⟩ := jnE hM
        refine Rn.joinR (r := r) (G := Bool) [] (fun g => [(1, .slice A1 (x1).length c1), (5, .int .i64 (y8)), (34, .bool (g))]) (fun g w' => Hp Z0 No w w' [slR A1 c1 T_api_Pair.rep x1, rdR b11 o11 [Str (z11.Key), Str (z11.Val)]]) (fun g => j2 g) ?_ ?_
        · subst hj2
          clear hM
          rintro y15 w16 hm16 hM
          replace hm16 : Hp Z0 No w w16 [slR A1 c1 T_api_Pair.rep x1, rdR b11 o11 [Str (z11.Key), Str (z11.Val)]] := hm16
          show Rn _ _ _ _ _ [(1, .slice A1 (x1).length c1), (5, .int .i64 (y8)), (34, .bool (y15))] _
          try dsimp only at hM
          refine Rn.regEnd ?_
          refine Rn.condS rfl (fun h17 => ?_) (fun h17 => ?_)
          · replace hM := iteT h17 hM
            refine Rn.seq (Rn.reg (Rn.v rfl rfl rfl rfl (V.as rfl) (Rn.regEnd ?_)))
            refine Rn.retG1 Try.func17 rfl (rvT rfl) ?_
            obtain rfl := someE hM
            exact ⟨rfl, hm16.pick [] rfl (by decide)⟩
          · replace hM := iteF (by rw [h17]; exact Bool.false_ne_true) hM
            refine Rn.skip (Rn.seq (Rn.reg (Rn.v rfl rfl rfl rfl (V.as rfl) (Rn.regEnd ?_))))
            obtain ⟨j3, hj3, hM⟩ := jnE hM
            refine Rn.joinG (r := r) (G := Unit) (fun g => [(1, .slice A1 (x1).length c1), (5, .int .i64 (y8))]) (fun g w' => Hp Z0 No w w' [slR A1 c1 T_api_Pair.rep x1, rdR b11 o11 [Str (z11.Key), Str (z11.Val)]]) (fun g => j3 ()) ?_ ?_
            · subst hj3
              clear hM
              rintro _ w18 hm18 hM
              replace hm18 : Hp Z0 No w w18 [slR A1 c1 T_api_Pair.rep x1, rdR b11 o11 [Str (z11.Key), Str (z11.Val)]] := hm18
              show Rn _ _ _ _ _ [(1, .slice A1 (x1).length c1), (5, .int .i64 (y8))] _
              try dsimp only at hM
              refine Rn.inBlock (Rn.reg (Rn.v rfl rfl rfl rfl (V.mv rfl) (Rn.v rfl rfl rfl rfl (V.addW rfl rfl) (Rn.v rfl rfl rfl rfl (V.as rfl) (Rn.regEnd ?_)))))
              exact hn9 (W64 (y8 + 1)) _ _ (Sub.cons rfl (Sub.cons rfl (Sub.nil _))) (hm18.pick [0] rfl (by decide)) hM
            intro hk3
            clear hj3
            refine Rn.block ?_
            refine Rn.loopF (G := Int) (fun g => [(1, .slice A1 (x1).length c1), (5, .int .i64 (y8)), (6, .int .i64 (g))]) (fun g w' => Hp Z0 No w w' [slR A1 c1 T_api_Pair.rep x1, rdR b11 o11 [Str (z11.Key), Str (z11.Val)]]) (fun n g => m_limnographref11_Check_L2 x1 y8 j3 n g) fuel 0 (Sub.cons rfl (Sub.cons rfl (Sub.cons rfl (Sub.nil _)))) (hm16.pick [0, 1] rfl (by decide)) hM (fun _ => rfl) ?_
            clear hM
            rintro m20 y19 w20 hm20 hM hn20
            replace hm20 : Hp Z0 No w w20 [slR A1 c1 T_api_Pair.rep x1, rdR b11 o11 [Str (z11.Key), Str (z11.Val)]] := hm20
            show Rn _ _ _ _ _ [(1, .slice A1 (x1).length c1), (5, .int .i64 (y8)), (6, .int .i64 (y19))] _
            replace hM : m_limnographref11_Check_L2 x1 y8 j3 (m20 + 1) y19 = some r := hM
            rw [m_limnographref11_Check_L2] at hM
            refine Rn.seq (Rn.seq (Rn.reg (Rn.v rfl rfl rfl rfl (V.mv rfl) (Rn.v rfl rfl rfl rfl (V.mv rfl) (Rn.v rfl rfl rfl rfl (V.lss rfl rfl) (Rn.regEnd ?_))))))
            refine Rn.condD rfl (fun h21 => ?_) (fun h21 => ?_)
            · replace hM := iteT h21 hM
              refine Rn.skip (Rn.seq (Rn.block (Rn.seq ?_)))
              refine Rn.drawP rfl hm20 ?_
              intro w22 hm22
              refine RH.takeP 0 (by kernel_rfl) rfl rfl rfl rfl (V.mv rfl) ?_
              refine RH.takeP 1 (by kernel_rfl) rfl rfl rfl rfl (V.mv rfl) ?_
              obtain ⟨z23, e23, hM⟩ := bindE hM
              obtain ⟨kk23, ke23, kz23, kl23⟩ := idxE e23
              obtain ⟨b23, o23, vs23, hA23, hD23, hR23, hrel23⟩ := Hp.at hm22 0 rfl kz23
              obtain ⟨_, _, rfl, ⟨rfl, _⟩, ⟨rfl, _⟩⟩ := hrel23
              have hm25 := hm22.knowRd hD23 hR23
              refine RH.takeP 2 (by kernel_rfl) rfl rfl rfl rfl (V.ixA' hA23 kk23 Try.underlying22 Try.sizeOf40 rfl rfl ke23 kl23) ?_
              refine RH.takeP 3 (by kernel_rfl) rfl rfl rfl rfl (V.fa Try.underlying40 rfl Try.sizeOf9 rfl rfl) ?_
              refine RH.takeP 4 (by kernel_rfl) rfl rfl rfl rfl (V.ldR0 Try.isAgg9 rfl (hm25.get 2 rfl).2 rfl) ?_
              refine RH.takeP 5 (by kernel_rfl) rfl rfl rfl rfl (V.mv rfl) ?_
              refine RH.takeP 6 (by kernel_rfl) rfl rfl rfl rfl (V.mv rfl) ?_
              obtain ⟨z26, e26, hM⟩ := bindE hM
              obtain ⟨kk26, ke26, kz26, kl26⟩ := idxE e26
              obtain ⟨b26, o26, vs26, hA26, hD26, hR26, hrel26⟩ := Hp.at hm25 0 rfl kz26
              obtain ⟨_, _, rfl, ⟨rfl, _⟩, ⟨rfl, _⟩⟩ := hrel26
              have hm28 := hm25.knowRd hD26 hR26
              refine RH.takeP 7 (by kernel_rfl) rfl rfl rfl rfl (V.ixA' hA26 kk26 Try.underlying22 Try.sizeOf40 rfl rfl ke26 kl26) ?_
              refine RH.takeP 8 (by kernel_rfl) rfl rfl rfl rfl (V.fa Try.underlying40 rfl Try.sizeOf9 rfl rfl) ?_
              refine RH.takeP 9 (by kernel_rfl) rfl rfl rfl rfl (V.ldR0 Try.isAgg9 rfl (hm28.get 3 rfl).2 rfl) ?_
              refine RH.takeP 10 (by kernel_rfl) rfl rfl rfl rfl (V.eqlS rfl rfl) ?_
              refine RH.doneP (by kernel_rfl) ?_
              refine Rn.condD rfl (fun h29 => ?_) (fun h29 => ?_)
              · replace hM := iteT h29 hM
                refine Rn.seq (Rn.reg (Rn.v rfl rfl rfl rfl (V.as rfl) (Rn.regEnd ?_)))
                refine Rn.retG1 Try.func17 rfl (rvT rfl) ?_
                obtain rfl := someE hM
                exact ⟨rfl, hm28.pick [] rfl (by decide)⟩
              · replace hM := iteF h29 hM
                refine Rn.skip (Rn.inBlock (Rn.reg (Rn.v rfl rfl rfl rfl (V.mv rfl) (Rn.v rfl rfl rfl rfl (V.addW rfl rfl) (Rn.v rfl rfl rfl rfl (V.as rfl) (Rn.regEnd ?_))))))
                exact hn20 (W64 (y19 + 1)) _ _ (Sub.cons rfl (Sub.cons rfl (Sub.cons rfl (Sub.nil _)))) (hm28.pick [0, 1] rfl (by decide)) hM
            · replace hM := iteF h21 hM
              refine Rn.exit rfl ?_
              exact hk3 () _ _ (Sub.cons rfl (Sub.cons rfl (Sub.nil _))) (hm20.pick [0, 1] rfl (by decide)) hM
        intro hk2
        clear hj2
        refine Rn.part (t := 26) rfl (fun h30 => ?_) (fun h30 => ?_)
        · replace hM := iteT h30 hM
          refine Rn.no rfl rfl rfl rfl (Rn.no rfl rfl rfl rfl (Rn.no rfl rfl rfl rfl (Rn.no rfl rfl rfl rfl (Rn.no rfl rfl rfl rfl (Rn.no rfl rfl rfl rfl (Rn.no rfl rfl rfl rfl (Rn.v rfl rfl rfl rfl (V.pkT rfl rfl) ?_)))))))
          exact hk2 true _ _ (Sub.cons rfl (Sub.cons rfl (Sub.cons rfl (Sub.nil _)))) (hm14.pick [0, 1] rfl (by decide)) hM
        · replace hM := iteF (by rw [h30]; exact Bool.false_ne_true) hM
          refine Rn.v rfl rfl rfl rfl (V.mv rfl) (Rn.v rfl rfl rfl rfl (V.mv rfl) ?_)
          obtain ⟨z31, e31, hM⟩ := bindE hM
          refine Rn.ixH hm14 0 rfl e31 rfl rfl rfl Try.underlying22 Try.sizeOf40 rfl rfl rfl rfl ?_
          rintro b31 o31 vs31 ⟨_, _, rfl, ⟨rfl, _⟩, ⟨rfl, _⟩⟩ hm31
          refine Rn.v rfl rfl rfl rfl (V.fa Try.underlying40 rfl Try.sizeOf9 rfl rfl) (Rn.v rfl rfl rfl rfl (V.ldR Try.isAgg9 rfl (hm31.get 2 rfl).2 rfl) ?_)
          obtain ⟨p33, e33, hM⟩ := bindE hM
          refine Rn.cl ck34 rfl rfl rfl rfl (m_limnographref11_Value_sim (Z0 := All) _ z31.Val  e33) ?_
          rintro _ w33 ⟨rfl, hq33⟩
          refine ⟨_, rfl, ?_⟩
          have hm34 := hm31.call0 hq33
          refine Rn.v rfl rfl rfl rfl (V.notB rfl) (Rn.v rfl rfl rfl rfl (V.pkF rfl rfl) ?_)
          exact hk2 (!p33) _ _ (Sub.cons rfl (Sub.cons rfl (Sub.cons rfl (Sub.nil _)))) (hm34.pick [0, 1] rfl (by decide)) hM
      · replace hM := iteF h10 hM
        refine Rn.exit rfl ?_
        exact hk1 () _ _ (Sub.nil _) (hm9.pick [0] rfl (by decide)) hM

set_option maxRecDepth 20000 in
theorem m_limnographref11_Sorted_sim {Z0 : Nat → Prop} (w : World) (A0 : Option Addr) (c0 : Nat) (x0 : (List T_api_Pair)) {r : (List T_api_Pair)} (f0 : (slR A0 c0 T_api_Pair.rep x0).H Z0 w) (hM : m_limnographref11_Sorted x0 = some r) :
    Calls Try.prog 14 #[.slice A0 (x0).length c0] w fun x w' => ∃ A_0_0 c_0_0, x = .returned (.slice A_0_0 (r).length c_0_0) ∧ Hp Z0 No w w' [ownR 40 A_0_0 c_0_0 T_api_Pair.rep r] := by
  have hm0 := Hp.nil Z0 No w
  have hc0 := Calm.nil
  have hm2 := hm0.know (slR A0 c0 T_api_Pair.rep x0) (fun _ h => h) (hm0.in0 hc0 f0)
  replace hc0 := hc0.snoc (r := slR A0 c0 T_api_Pair.rep x0) (fun _ h => h)
  refine Rn.enter Try.func14 rfl rfl (Nat.le_of_ble_eq_true rfl) ?_
  refine Rn.seq (Rn.reg (Rn.v rfl rfl rfl rfl (V.as rfl) (Rn.regEnd (Rn.seq (Rn.reg (Rn.v rfl rfl rfl rfl (V.as rfl) (Rn.regEnd (Rn.seq (Rn.seq (Rn.reg (Rn.v rfl rfl rfl rfl (V.as rfl) (Rn.regEnd ?_))))))))))))
  obtain ⟨j1, hj1, hM⟩ := jnE hM
  refine Rn.joinG (r := r) (G := (List T_api_Pair) × Option Addr × Nat) (fun g => [(3, .slice (g.2.1) ((g.1)).length (g.2.2))]) (fun g w' => Hp Z0 No w w' [slR A0 c0 T_api_Pair.rep x0, ownR 40 (g.2.1) (g.2.2) T_api_Pair.rep (g.1)]) (fun g => j1 g.1) ?_ ?_
  · subst hj1
    clear hM
    rintro ⟨y3, A4, c4⟩ w6 hm6 hM
    replace hm6 : Hp Z0 No w w6 [slR A0 c0 T_api_Pair.rep x0, ownR 40 A4 c4 T_api_Pair.rep y3] := hm6
    show Rn _ _ _ _ _ [(3, .slice A4 (y3).length c4)] _
    try dsimp only at hM
    refine Rn.seq (Rn.reg (Rn.v rfl rfl rfl rfl (V.mv rfl) (Rn.v rfl rfl rfl rfl (V.as rfl) (Rn.regEnd ?_))))
    refine Rn.retG1 Try.func14 rfl (rvT rfl) ?_
    obtain rfl := someE hM
    exact ⟨A4, c4, rfl, hm6.pick [1] rfl (by decide)⟩
  intro hk1
  clear hj1
  refine Rn.block ?_
  have hm11 := hm2.addNil 40 T_api_Pair.rep
  refine Rn.loopF (G := (List T_api_Pair) × Int × Option Addr × Nat) (fun g => [(0, .slice A0 (x0).length c0), (3, .slice (g.2.2.1) ((g.1)).length (g.2.2.2)), (4, .int .i64 ((g.2.1)))]) (fun g w' => Hp Z0 No w w' [slR A0 c0 T_api_Pair.rep x0, ownR 40 (g.2.2.1) (g.2.2.2) T_api_Pair.rep (g.1)]) (fun n g => m_limnographref11_Sorted_L1 x0 j1 n g.1 g.2.1) fuel (([] : List T_api_Pair), 0, none, 0) (Sub.cons rfl (Sub.cons rfl (Sub.cons rfl (Sub.nil _)))) (hm11.pick [0, 1] rfl (by decide)) hM (fun _ => rfl) ?_
  clear hM
  rintro m13 ⟨y7, y10, A8, c8⟩ w13 hm13 hM hn13
  replace hm13 : Hp Z0 No w w13 [slR A0 c0 T_api_Pair.rep x0, ownR 40 A8 c8 T_api_Pair.rep y7] := hm13
  show Rn _ _ _ _ _ [(0, .slice A0 (x0).length c0), (3, .slice A8 (y7).length c8), (4, .int .i64 (y10))] _
  replace hM : m_limnographref11_Sorted_L1 x0 j1 (m13 + 1) y7 y10 = some r := hM
  rw [m_limnographref11_Sorted_L1] at hM
  refine Rn.seq (Rn.seq (Rn.reg (Rn.v rfl rfl rfl rfl (V.mv rfl) (Rn.v rfl rfl rfl rfl (V.mv rfl) (Rn.v rfl rfl rfl rfl (V.lenV Try.underlying22 rfl) (Rn.v rfl rfl rfl rfl (V.lss rfl rfl) (Rn.regEnd ?_)))))))
  refine Rn.condD rfl (fun h14 => ?_) (fun h14 => ?_)
  · replace hM := iteT h14 hM
    refine Rn.skip (Rn.seq (Rn.block (Rn.seq (Rn.reg (Rn.v rfl rfl rfl rfl (V.mv rfl) (Rn.v rfl rfl rfl rfl (V.lenV Try.underlying22 rfl) (Rn.v rfl rfl rfl rfl (V.as rfl) (Rn.regEnd (Rn.seq ?_)))))))))
    obtain ⟨j2, hj2, hM⟩ := jnE hM
    refine Rn.joinG (r := r) (G := Int) (fun g => [(0, .slice A0 (x0).length c0), (3, .slice A8 (y7).length c8), (4, .int .i64 (y10)), (5, .int .i64 (g))]) (fun g w' => Hp Z0 No w w' [slR A0 c0 T_api_Pair.rep x0, ownR 40 A8 c8 T_api_Pair.rep y7]) (fun g => j2 g) ?_ ?_
    · subst hj2
      clear hM
      rintro y15 w16 hm16 hM
      replace hm16 : Hp Z0 No w w16 [slR A0 c0 T_api_Pair.rep x0, ownR 40 A8 c8 T_api_Pair.rep y7] := hm16
      show Rn _ _ _ _ _ [(0, .slice A0 (x0).length c0), (3, .slice A8 (y7).length c8), (4, .int .i64 (y10)), (5, .int .i64 (y15))] _
      try dsimp only at hM
      refine Rn.seq (Rn.reg (Rn.v rfl rfl rfl rfl (V.as rfl) (Rn.regEnd (Rn.seq (Rn.reg (Rn.v rfl rfl rfl rfl (V.mv rfl) (Rn.v rfl rfl rfl rfl (V.mv rfl) (Rn.v rfl rfl rfl rfl (V.mv rfl) ?_))))))))
      have hm19 := hm16.freeze 1 rfl
      obtain ⟨z17, e17, hM⟩ := bindE hM
      refine Rn.cutH hm19 1 rfl e17 rfl rfl rfl Try.underlying22 Try.sizeOf40 rfl rfl rfl rfl rfl ?_
      intro A17 c17 hm17
      have hm22 := hm17.addNil 40 T_api_Pair.rep
      obtain ⟨z21, e21, hM⟩ := bindE hM
      refine Rn.appH hm22 3 rfl e21 rfl rfl rfl Try.underlying22 el40 rfl rfl rfl rfl (hm22.src 2 rfl) ?_
      intro A21 c21 w21 hm21
      refine Rn.v rfl rfl rfl rfl (V.as rfl) (Rn.regEnd (Rn.seq (Rn.reg (Rn.v rfl rfl rfl rfl (V.mv rfl) (Rn.v rfl rfl rfl rfl (V.mv rfl) (Rn.v rfl rfl rfl rfl (V.mv rfl) ?_))))))
      obtain ⟨z25, e25, hM⟩ := bindE hM
      refine Rn.ixH hm21 0 rfl e25 rfl rfl rfl Try.underlying22 Try.sizeOf40 rfl rfl rfl rfl ?_
      rintro b25 o25 vs25 ⟨_, _, rfl, ⟨rfl, _⟩, ⟨rfl, _⟩⟩ hm25
      refine Rn.v rfl rfl rfl rfl (V.ldA Try.isAgg40 Try.sizeOf40 rfl (Rd.pre (hm25.get 4 rfl).2 2) rfl) ?_
      obtain ⟨z27, e27, hM⟩ := bindE hM
      refine Rn.pushH (z := z25) (vs := [Str (z25.Key), Str (z25.Val)]) hm25 3 rfl e27 rfl rfl rfl rfl Try.underlying22 el40 rfl rfl rfl rfl (fun _ => rfl) (⟨_, _, rfl, ⟨rfl, trivial⟩, ⟨rfl, trivial⟩⟩) ?_
      intro A27 c27 w27 u27 hm27
      refine Rn.v rfl rfl rfl rfl (V.as rfl) (Rn.regEnd (Rn.reg (Rn.v rfl rfl rfl rfl (V.mv rfl) (Rn.v rfl rfl rfl rfl (V.mv rfl) (Rn.v rfl rfl rfl rfl (V.mv rfl) ?_)))))
      obtain ⟨z29, e29, hM⟩ := bindE hM
      refine Rn.cutH hm27 1 rfl e29 rfl rfl rfl Try.underlying22 Try.sizeOf40 rfl rfl rfl rfl rfl ?_
      intro A29 c29 hm29
      obtain ⟨z31, e31, hM⟩ := bindE hM
      refine Rn.appH hm29 3 rfl e31 rfl rfl rfl Try.underlying22 el40 rfl rfl rfl rfl (hm29.src 5 rfl) ?_
      intro A31 c31 w31 hm31
      refine Rn.v rfl rfl rfl rfl (V.as rfl) (Rn.regEnd (Rn.inBlock (Rn.reg (Rn.v rfl rfl rfl rfl (V.mv rfl) (Rn.v rfl rfl rfl rfl (V.addW rfl rfl) (Rn.v rfl rfl rfl rfl (V.as rfl) (Rn.regEnd ?_)))))))
      exact hn13 (z31, (W64 (y10 + 1)), A31, c31) _ _ (Sub.cons rfl (Sub.cons rfl (Sub.cons rfl (Sub.nil _)))) (hm31.pick [0, 3] rfl (by decide)) hM
    intro hk2
    clear hj2
    refine Rn.block ?_
    refine Rn.loopF (G := Int) (fun g => [(0, .slice A0 (x0).length c0), (3, .slice A8 (y7).length c8), (4, .int .i64 (y10)), (5, .int .i64 (g))]) (fun g w' => Hp Z0 No w w' [slR A0 c0 T_api_Pair.rep x0, ownR 40 A8 c8 T_api_Pair.rep y7]) (fun n g => m_limnographref11_Sorted_L2 x0 y7 y10 j2 n g) fuel (y7.length : Int) (Sub.cons rfl (Sub.cons rfl (Sub.cons rfl (Sub.cons rfl (Sub.nil _))))) (hm13.pick [0, 1] rfl (by decide)) hM (fun _ => rfl) ?_
    clear hM
    rintro m34 y33 w34 hm34 hM hn34
    replace hm34 : Hp Z0 No w w34 [slR A0 c0 T_api_Pair.rep x0, ownR 40 A8 c8 T_api_Pair.rep y7] := hm34
    show Rn _ _ _ _ _ [(0, .slice A0 (x0).length c0), (3, .slice A8 (y7).length c8), (4, .int .i64 (y10)), (5, .int .i64 (y33))] _
    replace hM : m_limnographref11_Sorted_L2 x0 y7 y10 j2 (m34 + 1) y33 = some r := hM
    rw [m_limnographref11_Sorted_L2] at hM
    refine Rn.seq (Rn.seq ?_)
    obtain ⟨j3, hj3, hM⟩ := jnE hM
    refine Rn.joinG (r := r) (G := Bool) (fun g => [(0, .slice A0 (x0).length c0), (3, .slice A8 (y7).length c8), (4, .int .i64 (y10)), (5, .int .i64 (y33)), (30, .bool (g))]) (fun g w' => Hp Z0 No w w' [slR A0 c0 T_api_Pair.rep x0, ownR 40 A8 c8 T_api_Pair.rep y7]) (fun g => j3 g) ?_ ?_
    · subst hj3
      clear hM
      rintro y35 w36 hm36 hM
      replace hm36 : Hp Z0 No w w36 [slR A0 c0 T_api_Pair.rep x0, ownR 40 A8 c8 T_api_Pair.rep y7] := hm36
      show Rn _ _ _ _ _ [(0, .slice A0 (x0).length c0), (3, .slice A8 (y7).length c8), (4, .int .i64 (y10)), (5, .int .i64 (y33)), (30, .bool (y35))] _
      try dsimp only at hM
      refine Rn.condS rfl (fun h37 => ?_) (fun h37 => ?_)
      · replace hM := iteT h37 hM
        refine Rn.skip (Rn.block (Rn.reg (Rn.v rfl rfl rfl rfl (V.mv rfl) (Rn.v rfl rfl rfl rfl (V.subW rfl rfl) (Rn.v rfl rfl rfl rfl (V.as rfl) (Rn.regEnd (Rn.inBlock ?_)))))))
        exact hn34 (W64 (y33 - 1)) _ _ (Sub.cons rfl (Sub.cons rfl (Sub.cons rfl (Sub.cons rfl (Sub.nil _))))) (hm36.pick [0, 1] rfl (by decide)) hM
      · replace hM := iteF (by rw [h37]; exact Bool.false_ne_true) hM
        refine Rn.exit rfl ?_
        exact hk2 y33 _ _ (Sub.cons rfl (Sub.cons rfl (Sub.cons rfl (Sub.cons rfl (Sub.nil _))))) (hm36.pick [0, 1] rfl (by decide)) hM
    intro hk3
    clear hj3
    refine Rn.drawP rfl hm34 ?_
    intro w38 hm38
    refine RH.takeP 0 (by kernel_rfl) rfl rfl rfl rfl (V.mv rfl) ?_
    refine RH.takeP 1 (by kernel_rfl) rfl rfl rfl rfl (V.gtr rfl rfl) ?_
    refine RH.takeP 2 (by kernel_rfl) rfl rfl rfl rfl (V.mv rfl) ?_
    refine RH.partD (t := 17) rfl (fun h39 => ?_) (fun h39 => ?_)
    · replace hM := iteT h39 hM
      refine RH.takeP 3 (by kernel_rfl) rfl rfl rfl rfl (V.mv rfl) ?_
      refine RH.takeP 4 (by kernel_rfl) rfl rfl rfl rfl (V.mv rfl) ?_
      refine RH.takeP 5 (by kernel_rfl) rfl rfl rfl rfl (V.subW rfl rfl) ?_
      obtain ⟨z40, e40, hM⟩ := bindE hM
      obtain ⟨kk40, ke40, kz40, kl40⟩ := idxE e40
      obtain ⟨g40, vs40, hA40, hR40, hrel40⟩ := hm38.ownAt 1 rfl kz40
      subst hA40
      obtain ⟨_, _, rfl, ⟨rfl, _⟩, ⟨rfl, _⟩⟩ := hrel40
      refine RH.takeP 6 (by kernel_rfl) rfl rfl rfl rfl (V.ixE kk40 Try.underlying22 Try.sizeOf40 rfl rfl ke40 kl40) ?_
      refine RH.takeP 7 (by kernel_rfl) rfl rfl rfl rfl (V.fa Try.underlying40 rfl Try.sizeOf9 rfl rfl) ?_
      refine RH.takeP 8 (by kernel_rfl) rfl rfl rfl rfl (V.ldR0 Try.isAgg9 rfl hR40 rfl) ?_
      refine RH.takeP 9 (by kernel_rfl) rfl rfl rfl rfl (V.mv rfl) ?_
      refine RH.takeP 10 (by kernel_rfl) rfl rfl rfl rfl (V.mv rfl) ?_
      obtain ⟨z41, e41, hM⟩ := bindE hM
      obtain ⟨kk41, ke41, kz41, kl41⟩ := idxE e41
      obtain ⟨b41, o41, vs41, hA41, hD41, hR41, hrel41⟩ := Hp.at hm38 0 rfl kz41
      obtain ⟨_, _, rfl, ⟨rfl, _⟩, ⟨rfl, _⟩⟩ := hrel41
      have hm43 := hm38.knowRd hD41 hR41
      refine RH.takeP 11 (by kernel_rfl) rfl rfl rfl rfl (V.ixA' hA41 kk41 Try.underlying22 Try.sizeOf40 rfl rfl ke41 kl41) ?_
      refine RH.takeP 12 (by kernel_rfl) rfl rfl rfl rfl (V.fa Try.underlying40 rfl Try.sizeOf9 rfl rfl) ?_
      refine RH.takeP 13 (by kernel_rfl) rfl rfl rfl rfl (V.ldR0 Try.isAgg9 rfl (hm43.get 2 rfl).2 rfl) ?_
      refine RH.takeP 14 (by kernel_rfl) rfl rfl rfl rfl (V.gtrS rfl rfl) ?_
      refine RH.takeP 15 (by kernel_rfl) rfl rfl rfl rfl (V.pkT rfl rfl) ?_
      refine RH.doneP (by kernel_rfl) ?_
      exact hk3 (Op.bytesLess z41.Key z40.Key) _ _ (Sub.cons rfl (Sub.cons rfl (Sub.cons rfl (Sub.cons rfl (Sub.cons rfl (Sub.nil _)))))) (hm43.pick [0, 1] rfl (by decide)) hM
    · replace hM := iteF h39 hM
      refine RH.no 3 (by kernel_rfl) rfl rfl rfl rfl ?_
      refine RH.no 4 (by kernel_rfl) rfl rfl rfl rfl ?_
      refine RH.no 5 (by kernel_rfl) rfl rfl rfl rfl ?_
      refine RH.no 6 (by kernel_rfl) rfl rfl rfl rfl ?_
      refine RH.no 7 (by kernel_rfl) rfl rfl rfl rfl ?_
      refine RH.no 8 (by kernel_rfl) rfl rfl rfl rfl ?_
      refine RH.no 9 (by kernel_rfl) rfl rfl rfl rfl ?_
      refine RH.no 10 (by kernel_rfl) rfl rfl rfl rfl ?_
      refine RH.no 11 (by kernel_rfl) rfl rfl rfl rfl ?_
      refine RH.no 12 (by kernel_rfl) rfl rfl rfl rfl ?_
      refine RH.no 13 (by kernel_rfl) rfl rfl rfl rfl ?_
      refine RH.no 14 (by kernel_rfl) rfl rfl rfl rfl ?_
      refine RH.takeP 15 (by kernel_rfl) rfl rfl rfl rfl (V.pkF rfl rfl) ?_
      refine RH.doneP (by kernel_rfl) ?_
      exact hk3 false _ _ (Sub.cons rfl (Sub.cons rfl (Sub.cons rfl (Sub.cons rfl (Sub.cons rfl (Sub.nil _)))))) (hm38.pick [0, 1] rfl (by decide)) hM
  · replace hM := iteF h14 hM
    refine Rn.exit rfl ?_
    exact hk1 (y7, A8, c8) _ _ (Sub.cons rfl (Sub.nil _)) (hm13.pick [0, 1] rfl (by decide)) hM

set_option maxRecDepth 20000 in
theorem m_limnographref11_Text_sim {Z0 : Nat → Prop} (w : World) (x0 : (List UInt8)) (A1 : Option Addr) (c1 : Nat) (x1 : (List T_api_Pair)) {r : ((List UInt8) × Int)} (f0 : (slR A1 c1 T_api_Pair.rep x1).H Z0 w) (hM : m_limnographref11_Text x0 x1 = some r) :
    Calls Try.prog 10 #[Str (x0), .slice A1 (x1).length c1] w fun x w' => x = .returned (.tuple #[Str (r.1), .int .i64 (r.2)]) ∧ Hp Z0 No w w' [] := by
  have hm0 := Hp.nil Z0 No w
  have hc0 := Calm.nil
  have hm2 := hm0.know (slR A1 c1 T_api_Pair.rep x1) (fun _ h => h) (hm0.in0 hc0 f0)
  replace hc0 := hc0.snoc (r := slR A1 c1 T_api_Pair.rep x1) (fun _ h => h)
  refine Rn.enter Try.func10 rfl rfl (Nat.le_of_ble_eq_true rfl) ?_
  refine Rn.seq (Rn.reg (Rn.v rfl rfl rfl rfl (V.as rfl) (Rn.v rfl rfl rfl rfl (V.as rfl) (Rn.regEnd (Rn.seq (Rn.seq (Rn.reg (Rn.v rfl rfl rfl rfl (V.mv rfl) (Rn.v rfl rfl rfl rfl (V.mv rfl) ?_)))))))))
  obtain ⟨p3, e3, hM⟩ := bindE hM
  refine Rn.cl ck17 rfl rfl rfl rfl (m_limnographref11_Check_sim (Z0 := All) _ x0 A1 c1 x1 (slR_all (hm2.get 0 rfl)) e3) ?_
  rintro _ w3 ⟨rfl, hq3⟩
  refine ⟨_, rfl, ?_⟩
  have hm4 := hm2.call0 hq3
  refine Rn.v rfl rfl rfl rfl (V.as rfl) (Rn.regEnd (Rn.seq (Rn.reg (Rn.v rfl rfl rfl rfl (V.mv rfl) (Rn.v rfl rfl rfl rfl (V.neq rfl rfl) (Rn.regEnd ?_))))))
  refine Rn.condD rfl (fun h5 => ?_) (fun h5 => ?_)
  · replace hM := iteT h5 hM
    refine Rn.seq (Rn.reg (Rn.v rfl rfl rfl rfl (V.mv rfl) (Rn.v rfl rfl rfl rfl (V.as rfl) (Rn.v rfl rfl rfl rfl (V.as rfl) (Rn.regEnd ?_)))))
    refine Rn.retG2 Try.func10 rfl (rvT rfl) (rvT rfl) ?_
    obtain rfl := someE hM
    exact ⟨rfl, hm4.pick [] rfl (by decide)⟩
  · replace hM := iteF h5 hM
    refine Rn.skip (Rn.seq (Rn.reg (Rn.v rfl rfl rfl rfl (V.mv rfl) ?_)))
    obtain ⟨p6, e6, hM⟩ := bindE hM
    refine Rn.cl ck14 rfl rfl rfl rfl (m_limnographref11_Sorted_sim (Z0 := All) _ A1 c1 x1 (slR_all (hm4.get 0 rfl)) e6) ?_
    rintro _ w6 ⟨A6_0_0, c6_0_0, rfl, hq6⟩
    refine ⟨_, rfl, ?_⟩
    have hm8 : Hp Z0 No w w6 [slR A1 c1 T_api_Pair.rep x1, ownR 40 A6_0_0 c6_0_0 T_api_Pair.rep p6] := hm4.callF (flC (ownR_flat T_api_Pair.flat _ _ _ _) fl0) hq6
    refine Rn.v rfl rfl rfl rfl (V.as rfl) (Rn.regEnd (Rn.seq (Rn.reg (Rn.v rfl rfl rfl rfl (V.mv rfl) (Rn.v rfl rfl rfl rfl (V.as rfl) (Rn.regEnd (Rn.seq (Rn.seq (Rn.reg (Rn.v rfl rfl rfl rfl (V.as rfl) (Rn.regEnd ?_)))))))))))
    obtain ⟨j1, hj1, hM⟩ := jnE hM
    refine Rn.joinG (r := r) (G := (List UInt8)) (fun g => [(8, Str (g))]) (fun g w' => Hp Z0 No w w' [slR A1 c1 T_api_Pair.rep x1, ownR 40 A6_0_0 c6_0_0 T_api_Pair.rep p6]) (fun g => j1 g) ?_ ?_
    · subst hj1
      clear hM
      rintro y9 w10 hm10 hM
      replace hm10 : Hp Z0 No w w10 [slR A1 c1 T_api_Pair.rep x1, ownR 40 A6_0_0 c6_0_0 T_api_Pair.rep p6] := hm10
      show Rn _ _ _ _ _ [(8, Str (y9))] _
      try dsimp only at hM
      refine Rn.seq (Rn.reg (Rn.v rfl rfl rfl rfl (V.mv rfl) (Rn.v rfl rfl rfl rfl (V.as rfl) (Rn.v rfl rfl rfl rfl (V.as rfl) (Rn.regEnd ?_)))))
      refine Rn.retG2 Try.func10 rfl (rvT rfl) (rvT rfl) ?_
      obtain rfl := someE hM
      exact ⟨rfl, hm10.pick [] rfl (by decide)⟩
    intro hk1
    clear hj1
    refine Rn.block ?_
    refine Rn.loopF (G := (List UInt8) × Int) (fun g => [(7, .slice A6_0_0 (p6).length c6_0_0), (8, Str ((g.1))), (9, .int .i64 ((g.2)))]) (fun g w' => Hp Z0 No w w' [slR A1 c1 T_api_Pair.rep x1, ownR 40 A6_0_0 c6_0_0 T_api_Pair.rep p6]) (fun n g => m_limnographref11_Text_L1 p6 j1 n g.1 g.2) fuel (x0, 0) (Sub.cons rfl (Sub.cons rfl (Sub.cons rfl (Sub.nil _)))) (hm8.pick [0, 1] rfl (by decide)) hM (fun _ => rfl) ?_
    clear hM
    rintro m13 ⟨y11, y12⟩ w13 hm13 hM hn13
    replace hm13 : Hp Z0 No w w13 [slR A1 c1 T_api_Pair.rep x1, ownR 40 A6_0_0 c6_0_0 T_api_Pair.rep p6] := hm13
    show Rn _ _ _ _ _ [(7, .slice A6_0_0 (p6).length c6_0_0), (8, Str (y11)), (9, .int .i64 (y12))] _
    replace hM : m_limnographref11_Text_L1 p6 j1 (m13 + 1) y11 y12 = some r := hM
    rw [m_limnographref11_Text_L1] at hM
    refine Rn.seq (Rn.seq (Rn.reg (Rn.v rfl rfl rfl rfl (V.mv rfl) (Rn.v rfl rfl rfl rfl (V.mv rfl) (Rn.v rfl rfl rfl rfl (V.lenV Try.underlying22 rfl) (Rn.v rfl rfl rfl rfl (V.lss rfl rfl) (Rn.regEnd ?_)))))))
    refine Rn.condD rfl (fun h14 => ?_) (fun h14 => ?_)
    · replace hM := iteT h14 hM
      refine Rn.skip (Rn.seq (Rn.block ?_))
      refine Rn.drawP rfl hm13 ?_
      intro w15 hm15
      refine RH.takeP 0 (by kernel_rfl) rfl rfl rfl rfl (V.mv rfl) ?_
      obtain ⟨z16, e16, hM⟩ := bindE hM
      refine RH.takeP 1 (by kernel_rfl) rfl rfl rfl rfl (V.catZ rfl rfl e16) ?_
      refine RH.takeP 2 (by kernel_rfl) rfl rfl rfl rfl (V.mv rfl) ?_
      refine RH.takeP 3 (by kernel_rfl) rfl rfl rfl rfl (V.mv rfl) ?_
      obtain ⟨z17, e17, hM⟩ := bindE hM
      obtain ⟨kk17, ke17, kz17, kl17⟩ := idxE e17
      obtain ⟨g17, vs17, hA17, hR17, hrel17⟩ := hm15.ownAt 1 rfl kz17
      subst hA17
      obtain ⟨_, _, rfl, ⟨rfl, _⟩, ⟨rfl, _⟩⟩ := hrel17
      refine RH.takeP 4 (by kernel_rfl) rfl rfl rfl rfl (V.ixE kk17 Try.underlying22 Try.sizeOf40 rfl rfl ke17 kl17) ?_
      refine RH.takeP 5 (by kernel_rfl) rfl rfl rfl rfl (V.fa Try.underlying40 rfl Try.sizeOf9 rfl rfl) ?_
      refine RH.takeP 6 (by kernel_rfl) rfl rfl rfl rfl (V.ldR0 Try.isAgg9 rfl hR17 rfl) ?_
      obtain ⟨z18, e18, hM⟩ := bindE hM
      refine RH.takeP 7 (by kernel_rfl) rfl rfl rfl rfl (V.catZ rfl rfl e18) ?_
      obtain ⟨z19, e19, hM⟩ := bindE hM
      refine RH.takeP 8 (by kernel_rfl) rfl rfl rfl rfl (V.catZ rfl rfl e19) ?_
      refine RH.takeP 9 (by kernel_rfl) rfl rfl rfl rfl (V.mv rfl) ?_
      refine RH.takeP 10 (by kernel_rfl) rfl rfl rfl rfl (V.mv rfl) ?_
      obtain ⟨z20, e20, hM⟩ := bindE hM
      obtain ⟨kk20, ke20, kz20, kl20⟩ := idxE e20
      obtain ⟨vs20, hR20, hrel20⟩ := hm15.ownAtL 1 rfl kz20
      obtain ⟨_, _, rfl, ⟨rfl, _⟩, ⟨rfl, _⟩⟩ := hrel20
      refine RH.takeP 11 (by kernel_rfl) rfl rfl rfl rfl (V.ixE kk20 Try.underlying22 Try.sizeOf40 rfl rfl ke20 kl20) ?_
      refine RH.takeP 12 (by kernel_rfl) rfl rfl rfl rfl (V.fa Try.underlying40 rfl Try.sizeOf9 rfl rfl) ?_
      refine RH.takeP 13 (by kernel_rfl) rfl rfl rfl rfl (V.ldR Try.isAgg9 rfl hR20 rfl) ?_
      obtain ⟨z21, e21, hM⟩ := bindE hM
      refine RH.takeP 14 (by kernel_rfl) rfl rfl rfl rfl (V.catZ rfl rfl e21) ?_
      refine RH.takeP 15 (by kernel_rfl) rfl rfl rfl rfl (V.as rfl) ?_
      refine RH.doneP (by kernel_rfl) ?_
      refine Rn.inBlock (Rn.reg (Rn.v rfl rfl rfl rfl (V.mv rfl) (Rn.v rfl rfl rfl rfl (V.addW rfl rfl) (Rn.v rfl rfl rfl rfl (V.as rfl) (Rn.regEnd ?_)))))
      exact hn13 (z21, (W64 (y12 + 1))) _ _ (Sub.cons rfl (Sub.cons rfl (Sub.cons rfl (Sub.nil _)))) (hm15.pick [0, 1] rfl (by decide)) hM
    · replace hM := iteF h14 hM
      refine Rn.exit rfl ?_
      exact hk1 y11 _ _ (Sub.cons rfl (Sub.nil _)) (hm13.pick [0, 1] rfl (by decide)) hM

set_option maxRecDepth 20000 in
theorem m_limnographref11_Same_sim {Z0 : Nat → Prop} (w : World) (A0 : Option Addr) (c0 : Nat) (x0 : (List T_api_Pair)) (A1 : Option Addr) (c1 : Nat) (x1 : (List T_api_Pair)) {r : Bool} (f0 : (slR A0 c0 T_api_Pair.rep x0).H Z0 w) (f1 : (slR A1 c1 T_api_Pair.rep x1).H Z0 w) (hM : m_limnographref11_Same x0 x1 = some r) :
    Calls Try.prog 12 #[.slice A0 (x0).length c0, .slice A1 (x1).length c1] w fun x w' => x = .returned (.bool (r)) ∧ Hp Z0 No w w' [] := by
  have hm0 := Hp.nil Z0 No w
  have hc0 := Calm.nil
  have hm3 := hm0.know (slR A0 c0 T_api_Pair.rep x0) (fun _ h => h) (hm0.in0 hc0 f0)
  replace hc0 := hc0.snoc (r := slR A0 c0 T_api_Pair.rep x0) (fun _ h => h)
  have hm4 := hm3.know (slR A1 c1 T_api_Pair.rep x1) (fun _ h => h) (hm3.in0 hc0 f1)
  replace hc0 := hc0.snoc (r := slR A1 c1 T_api_Pair.rep x1) (fun _ h => h)
  refine Rn.enter Try.func12 rfl rfl (Nat.le_of_ble_eq_true rfl) ?_
  refine Rn.seq (Rn.reg (Rn.v rfl rfl rfl rfl (V.as rfl) (Rn.regEnd (Rn.seq (Rn.seq (Rn.reg (Rn.v rfl rfl rfl rfl (V.mv rfl) (Rn.v rfl rfl rfl rfl (V.lenV Try.underlying22 rfl) (Rn.v rfl rfl rfl rfl (V.mv rfl) (Rn.v rfl rfl rfl rfl (V.lenV Try.underlying22 rfl) (Rn.v rfl rfl rfl rfl (V.neq rfl rfl) (Rn.regEnd ?_))))))))))))
  refine Rn.condD rfl (fun h5 => ?_) (fun h5 => ?_)
  · replace hM := iteT h5 hM
    refine Rn.seq (Rn.reg (Rn.v rfl rfl rfl rfl (V.as rfl) (Rn.regEnd ?_)))
    refine Rn.retG1 Try.func12 rfl (rvT rfl) ?_
    obtain rfl := someE hM
    exact ⟨rfl, hm4.pick [] rfl (by decide)⟩
  · replace hM := iteF h5 hM
    refine Rn.skip (Rn.seq (Rn.seq (Rn.reg (Rn.v rfl rfl rfl rfl (V.as rfl) (Rn.regEnd ?_)))))
    obtain ⟨j1, hj1, hM⟩ := jnE hM
    refine Rn.joinG (r := r) (G := Unit) (fun g => []) (fun g w' => Hp Z0 No w w' [slR A0 c0 T_api_Pair.rep x0, slR A1 c1 T_api_Pair.rep x1]) (fun g => j1 ()) ?_ ?_
    · subst hj1
      clear hM
      rintro _ w6 hm6 hM
      replace hm6 : Hp Z0 No w w6 [slR A0 c0 T_api_Pair.rep x0, slR A1 c1 T_api_Pair.rep x1] := hm6
      show Rn _ _ _ _ _ [] _
      try dsimp only at hM
      refine Rn.seq (Rn.reg (Rn.v rfl rfl rfl rfl (V.as rfl) (Rn.regEnd ?_)))
      refine Rn.retG1 Try.func12 rfl (rvT rfl) ?_
      obtain rfl := someE hM
      exact ⟨rfl, hm6.pick [] rfl (by decide)⟩
    intro hk1
    clear hj1
    refine Rn.block ?_
    refine Rn.loopF (G := Int) (fun g => [(0, .slice A0 (x0).length c0), (1, .slice A1 (x1).length c1), (5, .int .i64 (g))]) (fun g w' => Hp Z0 No w w' [slR A0 c0 T_api_Pair.rep x0, slR A1 c1 T_api_Pair.rep x1]) (fun n g => m_limnographref11_Same_L1 x0 x1 j1 n g) fuel 0 (Sub.cons rfl (Sub.cons rfl (Sub.cons rfl (Sub.nil _)))) (hm4.pick [0, 1] rfl (by decide)) hM (fun _ => rfl) ?_
    clear hM
    rintro m8 y7 w8 hm8 hM hn8
    replace hm8 : Hp Z0 No w w8 [slR A0 c0 T_api_Pair.rep x0, slR A1 c1 T_api_Pair.rep x1] := hm8
    show Rn _ _ _ _ _ [(0, .slice A0 (x0).length c0), (1, .slice A1 (x1).length c1), (5, .int .i64 (y7))] _
    replace hM : m_limnographref11_Same_L1 x0 x1 j1 (m8 + 1) y7 = some r := hM
    rw [m_limnographref11_Same_L1] at hM
    refine Rn.seq (Rn.seq (Rn.reg (Rn.v rfl rfl rfl rfl (V.mv rfl) (Rn.v rfl rfl rfl rfl (V.mv rfl) (Rn.v rfl rfl rfl rfl (V.lenV Try.underlying22 rfl) (Rn.v rfl rfl rfl rfl (V.lss rfl rfl) (Rn.regEnd ?_)))))))
    refine Rn.condD rfl (fun h9 => ?_) (fun h9 => ?_)
    · replace hM := iteT h9 hM
      refine Rn.skip (Rn.seq (Rn.block (Rn.seq ?_)))
      refine Rn.drawP rfl hm8 ?_
      intro w10 hm10
      refine RH.takeP 0 (by kernel_rfl) rfl rfl rfl rfl (V.mv rfl) ?_
      refine RH.takeP 1 (by kernel_rfl) rfl rfl rfl rfl (V.mv rfl) ?_
      obtain ⟨z11, e11, hM⟩ := bindE hM
      obtain ⟨kk11, ke11, kz11, kl11⟩ := idxE e11
      obtain ⟨b11, o11, vs11, hA11, hD11, hR11, hrel11⟩ := Hp.at hm10 0 rfl kz11
      obtain ⟨_, _, rfl, ⟨rfl, _⟩, ⟨rfl, _⟩⟩ := hrel11
      have hm13 := hm10.knowRd hD11 hR11
      refine RH.takeP 2 (by kernel_rfl) rfl rfl rfl rfl (V.ixA' hA11 kk11 Try.underlying22 Try.sizeOf40 rfl rfl ke11 kl11) ?_
      refine RH.takeP 3 (by kernel_rfl) rfl rfl rfl rfl (V.ldA Try.isAgg40 Try.sizeOf40 rfl (Rd.pre (hm13.get 2 rfl).2 2) rfl) ?_
      refine RH.takeP 4 (by kernel_rfl) rfl rfl rfl rfl (V.mv rfl) ?_
      refine RH.takeP 5 (by kernel_rfl) rfl rfl rfl rfl (V.mv rfl) ?_
      obtain ⟨z14, e14, hM⟩ := bindE hM
      obtain ⟨kk14, ke14, kz14, kl14⟩ := idxE e14
      obtain ⟨b14, o14, vs14, hA14, hD14, hR14, hrel14⟩ := Hp.at hm13 1 rfl kz14
      obtain ⟨_, _, rfl, ⟨rfl, _⟩, ⟨rfl, _⟩⟩ := hrel14
      have hm16 := hm13.knowRd hD14 hR14
      refine RH.takeP 6 (by kernel_rfl) rfl rfl rfl rfl (V.ixA' hA14 kk14 Try.underlying22 Try.sizeOf40 rfl rfl ke14 kl14) ?_
      refine RH.takeP 7 (by kernel_rfl) rfl rfl rfl rfl (V.ldA Try.isAgg40 Try.sizeOf40 rfl (Rd.pre (hm16.get 3 rfl).2 2) rfl) ?_
      refine RH.takeP 8 (by kernel_rfl) rfl rfl rfl rfl (V.neqT Try.eqGuardType40 rfl rfl (eq40 _ _)) ?_
      refine RH.doneP (by kernel_rfl) ?_
      refine Rn.condD rfl (fun h17 => ?_) (fun h17 => ?_)
      · replace hM := iteT h17 hM
        refine Rn.seq (Rn.reg (Rn.v rfl rfl rfl rfl (V.as rfl) (Rn.regEnd ?_)))
        refine Rn.retG1 Try.func12 rfl (rvT rfl) ?_
        obtain rfl := someE hM
        exact ⟨rfl, hm16.pick [] rfl (by decide)⟩
      · replace hM := iteF h17 hM
        refine Rn.skip (Rn.inBlock (Rn.reg (Rn.v rfl rfl rfl rfl (V.mv rfl) (Rn.v rfl rfl rfl rfl (V.addW rfl rfl) (Rn.v rfl rfl rfl rfl (V.as rfl) (Rn.regEnd ?_))))))
        exact hn8 (W64 (y7 + 1)) _ _ (Sub.cons rfl (Sub.cons rfl (Sub.cons rfl (Sub.nil _)))) (hm16.pick [0, 1] rfl (by decide)) hM
    · replace hM := iteF h9 hM
      refine Rn.exit rfl ?_
      exact hk1 () _ _ (Sub.nil _) (hm8.pick [0, 1] rfl (by decide)) hM

set_option maxRecDepth 20000 in
theorem m_limnographlaw11_LabelTexts_sim {Z0 : Nat → Prop} (w : World) (x0 : (List UInt8)) (A1 : Option Addr) (c1 : Nat) (x1 : (List T_api_Pair)) {r : Bool} (f0 : (slR A1 c1 T_api_Pair.rep x1).H Z0 w) (hM : m_limnographlaw11_LabelTexts x0 x1 = some r) :
    Calls Try.prog 3 #[Str (x0), .slice A1 (x1).length c1] w fun x w' => x = .returned (.bool (r)) ∧ Hp Z0 No w w' [] := by
  have hm0 := Hp.nil Z0 No w
  have hc0 := Calm.nil
  have hm2 := hm0.know (slR A1 c1 T_api_Pair.rep x1) (fun _ h => h) (hm0.in0 hc0 f0)
  replace hc0 := hc0.snoc (r := slR A1 c1 T_api_Pair.rep x1) (fun _ h => h)
  refine Rn.enter Try.func3 rfl rfl (Nat.le_of_ble_eq_true rfl) ?_
  refine Rn.seq (Rn.reg (Rn.v rfl rfl rfl rfl (V.as rfl) (Rn.regEnd (Rn.seq (Rn.seq (Rn.reg ?_))))))
  obtain ⟨p3, e3, hM⟩ := bindE hM
  refine Rn.cl ck7 rfl rfl rfl rfl (m_limnographlaw11_awake_sim (Z0 := All) _   e3) ?_
  rintro _ w3 ⟨rfl, hq3⟩
  refine ⟨_, rfl, ?_⟩
  have hm4 := hm2.call0 hq3
  refine Rn.v rfl rfl rfl rfl (V.notB rfl) (Rn.regEnd ?_)
  refine Rn.condS rfl (fun h5 => ?_) (fun h5 => ?_)
  · replace hM := iteT h5 hM
    refine Rn.seq (Rn.reg (Rn.v rfl rfl rfl rfl (V.as rfl) (Rn.regEnd ?_)))
    refine Rn.retG1 Try.func3 rfl (rvT rfl) ?_
    obtain rfl := someE hM
    exact ⟨rfl, hm4.pick [] rfl (by decide)⟩
  · replace hM := iteF (by rw [h5]; exact Bool.false_ne_true) hM
    refine Rn.skip (Rn.seq (Rn.seq (Rn.reg (Rn.v rfl rfl rfl rfl (V.mv rfl) (Rn.v rfl rfl rfl rfl (V.lenS Try.underlying9 rfl) (Rn.v rfl rfl rfl rfl (V.gtr rfl rfl) (Rn.v rfl rfl rfl rfl (V.mv rfl) ?_)))))))
    obtain ⟨j1, hj1, hM⟩ := jnE hM
    refine Rn.joinR (r := r) (G := Bool) [] (fun g => [(0, Str (x0)), (1, .slice A1 (x1).length c1), (18, .bool (g))]) (fun g w' => Hp Z0 No w w' [slR A1 c1 T_api_Pair.rep x1]) (fun g => j1 g) ?_ ?_
    · subst hj1
      clear hM
      rintro y6 w7 hm7 hM
      replace hm7 : Hp Z0 No w w7 [slR A1 c1 T_api_Pair.rep x1] := hm7
      show Rn _ _ _ _ _ [(0, Str (x0)), (1, .slice A1 (x1).length c1), (18, .bool (y6))] _
      try dsimp only at hM
      refine Rn.regEnd ?_
      refine Rn.condS rfl (fun h8 => ?_) (fun h8 => ?_)
      · replace hM := iteT h8 hM
        refine Rn.seq (Rn.reg (Rn.v rfl rfl rfl rfl (V.as rfl) (Rn.regEnd ?_)))
        refine Rn.retG1 Try.func3 rfl (rvT rfl) ?_
        obtain rfl := someE hM
        exact ⟨rfl, hm7.pick [] rfl (by decide)⟩
      · replace hM := iteF (by rw [h8]; exact Bool.false_ne_true) hM
        refine Rn.skip (Rn.seq (Rn.reg (Rn.v rfl rfl rfl rfl (V.mv rfl) (Rn.v rfl rfl rfl rfl (V.mv rfl) ?_))))
        obtain ⟨p9, e9, hM⟩ := bindE hM
        refine Rn.cl ck9 rfl rfl rfl rfl (m_label_Text_sim (Z0 := All) _ x0 A1 c1 x1 (slR_all (hm7.get 0 rfl)) e9) ?_
        rintro _ w9 ⟨rfl, hq9⟩
        refine ⟨_, rfl, ?_⟩
        have hm10 := hm7.call0 hq9
        refine Rn.v rfl rfl rfl rfl (V.mv rfl) (Rn.v rfl rfl rfl rfl (V.ext rfl rfl) (Rn.v rfl rfl rfl rfl (V.ext rfl rfl) (Rn.v rfl rfl rfl rfl (V.as rfl) (Rn.v rfl rfl rfl rfl (V.as rfl) (Rn.regEnd (Rn.seq (Rn.reg (Rn.v rfl rfl rfl rfl (V.mv rfl) (Rn.v rfl rfl rfl rfl (V.mv rfl) ?_)))))))))
        obtain ⟨p11, e11, hM⟩ := bindE hM
        refine Rn.cl ck10 rfl rfl rfl rfl (m_limnographref11_Text_sim (Z0 := All) _ x0 A1 c1 x1 (slR_all (hm10.get 0 rfl)) e11) ?_
        rintro _ w11 ⟨rfl, hq11⟩
        refine ⟨_, rfl, ?_⟩
        have hm12 := hm10.call0 hq11
        refine Rn.v rfl rfl rfl rfl (V.mv rfl) (Rn.v rfl rfl rfl rfl (V.ext rfl rfl) (Rn.v rfl rfl rfl rfl (V.ext rfl rfl) (Rn.v rfl rfl rfl rfl (V.as rfl) (Rn.v rfl rfl rfl rfl (V.as rfl) (Rn.regEnd (Rn.seq (Rn.reg (Rn.v rfl rfl rfl rfl (V.mv rfl) (Rn.v rfl rfl rfl rfl (V.mv rfl) (Rn.v rfl rfl rfl rfl (V.eqlS rfl rfl) (Rn.v rfl rfl rfl rfl (V.mv rfl) ?_)))))))))))
        refine Rn.cutR [8, 9, 10, 11, 12, 13, 14, 15, 16, 17, 18, 19, 20, 21, 22] [(0, Str (x0)), (1, .slice A1 (x1).length c1), (8, .int .i64 (p11.2)), (38, .bool (decide ((p9.1 = p11.1) ∧ (p9.2 = p11.2))))] (fun hk13 => ?_) ?_
        · refine Rn.partD (t := 34) rfl (fun h14 => ?_) (fun h14 => ?_)
          · refine Rn.v rfl rfl rfl rfl (V.mv rfl) (Rn.v rfl rfl rfl rfl (V.mv rfl) (Rn.v rfl rfl rfl rfl (V.eql rfl rfl) (Rn.v rfl rfl rfl rfl (V.pkT rfl rfl) ?_)))
            refine hk13 _ ?_
            exact Sub.cons rfl (Sub.cons rfl (Sub.cons rfl (Sub.cons (lkv _ rfl (by first | exact andT h14 | exact andF h14 | exact orT h14 | exact orF h14 | exact nandF h14 | exact nandT h14 | exact norT h14 | exact norF h14 | (simp [h14]; done) | grind)) (Sub.nil _))))
          · refine Rn.no rfl rfl rfl rfl (Rn.no rfl rfl rfl rfl (Rn.no rfl rfl rfl rfl (Rn.v rfl rfl rfl rfl (V.pkF rfl rfl) ?_)))
            refine hk13 _ ?_
            exact Sub.cons rfl (Sub.cons rfl (Sub.cons rfl (Sub.cons (lkv _ rfl (by first | exact andT h14 | exact andF h14 | exact orT h14 | exact orF h14 | exact nandF h14 | exact nandT h14 | exact norT h14 | exact norF h14 | (simp [h14]; done) | grind)) (Sub.nil _))))
        refine Rn.v rfl rfl rfl rfl (V.mv rfl) ?_
        obtain ⟨j2, hj2, hM⟩ := jnE hM
        refine Rn.joinR (r := r) (G := Bool) [15, 16, 17, 18, 19, 20, 21, 22] (fun g => [(1, .slice A1 (x1).length c1), (45, .bool (g))]) (fun g w' => Hp Z0 No w w' [slR A1 c1 T_api_Pair.rep x1]) (fun g => j2 g) ?_ ?_
        · subst hj2
          clear hM
          rintro y15 w16 hm16 hM
          replace hm16 : Hp Z0 No w w16 [slR A1 c1 T_api_Pair.rep x1] := hm16
          show Rn _ _ _ _ _ [(1, .slice A1 (x1).length c1), (45, .bool (y15))] _
          try dsimp only at hM
          refine Rn.v rfl rfl rfl rfl (V.mv rfl) ?_
          obtain ⟨j3, hj3, hM⟩ := jnE hM
          refine Rn.joinR (r := r) (G := Bool) [22] (fun g => [(52, .bool (g))]) (fun g w' => Hp Z0 No w w' [slR A1 c1 T_api_Pair.rep x1]) (fun g => j3 g) ?_ ?_
          · subst hj3
            clear hM
            rintro y17 w18 hm18 hM
            replace hm18 : Hp Z0 No w w18 [slR A1 c1 T_api_Pair.rep x1] := hm18
            show Rn _ _ _ _ _ [(52, .bool (y17))] _
            try dsimp only at hM
            refine Rn.v rfl rfl rfl rfl (V.as rfl) (Rn.regEnd ?_)
            refine Rn.retG1 Try.func3 rfl (rvT rfl) ?_
            obtain rfl := someE hM
            exact ⟨rfl, hm18.pick [] rfl (by decide)⟩
          intro hk3
          clear hj3
          refine Rn.part (t := 46) rfl (fun h19 => ?_) (fun h19 => ?_)
          · replace hM := iteT h19 hM
            refine Rn.v rfl rfl rfl rfl (V.mv rfl) ?_
            obtain ⟨p20, e20, hM⟩ := bindE hM
            refine Rn.cl ck13 rfl rfl rfl rfl (m_label_Sorted_sim (Z0 := All) _ A1 c1 x1 (slR_all (hm16.get 0 rfl)) e20) ?_
            rintro _ w20 ⟨A20_0_0, c20_0_0, rfl, hq20⟩
            refine ⟨_, rfl, ?_⟩
            have hm22 : Hp Z0 No w w20 [slR A1 c1 T_api_Pair.rep x1, ownR 40 A20_0_0 c20_0_0 T_api_Pair.rep p20] := hm16.callF (flC (ownR_flat T_api_Pair.flat _ _ _ _) fl0) hq20
            refine Rn.v rfl rfl rfl rfl (V.mv rfl) ?_
            obtain ⟨p23, e23, hM⟩ := bindE hM
            refine Rn.cl ck14 rfl rfl rfl rfl (m_limnographref11_Sorted_sim (Z0 := All) _ A1 c1 x1 (slR_all (hm22.get 0 rfl)) e23) ?_
            rintro _ w23 ⟨A23_0_0, c23_0_0, rfl, hq23⟩
            refine ⟨_, rfl, ?_⟩
            have hm25 : Hp Z0 No w w23 [slR A1 c1 T_api_Pair.rep x1, ownR 40 A20_0_0 c20_0_0 T_api_Pair.rep p20, ownR 40 A23_0_0 c23_0_0 T_api_Pair.rep p23] := hm22.callF (flC (ownR_flat T_api_Pair.flat _ _ _ _) fl0) hq23
            obtain ⟨p26, e26, hM⟩ := bindE hM
            refine Rn.cl ck12 rfl rfl rfl rfl (m_limnographref11_Same_sim (Z0 := All) _ A20_0_0 c20_0_0 p20 A23_0_0 c23_0_0 p23 (own_slR (hm25.get 1 rfl)) (own_slR (hm25.get 2 rfl)) e26) ?_
            rintro _ w26 ⟨rfl, hq26⟩
            refine ⟨_, rfl, ?_⟩
            have hm27 := hm25.call0 hq26
            refine Rn.v rfl rfl rfl rfl (V.pkT rfl rfl) ?_
            exact hk3 p26 _ _ (Sub.cons rfl (Sub.nil _)) (hm27.pick [0] rfl (by decide)) hM
          · replace hM := iteF (by rw [h19]; exact Bool.false_ne_true) hM
            refine Rn.no rfl rfl rfl rfl (Rn.no rfl rfl rfl rfl (Rn.no rfl rfl rfl rfl (Rn.no rfl rfl rfl rfl (Rn.no rfl rfl rfl rfl (Rn.v rfl rfl rfl rfl (V.pkF rfl rfl) ?_)))))
            exact hk3 false _ _ (Sub.cons rfl (Sub.nil _)) (hm16.pick [0] rfl (by decide)) hM
        intro hk2
        clear hj2
        refine Rn.partD (t := 39) rfl (fun h28 => ?_) (fun h28 => ?_)
        · replace hM := iteT h28 hM
          refine Rn.v rfl rfl rfl rfl (V.mv rfl) (Rn.v rfl rfl rfl rfl (V.mv rfl) ?_)
          obtain ⟨p29, e29, hM⟩ := bindE hM
          refine Rn.cl ck11 rfl rfl rfl rfl (m_label_Check_sim (Z0 := All) _ x0 A1 c1 x1 (slR_all (hm12.get 0 rfl)) e29) ?_
          rintro _ w29 ⟨rfl, hq29⟩
          refine ⟨_, rfl, ?_⟩
          have hm30 := hm12.call0 hq29
          refine Rn.v rfl rfl rfl rfl (V.mv rfl) (Rn.v rfl rfl rfl rfl (V.eql rfl rfl) (Rn.v rfl rfl rfl rfl (V.pkT rfl rfl) ?_))
          exact hk2 (decide (p29 = p11.2)) _ _ (Sub.cons rfl (Sub.cons rfl (Sub.nil _))) (hm30.pick [0] rfl (by decide)) hM
        · replace hM := iteF h28 hM
          refine Rn.no rfl rfl rfl rfl (Rn.no rfl rfl rfl rfl (Rn.no rfl rfl rfl rfl (Rn.no rfl rfl rfl rfl (Rn.no rfl rfl rfl rfl (Rn.v rfl rfl rfl rfl (V.pkF rfl rfl) ?_)))))
          exact hk2 false _ _ (Sub.cons rfl (Sub.cons rfl (Sub.nil _))) (hm12.pick [0] rfl (by decide)) hM
    intro hk1
    clear hj1
    refine Rn.partD (t := 14) rfl (fun h31 => ?_) (fun h31 => ?_)
    · replace hM := iteT h31 hM
      refine Rn.no rfl rfl rfl rfl (Rn.no rfl rfl rfl rfl (Rn.no rfl rfl rfl rfl (Rn.v rfl rfl rfl rfl (V.pkT rfl rfl) ?_)))
      exact hk1 true _ _ (Sub.cons rfl (Sub.cons rfl (Sub.cons rfl (Sub.nil _)))) (hm4.pick [0] rfl (by decide)) hM
    · replace hM := iteF h31 hM
      refine Rn.v rfl rfl rfl rfl (V.mv rfl) ?_
      obtain ⟨p32, e32, hM⟩ := bindE hM
      refine Rn.cl ck8 rfl rfl rfl rfl (m_limnographref11_Light_sim (Z0 := All) _ A1 c1 x1 (slR_all (hm4.get 0 rfl)) e32) ?_
      rintro _ w32 ⟨rfl, hq32⟩
      refine ⟨_, rfl, ?_⟩
      have hm33 := hm4.call0 hq32
      refine Rn.v rfl rfl rfl rfl (V.notB rfl) (Rn.v rfl rfl rfl rfl (V.pkF rfl rfl) ?_)
      exact hk1 (!p32) _ _ (Sub.cons rfl (Sub.cons rfl (Sub.cons rfl (Sub.nil _)))) (hm33.pick [0] rfl (by decide)) hM

set_option maxRecDepth 20000 in
theorem m_slices_Index_api_Pair_api_Pair_sim {Z0 : Nat → Prop} (w : World) (A0 : Option Addr) (c0 : Nat) (x0 : (List T_api_Pair)) (x1 : T_api_Pair) {r : Int} (f0 : (slR A0 c0 T_api_Pair.rep x0).H Z0 w) (hM : m_slices_Index_api_Pair_api_Pair x0 x1 = some r) :
    Calls Try.prog 42 #[.slice A0 (x0).length c0, .agg [Str (x1.Key), Str (x1.Val)].toArray] w fun x w' => x = .returned (.int .i64 (r)) ∧ Hp Z0 No w w' [] := by
  have hm0 := Hp.nil Z0 No w
  have hc0 := Calm.nil
  have hm2 := hm0.know (slR A0 c0 T_api_Pair.rep x0) (fun _ h => h) (hm0.in0 hc0 f0)
  replace hc0 := hc0.snoc (r := slR A0 c0 T_api_Pair.rep x0) (fun _ h => h)
  refine Rn.enter Try.func42 rfl rfl (Nat.le_of_ble_eq_true rfl) ?_
  refine Rn.seq (Rn.reg (Rn.box rfl rfl rfl rfl rfl ?_))
  intro b3 w3 hb3 m3 e3
  have hm5 : Hp Z0 No w w3 [slR A0 c0 T_api_Pair.rep x0, boxR b3 40 [Str (x1.Key), Str (x1.Val)]] := hm2.addBox hb3 e3 m3
  refine Rn.v rfl rfl rfl rfl (V.as rfl) (Rn.regEnd (Rn.seq (Rn.seq (Rn.reg (Rn.v rfl rfl rfl rfl (V.mv rfl) (Rn.v rfl rfl rfl rfl (V.lenV Try.underlying22 rfl) (Rn.v rfl rfl rfl rfl (V.mv rfl) (Rn.regEnd ?_))))))))
  obtain ⟨j1, hj1, hM⟩ := jnE hM
  refine Rn.joinG (r := r) (G := Unit) (fun g => []) (fun g w' => Hp Z0 No w w' [slR A0 c0 T_api_Pair.rep x0, boxR b3 40 [Str (x1.Key), Str (x1.Val)]]) (fun g => j1 ()) ?_ ?_
  · subst hj1
    clear hM
    rintro _ w6 hm6 hM
    replace hm6 : Hp Z0 No w w6 [slR A0 c0 T_api_Pair.rep x0, boxR b3 40 [Str (x1.Key), Str (x1.Val)]] := hm6
    show Rn _ _ _ _ _ [] _
    try dsimp only at hM
    refine Rn.seq (Rn.reg (Rn.v rfl rfl rfl rfl (V.as rfl) (Rn.regEnd ?_)))
    refine Rn.retG1 Try.func42 rfl (rvT rfl) ?_
    obtain rfl := someE hM
    exact ⟨rfl, hm6.pick [] rfl (by decide)⟩
  intro hk1
  clear hj1
  refine Rn.block ?_
  refine Rn.loopF (G := Int) (fun g => [(0, .slice A0 (x0).length c0), (3, .pointer (some ⟨b3, 0, none⟩)), (7, .int .i64 ((x0.length : Int))), (8, .int .i64 (g))]) (fun g w' => Hp Z0 No w w' [slR A0 c0 T_api_Pair.rep x0, boxR b3 40 [Str (x1.Key), Str (x1.Val)]]) (fun n g => m_slices_Index_api_Pair_api_Pair_L1 x0 x1 j1 n g) fuel 0 (Sub.cons rfl (Sub.cons rfl (Sub.cons rfl (Sub.cons rfl (Sub.nil _))))) (hm5.pick [0, 1] rfl (by decide)) hM (fun _ => rfl) ?_
  clear hM
  rintro m8 y7 w8 hm8 hM hn8
  replace hm8 : Hp Z0 No w w8 [slR A0 c0 T_api_Pair.rep x0, boxR b3 40 [Str (x1.Key), Str (x1.Val)]] := hm8
  show Rn _ _ _ _ _ [(0, .slice A0 (x0).length c0), (3, .pointer (some ⟨b3, 0, none⟩)), (7, .int .i64 ((x0.length : Int))), (8, .int .i64 (y7))] _
  replace hM : m_slices_Index_api_Pair_api_Pair_L1 x0 x1 j1 (m8 + 1) y7 = some r := hM
  rw [m_slices_Index_api_Pair_api_Pair_L1] at hM
  refine Rn.seq (Rn.reg (Rn.v rfl rfl rfl rfl (V.lss rfl rfl) (Rn.regEnd (Rn.seq ?_))))
  refine Rn.condD rfl (fun h9 => ?_) (fun h9 => ?_)
  · replace hM := iteT h9 hM
    refine Rn.skip (Rn.seq (Rn.block (Rn.seq (Rn.reg (Rn.v rfl rfl rfl rfl (V.mv rfl) (Rn.v rfl rfl rfl rfl (V.as rfl) (Rn.regEnd (Rn.seq ?_))))))))
    refine Rn.drawP rfl hm8 ?_
    intro w10 hm10
    refine RH.takeP 0 (by kernel_rfl) rfl rfl rfl rfl (V.ldBA _ Try.isAgg40 Try.sizeOf40 rfl (hm10.get 1 rfl) rfl rfl) ?_
    refine RH.takeP 1 (by kernel_rfl) rfl rfl rfl rfl (V.mv rfl) ?_
    refine RH.takeP 2 (by kernel_rfl) rfl rfl rfl rfl (V.mv rfl) ?_
    obtain ⟨z11, e11, hM⟩ := bindE hM
    obtain ⟨kk11, ke11, kz11, kl11⟩ := idxE e11
    obtain ⟨b11, o11, vs11, hA11, hD11, hR11, hrel11⟩ := Hp.at hm10 0 rfl kz11
    obtain ⟨_, _, rfl, ⟨rfl, _⟩, ⟨rfl, _⟩⟩ := hrel11
    have hm13 := hm10.knowRd hD11 hR11
    refine RH.takeP 3 (by kernel_rfl) rfl rfl rfl rfl (V.ixA' hA11 kk11 Try.underlying22 Try.sizeOf40 rfl rfl ke11 kl11) ?_
    refine RH.takeP 4 (by kernel_rfl) rfl rfl rfl rfl (V.ldA Try.isAgg40 Try.sizeOf40 rfl (Rd.pre (hm13.get 2 rfl).2 2) rfl) ?_
    refine RH.takeP 5 (by kernel_rfl) rfl rfl rfl rfl (V.eqlT Try.eqGuardType40 rfl rfl (eq40 _ _)) ?_
    refine RH.doneP (by kernel_rfl) ?_
    refine Rn.condD rfl (fun h14 => ?_) (fun h14 => ?_)
    · replace hM := iteT h14 hM
      refine Rn.seq (Rn.reg (Rn.v rfl rfl rfl rfl (V.mv rfl) (Rn.v rfl rfl rfl rfl (V.as rfl) (Rn.regEnd ?_))))
      refine Rn.retG1 Try.func42 rfl (rvT rfl) ?_
      obtain rfl := someE hM
      exact ⟨rfl, hm13.pick [] rfl (by decide)⟩
    · replace hM := iteF h14 hM
      refine Rn.skip (Rn.inBlock (Rn.reg (Rn.v rfl rfl rfl rfl (V.addW rfl rfl) (Rn.v rfl rfl rfl rfl (V.mv rfl) (Rn.regEnd ?_)))))
      exact hn8 (W64 (y7 + 1)) _ _ (Sub.cons rfl (Sub.cons rfl (Sub.cons rfl (Sub.cons rfl (Sub.nil _))))) (hm13.pick [0, 1] rfl (by decide)) hM
  · replace hM := iteF h9 hM
    refine Rn.exit rfl ?_
    exact hk1 () _ _ (Sub.nil _) (hm8.pick [0, 1] rfl (by decide)) hM

set_option maxRecDepth 20000 in
theorem m_slices_Contains_api_Pair_api_Pair_sim {Z0 : Nat → Prop} (w : World) (A0 : Option Addr) (c0 : Nat) (x0 : (List T_api_Pair)) (x1 : T_api_Pair) {r : Bool} (f0 : (slR A0 c0 T_api_Pair.rep x0).H Z0 w) (hM : m_slices_Contains_api_Pair_api_Pair x0 x1 = some r) :
    Calls Try.prog 35 #[.slice A0 (x0).length c0, .agg [Str (x1.Key), Str (x1.Val)].toArray] w fun x w' => x = .returned (.bool (r)) ∧ Hp Z0 No w w' [] := by
  have hm0 := Hp.nil Z0 No w
  have hc0 := Calm.nil
  have hm2 := hm0.know (slR A0 c0 T_api_Pair.rep x0) (fun _ h => h) (hm0.in0 hc0 f0)
  replace hc0 := hc0.snoc (r := slR A0 c0 T_api_Pair.rep x0) (fun _ h => h)
  refine Rn.enter Try.func35 rfl rfl (Nat.le_of_ble_eq_true rfl) ?_
  refine Rn.seq (Rn.reg (Rn.box rfl rfl rfl rfl rfl ?_))
  intro b3 w3 hb3 m3 e3
  have hm5 : Hp Z0 No w w3 [slR A0 c0 T_api_Pair.rep x0, boxR b3 40 [Str (x1.Key), Str (x1.Val)]] := hm2.addBox hb3 e3 m3
  refine Rn.v rfl rfl rfl rfl (V.as rfl) (Rn.regEnd (Rn.seq (Rn.reg (Rn.v rfl rfl rfl rfl (V.mv rfl) (Rn.v rfl rfl rfl rfl (V.ldBA _ Try.isAgg40 Try.sizeOf40 rfl (hm5.get 1 rfl) rfl rfl) ?_)))))
  obtain ⟨p6, e6, hM⟩ := bindE hM
  refine Rn.cl ck42 rfl rfl rfl rfl (m_slices_Index_api_Pair_api_Pair_sim (Z0 := All) _ A0 c0 x0 ({ Key := x1.Key, Val := x1.Val } : T_api_Pair) (slR_all (hm5.get 0 rfl)) e6) ?_
  rintro _ w6 ⟨rfl, hq6⟩
  refine ⟨_, rfl, ?_⟩
  have hm7 := hm5.call0 hq6
  refine Rn.v rfl rfl rfl rfl (V.geq rfl rfl) (Rn.v rfl rfl rfl rfl (V.as rfl) (Rn.regEnd ?_))
  refine Rn.retG1 Try.func35 rfl (rvT rfl) ?_
  obtain rfl := someE hM
  exact ⟨rfl, hm7.pick [] rfl (by decide)⟩

set_option maxRecDepth 20000 in
theorem m_label_Matches_sim {Z0 : Nat → Prop} (w : World) (x0 : (List UInt8)) (A1 : Option Addr) (c1 : Nat) (x1 : (List T_api_Pair)) (x2 : (List UInt8)) (A3 : Option Addr) (c3 : Nat) (x3 : (List T_api_Pair)) {r : Bool} (f0 : (slR A1 c1 T_api_Pair.rep x1).H Z0 w) (f1 : (slR A3 c3 T_api_Pair.rep x3).H Z0 w) (hM : m_label_Matches x0 x1 x2 x3 = some r) :
    Calls Try.prog 18 #[Str (x0), .slice A1 (x1).length c1, Str (x2), .slice A3 (x3).length c3] w fun x w' => x = .returned (.bool (r)) ∧ Hp Z0 No w w' [] := by
  have hm0 := Hp.nil Z0 No w
  have hc0 := Calm.nil
  have hm3 := hm0.know (slR A1 c1 T_api_Pair.rep x1) (fun _ h => h) (hm0.in0 hc0 f0)
  replace hc0 := hc0.snoc (r := slR A1 c1 T_api_Pair.rep x1) (fun _ h => h)
  have hm4 := hm3.know (slR A3 c3 T_api_Pair.rep x3) (fun _ h => h) (hm3.in0 hc0 f1)
  replace hc0 := hc0.snoc (r := slR A3 c3 T_api_Pair.rep x3) (fun _ h => h)
  refine Rn.enter Try.func18 rfl rfl (Nat.le_of_ble_eq_true rfl) ?_
  refine Rn.seq (Rn.reg (Rn.v rfl rfl rfl rfl (V.as rfl) (Rn.regEnd (Rn.seq (Rn.seq (Rn.reg (Rn.v rfl rfl rfl rfl (V.mv rfl) (Rn.v rfl rfl rfl rfl (V.mv rfl) ?_))))))))
  obtain ⟨p5, e5, hM⟩ := bindE hM
  refine Rn.cl ck11 rfl rfl rfl rfl (m_label_Check_sim (Z0 := All) _ x0 A1 c1 x1 (slR_all (hm4.get 0 rfl)) e5) ?_
  rintro _ w5 ⟨rfl, hq5⟩
  refine ⟨_, rfl, ?_⟩
  have hm6 := hm4.call0 hq5
  refine Rn.v rfl rfl rfl rfl (V.neq rfl rfl) (Rn.v rfl rfl rfl rfl (V.mv rfl) ?_)
  obtain ⟨j1, hj1, hM⟩ := jnE hM
  refine Rn.joinR (r := r) (G := Bool) [10, 11, 12, 13, 14] (fun g => [(0, Str (x0)), (1, .slice A1 (x1).length c1), (2, Str (x2)), (3, .slice A3 (x3).length c3), (20, .bool (g))]) (fun g w' => Hp Z0 No w w' [slR A1 c1 T_api_Pair.rep x1, slR A3 c3 T_api_Pair.rep x3]) (fun g => j1 g) ?_ ?_
  · subst hj1
    clear hM
    rintro y7 w8 hm8 hM
    replace hm8 : Hp Z0 No w w8 [slR A1 c1 T_api_Pair.rep x1, slR A3 c3 T_api_Pair.rep x3] := hm8
    show Rn _ _ _ _ _ [(0, Str (x0)), (1, .slice A1 (x1).length c1), (2, Str (x2)), (3, .slice A3 (x3).length c3), (20, .bool (y7))] _
    try dsimp only at hM
    refine Rn.v rfl rfl rfl rfl (V.mv rfl) ?_
    refine Rn.cutR [] [(1, .slice A1 (x1).length c1), (3, .slice A3 (x3).length c3), (25, .bool (decide ((y7 = true) ∨ (x0 ≠ x2))))] (fun hk9 => ?_) ?_
    · refine Rn.part (t := 21) rfl (fun h10 => ?_) (fun h10 => ?_)
      · refine Rn.no rfl rfl rfl rfl (Rn.no rfl rfl rfl rfl (Rn.no rfl rfl rfl rfl (Rn.v rfl rfl rfl rfl (V.pkT rfl rfl) ?_)))
        refine hk9 _ ?_
        exact Sub.cons rfl (Sub.cons rfl (Sub.cons (lkv _ rfl (by first | exact andT h10 | exact andF h10 | exact orT h10 | exact orF h10 | exact nandF h10 | exact nandT h10 | exact norT h10 | exact norF h10 | (simp [h10]; done) | grind)) (Sub.nil _)))
      · refine Rn.v rfl rfl rfl rfl (V.mv rfl) (Rn.v rfl rfl rfl rfl (V.mv rfl) (Rn.v rfl rfl rfl rfl (V.neqS rfl rfl) (Rn.v rfl rfl rfl rfl (V.pkF rfl rfl) ?_)))
        refine hk9 _ ?_
        exact Sub.cons rfl (Sub.cons rfl (Sub.cons (lkv _ rfl (by first | exact andT h10 | exact andF h10 | exact orT h10 | exact orF h10 | exact nandF h10 | exact nandT h10 | exact norT h10 | exact norF h10 | (simp [h10]; done) | grind)) (Sub.nil _)))
    refine Rn.regEnd ?_
    refine Rn.condD rfl (fun h11 => ?_) (fun h11 => ?_)
    · replace hM := iteT h11 hM
      refine Rn.seq (Rn.reg (Rn.v rfl rfl rfl rfl (V.as rfl) (Rn.regEnd ?_)))
      refine Rn.retG1 Try.func18 rfl (rvT rfl) ?_
      obtain rfl := someE hM
      exact ⟨rfl, hm8.pick [] rfl (by decide)⟩
    · replace hM := iteF h11 hM
      refine Rn.skip (Rn.seq (Rn.seq (Rn.reg (Rn.v rfl rfl rfl rfl (V.mv rfl) (Rn.v rfl rfl rfl rfl (V.lenV Try.underlying22 rfl) (Rn.v rfl rfl rfl rfl (V.mv rfl) (Rn.regEnd ?_)))))))
      obtain ⟨j2, hj2, hM⟩ := jnE hM
      refine Rn.joinG (r := r) (G := Unit) (fun g => []) (fun g w' => Hp Z0 No w w' [slR A1 c1 T_api_Pair.rep x1, slR A3 c3 T_api_Pair.rep x3]) (fun g => j2 ()) ?_ ?_
      · subst hj2
        clear hM
        rintro _ w12 hm12 hM
        replace hm12 : Hp Z0 No w w12 [slR A1 c1 T_api_Pair.rep x1, slR A3 c3 T_api_Pair.rep x3] := hm12
        show Rn _ _ _ _ _ [] _
        try dsimp only at hM
        refine Rn.seq (Rn.reg (Rn.v rfl rfl rfl rfl (V.as rfl) (Rn.regEnd ?_)))
        refine Rn.retG1 Try.func18 rfl (rvT rfl) ?_
        obtain rfl := someE hM
        exact ⟨rfl, hm12.pick [] rfl (by decide)⟩
      intro hk2
      clear hj2
      refine Rn.block ?_
      refine Rn.loopF (G := Int) (fun g => [(1, .slice A1 (x1).length c1), (26, .slice A3 (x3).length c3), (27, .int .i64 ((x3.length : Int))), (28, .int .i64 (g))]) (fun g w' => Hp Z0 No w w' [slR A1 c1 T_api_Pair.rep x1, slR A3 c3 T_api_Pair.rep x3]) (fun n g => m_label_Matches_L1 x1 x3 j2 n g) fuel 0 (Sub.cons rfl (Sub.cons rfl (Sub.cons rfl (Sub.cons rfl (Sub.nil _))))) (hm8.pick [0, 1] rfl (by decide)) hM (fun _ => rfl) ?_
      clear hM
      rintro m14 y13 w14 hm14 hM hn14
      replace hm14 : Hp Z0 No w w14 [slR A1 c1 T_api_Pair.rep x1, slR A3 c3 T_api_Pair.rep x3] := hm14
      show Rn _ _ _ _ _ [(1, .slice A1 (x1).length c1), (26, .slice A3 (x3).length c3), (27, .int .i64 ((x3.length : Int))), (28, .int .i64 (y13))] _
      replace hM : m_label_Matches_L1 x1 x3 j2 (m14 + 1) y13 = some r := hM
      rw [m_label_Matches_L1] at hM
      refine Rn.seq (Rn.reg (Rn.v rfl rfl rfl rfl (V.lss rfl rfl) (Rn.regEnd (Rn.seq ?_))))
      refine Rn.condD rfl (fun h15 => ?_) (fun h15 => ?_)
      · replace hM := iteT h15 hM
        refine Rn.skip (Rn.seq (Rn.block (Rn.seq (Rn.reg ?_))))
        obtain ⟨z16, e16, hM⟩ := bindE hM
        refine Rn.ixH hm14 1 rfl e16 rfl rfl rfl Try.underlying22 Try.sizeOf40 rfl rfl rfl rfl ?_
        rintro b16 o16 vs16 ⟨_, _, rfl, ⟨rfl, _⟩, ⟨rfl, _⟩⟩ hm16
        refine Rn.v rfl rfl rfl rfl (V.ldA Try.isAgg40 Try.sizeOf40 rfl (Rd.pre (hm16.get 2 rfl).2 2) rfl) (Rn.als rfl rfl rfl Try.zeroValue40 rfl Try.sizeOf40 rfl rfl rfl rfl (by first | exact ones rfl | (simp [Value.oneCell']; done)) ?_)
        intro b18 w18 hb18 m18 e18
        have hm20 : Hp Z0 No w w18 [slR A1 c1 T_api_Pair.rep x1, slR A3 c3 T_api_Pair.rep x3, rdR b16 o16 [Str (z16.Key), Str (z16.Val)], boxR b18 40 [Str (z16.Key), Str (z16.Val)]] := hm16.addBox hb18 e18 m18
        refine Rn.regEnd (Rn.seq (Rn.reg (Rn.v rfl rfl rfl rfl (V.mv rfl) (Rn.v rfl rfl rfl rfl (V.ldBA _ Try.isAgg40 Try.sizeOf40 rfl (hm20.get 3 rfl) rfl rfl) ?_))))
        obtain ⟨p21, e21, hM⟩ := bindE hM
        refine Rn.cl ck35 rfl rfl rfl rfl (m_slices_Contains_api_Pair_api_Pair_sim (Z0 := All) _ A1 c1 x1 ({ Key := z16.Key, Val := z16.Val } : T_api_Pair) (slR_all (hm20.get 0 rfl)) e21) ?_
        rintro _ w21 ⟨rfl, hq21⟩
        refine ⟨_, rfl, ?_⟩
        have hm22 := hm20.call0 hq21
        refine Rn.v rfl rfl rfl rfl (V.notB rfl) (Rn.regEnd ?_)
        refine Rn.condS rfl (fun h23 => ?_) (fun h23 => ?_)
        · replace hM := iteT h23 hM
          refine Rn.seq (Rn.reg (Rn.v rfl rfl rfl rfl (V.as rfl) (Rn.regEnd ?_)))
          refine Rn.retG1 Try.func18 rfl (rvT rfl) ?_
          obtain rfl := someE hM
          exact ⟨rfl, hm22.pick [] rfl (by decide)⟩
        · replace hM := iteF (by rw [h23]; exact Bool.false_ne_true) hM
          refine Rn.skip (Rn.inBlock (Rn.reg (Rn.v rfl rfl rfl rfl (V.addW rfl rfl) (Rn.v rfl rfl rfl rfl (V.mv rfl) (Rn.regEnd ?_)))))
          exact hn14 (W64 (y13 + 1)) _ _ (Sub.cons rfl (Sub.cons rfl (Sub.cons rfl (Sub.cons rfl (Sub.nil _))))) (hm22.pick [0, 1] rfl (by decide)) hM
      · replace hM := iteF h15 hM
        refine Rn.exit rfl ?_
        exact hk2 () _ _ (Sub.nil _) (hm14.pick [0, 1] rfl (by decide)) hM
  intro hk1
  clear hj1
  refine Rn.partD (t := 15) rfl (fun h24 => ?_) (fun h24 => ?_)
  · replace hM := iteT h24 hM
    refine Rn.no rfl rfl rfl rfl (Rn.no rfl rfl rfl rfl (Rn.no rfl rfl rfl rfl (Rn.no rfl rfl rfl rfl (Rn.v rfl rfl rfl rfl (V.pkT rfl rfl) ?_))))
    exact hk1 true _ _ (Sub.cons rfl (Sub.cons rfl (Sub.cons rfl (Sub.cons rfl (Sub.cons rfl (Sub.nil _)))))) (hm6.pick [0, 1] rfl (by decide)) hM
  · replace hM := iteF h24 hM
    refine Rn.v rfl rfl rfl rfl (V.mv rfl) (Rn.v rfl rfl rfl rfl (V.mv rfl) ?_)
    obtain ⟨p25, e25, hM⟩ := bindE hM
    refine Rn.cl ck11 rfl rfl rfl rfl (m_label_Check_sim (Z0 := All) _ x2 A3 c3 x3 (slR_all (hm6.get 1 rfl)) e25) ?_
    rintro _ w25 ⟨rfl, hq25⟩
    refine ⟨_, rfl, ?_⟩
    have hm26 := hm6.call0 hq25
    refine Rn.v rfl rfl rfl rfl (V.neq rfl rfl) (Rn.v rfl rfl rfl rfl (V.pkF rfl rfl) ?_)
    exact hk1 (decide (p25 ≠ 0)) _ _ (Sub.cons rfl (Sub.cons rfl (Sub.cons rfl (Sub.cons rfl (Sub.cons rfl (Sub.nil _)))))) (hm26.pick [0, 1] rfl (by decide)) hM

set_option maxRecDepth 20000 in
theorem m_limnographlaw11_LabelMatches_sim {Z0 : Nat → Prop} (w : World) (x0 : (List UInt8)) (A1 : Option Addr) (c1 : Nat) (x1 : (List T_api_Pair)) (x2 : (List UInt8)) (A3 : Option Addr) (c3 : Nat) (x3 : (List T_api_Pair)) {r : Bool} (f0 : (slR A1 c1 T_api_Pair.rep x1).H Z0 w) (f1 : (slR A3 c3 T_api_Pair.rep x3).H Z0 w) (hM : m_limnographlaw11_LabelMatches x0 x1 x2 x3 = some r) :
    Calls Try.prog 6 #[Str (x0), .slice A1 (x1).length c1, Str (x2), .slice A3 (x3).length c3] w fun x w' => x = .returned (.bool (r)) ∧ Hp Z0 No w w' [] := by
  have hm0 := Hp.nil Z0 No w
  have hc0 := Calm.nil
  have hm3 := hm0.know (slR A1 c1 T_api_Pair.rep x1) (fun _ h => h) (hm0.in0 hc0 f0)
  replace hc0 := hc0.snoc (r := slR A1 c1 T_api_Pair.rep x1) (fun _ h => h)
  have hm4 := hm3.know (slR A3 c3 T_api_Pair.rep x3) (fun _ h => h) (hm3.in0 hc0 f1)
  replace hc0 := hc0.snoc (r := slR A3 c3 T_api_Pair.rep x3) (fun _ h => h)
  refine Rn.enter Try.func6 rfl rfl (Nat.le_of_ble_eq_true rfl) ?_
  refine Rn.seq (Rn.reg (Rn.v rfl rfl rfl rfl (V.as rfl) (Rn.regEnd (Rn.seq (Rn.seq (Rn.reg ?_))))))
  obtain ⟨p5, e5, hM⟩ := bindE hM
  refine Rn.cl ck7 rfl rfl rfl rfl (m_limnographlaw11_awake_sim (Z0 := All) _   e5) ?_
  rintro _ w5 ⟨rfl, hq5⟩
  refine ⟨_, rfl, ?_⟩
  have hm6 := hm4.call0 hq5
  refine Rn.v rfl rfl rfl rfl (V.notB rfl) (Rn.regEnd ?_)
  refine Rn.condS rfl (fun h7 => ?_) (fun h7 => ?_)
  · replace hM := iteT h7 hM
    refine Rn.seq (Rn.reg (Rn.v rfl rfl rfl rfl (V.as rfl) (Rn.regEnd ?_)))
    refine Rn.retG1 Try.func6 rfl (rvT rfl) ?_
    obtain rfl := someE hM
    exact ⟨rfl, hm6.pick [] rfl (by decide)⟩
  · replace hM := iteF (by rw [h7]; exact Bool.false_ne_true) hM
    refine Rn.skip (Rn.seq (Rn.seq (Rn.reg (Rn.v rfl rfl rfl rfl (V.mv rfl) (Rn.v rfl rfl rfl rfl (V.lenS Try.underlying9 rfl) (Rn.v rfl rfl rfl rfl (V.gtr rfl rfl) (Rn.v rfl rfl rfl rfl (V.mv rfl) ?_)))))))
    refine Rn.cutR [8, 9, 10, 11, 12, 13, 14, 15, 16, 17] [(0, Str (x0)), (1, .slice A1 (x1).length c1), (2, Str (x2)), (3, .slice A3 (x3).length c3), (28, .bool (decide (((x0.length : Int) > 100) ∨ ((x2.length : Int) > 100))))] (fun hk8 => ?_) ?_
    · refine Rn.partD (t := 24) rfl (fun h9 => ?_) (fun h9 => ?_)
      · refine Rn.no rfl rfl rfl rfl (Rn.no rfl rfl rfl rfl (Rn.no rfl rfl rfl rfl (Rn.v rfl rfl rfl rfl (V.pkT rfl rfl) ?_)))
        refine hk8 _ ?_
        exact Sub.cons rfl (Sub.cons rfl (Sub.cons rfl (Sub.cons rfl (Sub.cons (lkv _ rfl (by first | exact andT h9 | exact andF h9 | exact orT h9 | exact orF h9 | exact nandF h9 | exact nandT h9 | exact norT h9 | exact norF h9 | (simp [h9]; done) | grind)) (Sub.nil _)))))
      · refine Rn.v rfl rfl rfl rfl (V.mv rfl) (Rn.v rfl rfl rfl rfl (V.lenS Try.underlying9 rfl) (Rn.v rfl rfl rfl rfl (V.gtr rfl rfl) (Rn.v rfl rfl rfl rfl (V.pkF rfl rfl) ?_)))
        refine hk8 _ ?_
        exact Sub.cons rfl (Sub.cons rfl (Sub.cons rfl (Sub.cons rfl (Sub.cons (lkv _ rfl (by first | exact andT h9 | exact andF h9 | exact orT h9 | exact orF h9 | exact nandF h9 | exact nandT h9 | exact norT h9 | exact norF h9 | (simp [h9]; done) | grind)) (Sub.nil _)))))
    refine Rn.v rfl rfl rfl rfl (V.mv rfl) ?_
    obtain ⟨j1, hj1, hM⟩ := jnE hM
    refine Rn.joinR (r := r) (G := Bool) [13, 14, 15, 16, 17] (fun g => [(0, Str (x0)), (1, .slice A1 (x1).length c1), (2, Str (x2)), (3, .slice A3 (x3).length c3), (33, .bool (g))]) (fun g w' => Hp Z0 No w w' [slR A1 c1 T_api_Pair.rep x1, slR A3 c3 T_api_Pair.rep x3]) (fun g => j1 g) ?_ ?_
    · subst hj1
      clear hM
      rintro y10 w11 hm11 hM
      replace hm11 : Hp Z0 No w w11 [slR A1 c1 T_api_Pair.rep x1, slR A3 c3 T_api_Pair.rep x3] := hm11
      show Rn _ _ _ _ _ [(0, Str (x0)), (1, .slice A1 (x1).length c1), (2, Str (x2)), (3, .slice A3 (x3).length c3), (33, .bool (y10))] _
      try dsimp only at hM
      refine Rn.v rfl rfl rfl rfl (V.mv rfl) ?_
      obtain ⟨j2, hj2, hM⟩ := jnE hM
      refine Rn.joinR (r := r) (G := Bool) [] (fun g => [(0, Str (x0)), (1, .slice A1 (x1).length c1), (2, Str (x2)), (3, .slice A3 (x3).length c3), (38, .bool (g))]) (fun g w' => Hp Z0 No w w' [slR A1 c1 T_api_Pair.rep x1, slR A3 c3 T_api_Pair.rep x3]) (fun g => j2 g) ?_ ?_
      · subst hj2
        clear hM
        rintro y12 w13 hm13 hM
        replace hm13 : Hp Z0 No w w13 [slR A1 c1 T_api_Pair.rep x1, slR A3 c3 T_api_Pair.rep x3] := hm13
        show Rn _ _ _ _ _ [(0, Str (x0)), (1, .slice A1 (x1).length c1), (2, Str (x2)), (3, .slice A3 (x3).length c3), (38, .bool (y12))] _
        try dsimp only at hM
        refine Rn.regEnd ?_
        refine Rn.condS rfl (fun h14 => ?_) (fun h14 => ?_)
        · replace hM := iteT h14 hM
          refine Rn.seq (Rn.reg (Rn.v rfl rfl rfl rfl (V.as rfl) (Rn.regEnd ?_)))
          refine Rn.retG1 Try.func6 rfl (rvT rfl) ?_
          obtain rfl := someE hM
          exact ⟨rfl, hm13.pick [] rfl (by decide)⟩
        · replace hM := iteF (by rw [h14]; exact Bool.false_ne_true) hM
          refine Rn.skip (Rn.seq (Rn.reg (Rn.v rfl rfl rfl rfl (V.mv rfl) (Rn.v rfl rfl rfl rfl (V.mv rfl) ?_))))
          obtain ⟨p15, e15, hM⟩ := bindE hM
          refine Rn.cl ck17 rfl rfl rfl rfl (m_limnographref11_Check_sim (Z0 := All) _ x0 A1 c1 x1 (slR_all (hm13.get 0 rfl)) e15) ?_
          rintro _ w15 ⟨rfl, hq15⟩
          refine ⟨_, rfl, ?_⟩
          have hm16 := hm13.call0 hq15
          refine Rn.v rfl rfl rfl rfl (V.eql rfl rfl) (Rn.v rfl rfl rfl rfl (V.mv rfl) ?_)
          obtain ⟨j3, hj3, hM⟩ := jnE hM
          refine Rn.joinR (r := r) (G := Bool) [10, 11, 12, 13, 14, 15] (fun g => [(0, Str (x0)), (1, .slice A1 (x1).length c1), (2, Str (x2)), (3, .slice A3 (x3).length c3), (48, .bool (g))]) (fun g w' => Hp Z0 No w w' [slR A1 c1 T_api_Pair.rep x1, slR A3 c3 T_api_Pair.rep x3]) (fun g => j3 g) ?_ ?_
          · subst hj3
            clear hM
            rintro y17 w18 hm18 hM
            replace hm18 : Hp Z0 No w w18 [slR A1 c1 T_api_Pair.rep x1, slR A3 c3 T_api_Pair.rep x3] := hm18
            show Rn _ _ _ _ _ [(0, Str (x0)), (1, .slice A1 (x1).length c1), (2, Str (x2)), (3, .slice A3 (x3).length c3), (48, .bool (y17))] _
            try dsimp only at hM
            refine Rn.v rfl rfl rfl rfl (V.mv rfl) ?_
            refine Rn.cutR [15] [(0, Str (x0)), (1, .slice A1 (x1).length c1), (2, Str (x2)), (3, .slice A3 (x3).length c3), (53, .bool (decide ((y17 = true) ∧ (x0 = x2))))] (fun hk19 => ?_) ?_
            · refine Rn.part (t := 49) rfl (fun h20 => ?_) (fun h20 => ?_)
              · refine Rn.v rfl rfl rfl rfl (V.mv rfl) (Rn.v rfl rfl rfl rfl (V.mv rfl) (Rn.v rfl rfl rfl rfl (V.eqlS rfl rfl) (Rn.v rfl rfl rfl rfl (V.pkT rfl rfl) ?_)))
                refine hk19 _ ?_
                exact Sub.cons rfl (Sub.cons rfl (Sub.cons rfl (Sub.cons rfl (Sub.cons (lkv _ rfl (by first | exact andT h20 | exact andF h20 | exact orT h20 | exact orF h20 | exact nandF h20 | exact nandT h20 | exact norT h20 | exact norF h20 | (simp [h20]; done) | grind)) (Sub.nil _)))))
              · refine Rn.no rfl rfl rfl rfl (Rn.no rfl rfl rfl rfl (Rn.no rfl rfl rfl rfl (Rn.v rfl rfl rfl rfl (V.pkF rfl rfl) ?_)))
                refine hk19 _ ?_
                exact Sub.cons rfl (Sub.cons rfl (Sub.cons rfl (Sub.cons rfl (Sub.cons (lkv _ rfl (by first | exact andT h20 | exact andF h20 | exact orT h20 | exact orF h20 | exact nandF h20 | exact nandT h20 | exact norT h20 | exact norF h20 | (simp [h20]; done) | grind)) (Sub.nil _)))))
            refine Rn.v rfl rfl rfl rfl (V.as rfl) (Rn.regEnd (Rn.seq (Rn.seq (Rn.reg (Rn.v rfl rfl rfl rfl (V.as rfl) (Rn.regEnd ?_))))))
            obtain ⟨j4, hj4, hM⟩ := jnE hM
            refine Rn.joinG (r := r) (G := Bool) (fun g => [(0, Str (x0)), (1, .slice A1 (x1).length c1), (2, Str (x2)), (3, .slice A3 (x3).length c3), (9, .bool (g))]) (fun g w' => Hp Z0 No w w' [slR A1 c1 T_api_Pair.rep x1, slR A3 c3 T_api_Pair.rep x3]) (fun g => j4 g) ?_ ?_
            · subst hj4
              clear hM
              rintro y21 w22 hm22 hM
              replace hm22 : Hp Z0 No w w22 [slR A1 c1 T_api_Pair.rep x1, slR A3 c3 T_api_Pair.rep x3] := hm22
              show Rn _ _ _ _ _ [(0, Str (x0)), (1, .slice A1 (x1).length c1), (2, Str (x2)), (3, .slice A3 (x3).length c3), (9, .bool (y21))] _
              try dsimp only at hM
              refine Rn.seq (Rn.reg (Rn.v rfl rfl rfl rfl (V.mv rfl) (Rn.v rfl rfl rfl rfl (V.mv rfl) (Rn.v rfl rfl rfl rfl (V.mv rfl) (Rn.v rfl rfl rfl rfl (V.mv rfl) ?_)))))
              obtain ⟨p23, e23, hM⟩ := bindE hM
              refine Rn.cl ck18 rfl rfl rfl rfl (m_label_Matches_sim (Z0 := All) _ x0 A1 c1 x1 x2 A3 c3 x3 (slR_all (hm22.get 0 rfl)) (slR_all (hm22.get 1 rfl)) e23) ?_
              rintro _ w23 ⟨rfl, hq23⟩
              refine ⟨_, rfl, ?_⟩
              have hm24 := hm22.call0 hq23
              refine Rn.v rfl rfl rfl rfl (V.as rfl) (Rn.regEnd (Rn.seq (Rn.reg (Rn.v rfl rfl rfl rfl (V.mv rfl) (Rn.v rfl rfl rfl rfl (V.mv rfl) (Rn.v rfl rfl rfl rfl (V.mv rfl) (Rn.v rfl rfl rfl rfl (V.mv rfl) ?_)))))))
              obtain ⟨p25, e25, hM⟩ := bindE hM
              refine Rn.cl ck18 rfl rfl rfl rfl (m_label_Matches_sim (Z0 := All) _ x2 A3 c3 x3 x0 A1 c1 x1 (slR_all (hm24.get 1 rfl)) (slR_all (hm24.get 0 rfl)) e25) ?_
              rintro _ w25 ⟨rfl, hq25⟩
              refine ⟨_, rfl, ?_⟩
              have hm26 := hm24.call0 hq25
              refine Rn.v rfl rfl rfl rfl (V.as rfl) (Rn.regEnd (Rn.seq (Rn.reg (Rn.v rfl rfl rfl rfl (V.mv rfl) (Rn.v rfl rfl rfl rfl (V.mv rfl) ?_)))))
              obtain ⟨p27, e27, hM⟩ := bindE hM
              refine Rn.cl ck9 rfl rfl rfl rfl (m_label_Text_sim (Z0 := All) _ x0 A1 c1 x1 (slR_all (hm26.get 0 rfl)) e27) ?_
              rintro _ w27 ⟨rfl, hq27⟩
              refine ⟨_, rfl, ?_⟩
              have hm28 := hm26.call0 hq27
              refine Rn.v rfl rfl rfl rfl (V.mv rfl) (Rn.v rfl rfl rfl rfl (V.ext rfl rfl) (Rn.v rfl rfl rfl rfl (V.ext rfl rfl) (Rn.v rfl rfl rfl rfl (V.as rfl) (Rn.v rfl rfl rfl rfl (V.as rfl) (Rn.regEnd (Rn.seq (Rn.reg (Rn.v rfl rfl rfl rfl (V.mv rfl) (Rn.v rfl rfl rfl rfl (V.mv rfl) ?_)))))))))
              obtain ⟨p29, e29, hM⟩ := bindE hM
              refine Rn.cl ck9 rfl rfl rfl rfl (m_label_Text_sim (Z0 := All) _ x2 A3 c3 x3 (slR_all (hm28.get 1 rfl)) e29) ?_
              rintro _ w29 ⟨rfl, hq29⟩
              refine ⟨_, rfl, ?_⟩
              have hm30 := hm28.call0 hq29
              refine Rn.v rfl rfl rfl rfl (V.mv rfl) (Rn.v rfl rfl rfl rfl (V.ext rfl rfl) (Rn.v rfl rfl rfl rfl (V.ext rfl rfl) (Rn.v rfl rfl rfl rfl (V.as rfl) (Rn.v rfl rfl rfl rfl (V.as rfl) (Rn.regEnd (Rn.seq (Rn.reg (Rn.v rfl rfl rfl rfl (V.mv rfl) (Rn.v rfl rfl rfl rfl (V.mv rfl) (Rn.v rfl rfl rfl rfl (V.eqlB Try.underlying4 rfl rfl) (Rn.v rfl rfl rfl rfl (V.mv rfl) ?_)))))))))))
              refine Rn.cutR [21] [(124, .bool (decide ((p23 = y21) ∧ (decide ((p23 = true) ∧ (p25 = true)) = decide (((p27.2 = 0) ∧ (p29.2 = 0)) ∧ (p27.1 = p29.1))))))] (fun hk31 => ?_) ?_
              · refine Rn.partD (t := 107) rfl (fun h32 => ?_) (fun h32 => ?_)
                · refine Rn.v rfl rfl rfl rfl (V.mv rfl) (Rn.v rfl rfl rfl rfl (V.mv rfl) ?_)
                  refine Rn.cutR [8, 9, 10, 11, 12, 13, 14, 15, 16, 17, 18, 19, 20, 21] [(15, Str (p27.1)), (16, .int .i64 (p27.2)), (17, Str (p29.1)), (18, .int .i64 (p29.2)), (107, .bool true), (111, .bool (decide ((p23 = true) ∧ (p25 = true))))] (fun hk33 => ?_) ?_
                  · refine Rn.part (t := 109) rfl (fun h34 => ?_) (fun h34 => ?_)
                    · refine Rn.v rfl rfl rfl rfl (V.mv rfl) (Rn.v rfl rfl rfl rfl (V.pkT rfl rfl) ?_)
                      refine hk33 _ ?_
                      exact Sub.cons rfl (Sub.cons rfl (Sub.cons rfl (Sub.cons rfl (Sub.cons rfl (Sub.cons (lkv _ rfl (by first | exact andT h34 | exact andF h34 | exact orT h34 | exact orF h34 | exact nandF h34 | exact nandT h34 | exact norT h34 | exact norF h34 | (simp [h34]; done) | grind)) (Sub.nil _))))))
                    · refine Rn.no rfl rfl rfl rfl (Rn.v rfl rfl rfl rfl (V.pkF rfl rfl) ?_)
                      refine hk33 _ ?_
                      exact Sub.cons rfl (Sub.cons rfl (Sub.cons rfl (Sub.cons rfl (Sub.cons rfl (Sub.cons (lkv _ rfl (by first | exact andT h34 | exact andF h34 | exact orT h34 | exact orF h34 | exact nandF h34 | exact nandT h34 | exact norT h34 | exact norF h34 | (simp [h34]; done) | grind)) (Sub.nil _))))))
                  refine Rn.v rfl rfl rfl rfl (V.mv rfl) (Rn.v rfl rfl rfl rfl (V.eql rfl rfl) (Rn.v rfl rfl rfl rfl (V.mv rfl) ?_))
                  refine Rn.cutR [14, 15, 16, 17, 18, 19, 20, 21] [(15, Str (p27.1)), (17, Str (p29.1)), (107, .bool true), (111, .bool (decide ((p23 = true) ∧ (p25 = true)))), (117, .bool (decide ((p27.2 = 0) ∧ (p29.2 = 0))))] (fun hk35 => ?_) ?_
                  · refine Rn.partD (t := 114) rfl (fun h36 => ?_) (fun h36 => ?_)
                    · refine Rn.v rfl rfl rfl rfl (V.mv rfl) (Rn.v rfl rfl rfl rfl (V.eql rfl rfl) (Rn.v rfl rfl rfl rfl (V.pkT rfl rfl) ?_))
                      refine hk35 _ ?_
                      exact Sub.cons rfl (Sub.cons rfl (Sub.cons rfl (Sub.cons rfl (Sub.cons (lkv _ rfl (by first | exact andT h36 | exact andF h36 | exact orT h36 | exact orF h36 | exact nandF h36 | exact nandT h36 | exact norT h36 | exact norF h36 | (simp [h36]; done) | grind)) (Sub.nil _)))))
                    · refine Rn.no rfl rfl rfl rfl (Rn.no rfl rfl rfl rfl (Rn.v rfl rfl rfl rfl (V.pkF rfl rfl) ?_))
                      refine hk35 _ ?_
                      exact Sub.cons rfl (Sub.cons rfl (Sub.cons rfl (Sub.cons rfl (Sub.cons (lkv _ rfl (by first | exact andT h36 | exact andF h36 | exact orT h36 | exact orF h36 | exact nandF h36 | exact nandT h36 | exact norT h36 | exact norF h36 | (simp [h36]; done) | grind)) (Sub.nil _)))))
                  refine Rn.v rfl rfl rfl rfl (V.mv rfl) ?_
                  refine Rn.cutR [19, 20, 21] [(107, .bool true), (111, .bool (decide ((p23 = true) ∧ (p25 = true)))), (122, .bool (decide (((p27.2 = 0) ∧ (p29.2 = 0)) ∧ (p27.1 = p29.1))))] (fun hk37 => ?_) ?_
                  · refine Rn.partD (t := 118) rfl (fun h38 => ?_) (fun h38 => ?_)
                    · refine Rn.v rfl rfl rfl rfl (V.mv rfl) (Rn.v rfl rfl rfl rfl (V.mv rfl) (Rn.v rfl rfl rfl rfl (V.eqlS rfl rfl) (Rn.v rfl rfl rfl rfl (V.pkT rfl rfl) ?_)))
                      refine hk37 _ ?_
                      exact Sub.cons rfl (Sub.cons rfl (Sub.cons (lkv _ rfl (by first | exact andT h38 | exact andF h38 | exact orT h38 | exact orF h38 | exact nandF h38 | exact nandT h38 | exact norT h38 | exact norF h38 | (simp [h38]; done) | grind)) (Sub.nil _)))
                    · refine Rn.no rfl rfl rfl rfl (Rn.no rfl rfl rfl rfl (Rn.no rfl rfl rfl rfl (Rn.v rfl rfl rfl rfl (V.pkF rfl rfl) ?_)))
                      refine hk37 _ ?_
                      exact Sub.cons rfl (Sub.cons rfl (Sub.cons (lkv _ rfl (by first | exact andT h38 | exact andF h38 | exact orT h38 | exact orF h38 | exact nandF h38 | exact nandT h38 | exact norT h38 | exact norF h38 | (simp [h38]; done) | grind)) (Sub.nil _)))
                  refine Rn.v rfl rfl rfl rfl (V.eqlB Try.underlying4 rfl rfl) (Rn.v rfl rfl rfl rfl (V.pkT rfl rfl) ?_)
                  refine hk31 _ ?_
                  exact Sub.cons (lkv _ rfl (by first | exact andT h32 | exact andF h32 | exact orT h32 | exact orF h32 | exact nandF h32 | exact nandT h32 | exact norT h32 | exact norF h32 | (simp [h32]; done) | grind)) (Sub.nil _)
                · refine Rn.no rfl rfl rfl rfl (Rn.no rfl rfl rfl rfl (Rn.no rfl rfl rfl rfl (Rn.no rfl rfl rfl rfl (Rn.no rfl rfl rfl rfl (Rn.no rfl rfl rfl rfl (Rn.no rfl rfl rfl rfl (Rn.no rfl rfl rfl rfl (Rn.no rfl rfl rfl rfl (Rn.no rfl rfl rfl rfl (Rn.no rfl rfl rfl rfl (Rn.no rfl rfl rfl rfl (Rn.no rfl rfl rfl rfl (Rn.no rfl rfl rfl rfl (Rn.no rfl rfl rfl rfl (Rn.no rfl rfl rfl rfl (Rn.v rfl rfl rfl rfl (V.pkF rfl rfl) ?_))))))))))))))))
                  refine hk31 _ ?_
                  exact Sub.cons (lkv _ rfl (by first | exact andT h32 | exact andF h32 | exact orT h32 | exact orF h32 | exact nandF h32 | exact nandT h32 | exact norT h32 | exact norF h32 | (simp [h32]; done) | grind)) (Sub.nil _)
              refine Rn.v rfl rfl rfl rfl (V.as rfl) (Rn.regEnd ?_)
              refine Rn.retG1 Try.func6 rfl (rvT rfl) ?_
              obtain rfl := someE hM
              exact ⟨rfl, hm30.pick [] rfl (by decide)⟩
            intro hk4
            clear hj4
            refine Rn.block ?_
            refine Rn.loopF (G := Bool × Int) (fun g => [(0, Str (x0)), (1, .slice A1 (x1).length c1), (2, Str (x2)), (3, .slice A3 (x3).length c3), (9, .bool ((g.1))), (10, .int .i64 ((g.2)))]) (fun g w' => Hp Z0 No w w' [slR A1 c1 T_api_Pair.rep x1, slR A3 c3 T_api_Pair.rep x3]) (fun n g => m_limnographlaw11_LabelMatches_L1 x1 x3 j4 n g.1 g.2) fuel ((decide ((y17 = true) ∧ (x0 = x2))), 0) (Sub.cons rfl (Sub.cons rfl (Sub.cons rfl (Sub.cons rfl (Sub.cons rfl (Sub.cons rfl (Sub.nil _))))))) (hm18.pick [0, 1] rfl (by decide)) hM (fun _ => rfl) ?_
            clear hM
            rintro m41 ⟨y39, y40⟩ w41 hm41 hM hn41
            replace hm41 : Hp Z0 No w w41 [slR A1 c1 T_api_Pair.rep x1, slR A3 c3 T_api_Pair.rep x3] := hm41
            show Rn _ _ _ _ _ [(0, Str (x0)), (1, .slice A1 (x1).length c1), (2, Str (x2)), (3, .slice A3 (x3).length c3), (9, .bool (y39)), (10, .int .i64 (y40))] _
            replace hM : m_limnographlaw11_LabelMatches_L1 x1 x3 j4 (m41 + 1) y39 y40 = some r := hM
            rw [m_limnographlaw11_LabelMatches_L1] at hM
            refine Rn.seq (Rn.seq (Rn.reg (Rn.v rfl rfl rfl rfl (V.mv rfl) (Rn.v rfl rfl rfl rfl (V.mv rfl) (Rn.v rfl rfl rfl rfl (V.lenV Try.underlying22 rfl) (Rn.v rfl rfl rfl rfl (V.lss rfl rfl) (Rn.regEnd ?_)))))))
            refine Rn.condD rfl (fun h42 => ?_) (fun h42 => ?_)
            · replace hM := iteT h42 hM
              refine Rn.skip (Rn.seq (Rn.block (Rn.seq (Rn.reg (Rn.v rfl rfl rfl rfl (V.as rfl) (Rn.regEnd (Rn.seq (Rn.seq (Rn.reg (Rn.v rfl rfl rfl rfl (V.as rfl) (Rn.regEnd ?_)))))))))))
              obtain ⟨j5, hj5, hM⟩ := jnE hM
              refine Rn.joinG (r := r) (G := Bool) (fun g => [(0, Str (x0)), (1, .slice A1 (x1).length c1), (2, Str (x2)), (3, .slice A3 (x3).length c3), (9, .bool (y39)), (10, .int .i64 (y40)), (11, .bool (g))]) (fun g w' => Hp Z0 No w w' [slR A1 c1 T_api_Pair.rep x1, slR A3 c3 T_api_Pair.rep x3]) (fun g => j5 g) ?_ ?_
              · subst hj5
                clear hM
                rintro y43 w44 hm44 hM
                replace hm44 : Hp Z0 No w w44 [slR A1 c1 T_api_Pair.rep x1, slR A3 c3 T_api_Pair.rep x3] := hm44
                show Rn _ _ _ _ _ [(0, Str (x0)), (1, .slice A1 (x1).length c1), (2, Str (x2)), (3, .slice A3 (x3).length c3), (9, .bool (y39)), (10, .int .i64 (y40)), (11, .bool (y43))] _
                try dsimp only at hM
                refine Rn.reg (Rn.v rfl rfl rfl rfl (V.mv rfl) (Rn.v rfl rfl rfl rfl (V.mv rfl) ?_))
                refine Rn.cutR [4] [(0, Str (x0)), (1, .slice A1 (x1).length c1), (2, Str (x2)), (3, .slice A3 (x3).length c3), (10, .int .i64 (y40)), (81, .bool (decide ((y39 = true) ∧ (y43 = true))))] (fun hk45 => ?_) ?_
                · refine Rn.part (t := 79) rfl (fun h46 => ?_) (fun h46 => ?_)
                  · refine Rn.v rfl rfl rfl rfl (V.mv rfl) (Rn.v rfl rfl rfl rfl (V.pkT rfl rfl) ?_)
                    refine hk45 _ ?_
                    exact Sub.cons rfl (Sub.cons rfl (Sub.cons rfl (Sub.cons rfl (Sub.cons rfl (Sub.cons (lkv _ rfl (by first | exact andT h46 | exact andF h46 | exact orT h46 | exact orF h46 | exact nandF h46 | exact nandT h46 | exact norT h46 | exact norF h46 | (simp [h46]; done) | grind)) (Sub.nil _))))))
                  · refine Rn.no rfl rfl rfl rfl (Rn.v rfl rfl rfl rfl (V.pkF rfl rfl) ?_)
                    refine hk45 _ ?_
                    exact Sub.cons rfl (Sub.cons rfl (Sub.cons rfl (Sub.cons rfl (Sub.cons rfl (Sub.cons (lkv _ rfl (by first | exact andT h46 | exact andF h46 | exact orT h46 | exact orF h46 | exact nandF h46 | exact nandT h46 | exact norT h46 | exact norF h46 | (simp [h46]; done) | grind)) (Sub.nil _))))))
                refine Rn.v rfl rfl rfl rfl (V.as rfl) (Rn.regEnd (Rn.inBlock (Rn.reg (Rn.v rfl rfl rfl rfl (V.mv rfl) (Rn.v rfl rfl rfl rfl (V.addW rfl rfl) (Rn.v rfl rfl rfl rfl (V.as rfl) (Rn.regEnd ?_)))))))
                exact hn41 ((decide ((y39 = true) ∧ (y43 = true))), (W64 (y40 + 1))) _ _ (Sub.cons rfl (Sub.cons rfl (Sub.cons rfl (Sub.cons rfl (Sub.cons rfl (Sub.cons rfl (Sub.nil _))))))) (hm44.pick [0, 1] rfl (by decide)) hM
              intro hk5
              clear hj5
              refine Rn.block ?_
              refine Rn.loopF (G := Bool × Int) (fun g => [(0, Str (x0)), (1, .slice A1 (x1).length c1), (2, Str (x2)), (3, .slice A3 (x3).length c3), (9, .bool (y39)), (10, .int .i64 (y40)), (11, .bool ((g.1))), (12, .int .i64 ((g.2)))]) (fun g w' => Hp Z0 No w w' [slR A1 c1 T_api_Pair.rep x1, slR A3 c3 T_api_Pair.rep x3]) (fun n g => m_limnographlaw11_LabelMatches_L2 x1 x3 y40 j5 n g.1 g.2) fuel (false, 0) (Sub.cons rfl (Sub.cons rfl (Sub.cons rfl (Sub.cons rfl (Sub.cons rfl (Sub.cons rfl (Sub.cons rfl (Sub.cons rfl (Sub.nil _))))))))) (hm41.pick [0, 1] rfl (by decide)) hM (fun _ => rfl) ?_
              clear hM
              rintro m49 ⟨y47, y48⟩ w49 hm49 hM hn49
              replace hm49 : Hp Z0 No w w49 [slR A1 c1 T_api_Pair.rep x1, slR A3 c3 T_api_Pair.rep x3] := hm49
              show Rn _ _ _ _ _ [(0, Str (x0)), (1, .slice A1 (x1).length c1), (2, Str (x2)), (3, .slice A3 (x3).length c3), (9, .bool (y39)), (10, .int .i64 (y40)), (11, .bool (y47)), (12, .int .i64 (y48))] _
              replace hM : m_limnographlaw11_LabelMatches_L2 x1 x3 y40 j5 (m49 + 1) y47 y48 = some r := hM
              rw [m_limnographlaw11_LabelMatches_L2] at hM
              refine Rn.seq (Rn.seq (Rn.reg (Rn.v rfl rfl rfl rfl (V.mv rfl) (Rn.v rfl rfl rfl rfl (V.mv rfl) (Rn.v rfl rfl rfl rfl (V.lenV Try.underlying22 rfl) (Rn.v rfl rfl rfl rfl (V.lss rfl rfl) (Rn.regEnd ?_)))))))
              refine Rn.condD rfl (fun h50 => ?_) (fun h50 => ?_)
              · replace hM := iteT h50 hM
                refine Rn.skip (Rn.seq (Rn.block ?_))
                obtain ⟨j6, hj6, hM⟩ := jnE hM
                refine Rn.joinG (r := r) (G := Bool) (fun g => [(0, Str (x0)), (1, .slice A1 (x1).length c1), (2, Str (x2)), (3, .slice A3 (x3).length c3), (9, .bool (y39)), (10, .int .i64 (y40)), (11, .bool (g)), (12, .int .i64 (y48))]) (fun g w' => Hp Z0 No w w' [slR A1 c1 T_api_Pair.rep x1, slR A3 c3 T_api_Pair.rep x3]) (fun g => j6 g) ?_ ?_
                · subst hj6
                  clear hM
                  rintro y51 w52 hm52 hM
                  replace hm52 : Hp Z0 No w w52 [slR A1 c1 T_api_Pair.rep x1, slR A3 c3 T_api_Pair.rep x3] := hm52
                  show Rn _ _ _ _ _ [(0, Str (x0)), (1, .slice A1 (x1).length c1), (2, Str (x2)), (3, .slice A3 (x3).length c3), (9, .bool (y39)), (10, .int .i64 (y40)), (11, .bool (y51)), (12, .int .i64 (y48))] _
                  try dsimp only at hM
                  refine Rn.inBlock (Rn.reg (Rn.v rfl rfl rfl rfl (V.mv rfl) (Rn.v rfl rfl rfl rfl (V.addW rfl rfl) (Rn.v rfl rfl rfl rfl (V.as rfl) (Rn.regEnd ?_)))))
                  exact hn49 (y51, (W64 (y48 + 1))) _ _ (Sub.cons rfl (Sub.cons rfl (Sub.cons rfl (Sub.cons rfl (Sub.cons rfl (Sub.cons rfl (Sub.cons rfl (Sub.cons rfl (Sub.nil _))))))))) (hm52.pick [0, 1] rfl (by decide)) hM
                intro hk6
                clear hj6
                refine Rn.drawP rfl hm49 ?_
                intro w53 hm53
                refine RH.takeP 0 (by kernel_rfl) rfl rfl rfl rfl (V.mv rfl) ?_
                refine RH.takeP 1 (by kernel_rfl) rfl rfl rfl rfl (V.mv rfl) ?_
                refine RH.part (t := 67) rfl (fun h54 => ?_) (fun h54 => ?_)
                · replace hM := iteT h54 hM
                  refine RH.no 2 (by kernel_rfl) rfl rfl rfl rfl ?_
                  refine RH.no 3 (by kernel_rfl) rfl rfl rfl rfl ?_
                  refine RH.no 4 (by kernel_rfl) rfl rfl rfl rfl ?_
                  refine RH.no 5 (by kernel_rfl) rfl rfl rfl rfl ?_
                  refine RH.no 6 (by kernel_rfl) rfl rfl rfl rfl ?_
                  refine RH.no 7 (by kernel_rfl) rfl rfl rfl rfl ?_
                  refine RH.no 8 (by kernel_rfl) rfl rfl rfl rfl ?_
                  refine RH.no 9 (by kernel_rfl) rfl rfl rfl rfl ?_
                  refine RH.no 10 (by kernel_rfl) rfl rfl rfl rfl ?_
                  refine RH.takeP 11 (by kernel_rfl) rfl rfl rfl rfl (V.pkT rfl rfl) ?_
                  refine RH.takeP 12 (by kernel_rfl) rfl rfl rfl rfl (V.as rfl) ?_
                  refine RH.doneP (by kernel_rfl) ?_
                  exact hk6 true _ _ (Sub.cons rfl (Sub.cons rfl (Sub.cons rfl (Sub.cons rfl (Sub.cons rfl (Sub.cons rfl (Sub.cons rfl (Sub.cons rfl (Sub.nil _))))))))) (hm53.pick [0, 1] rfl (by decide)) hM
                · replace hM := iteF (by rw [h54]; exact Bool.false_ne_true) hM
                  refine RH.takeP 2 (by kernel_rfl) rfl rfl rfl rfl (V.mv rfl) ?_
                  refine RH.takeP 3 (by kernel_rfl) rfl rfl rfl rfl (V.mv rfl) ?_
                  obtain ⟨z55, e55, hM⟩ := bindE hM
                  obtain ⟨kk55, ke55, kz55, kl55⟩ := idxE e55
                  obtain ⟨b55, o55, vs55, hA55, hD55, hR55, hrel55⟩ := Hp.at hm53 0 rfl kz55
                  obtain ⟨_, _, rfl, ⟨rfl, _⟩, ⟨rfl, _⟩⟩ := hrel55
                  have hm57 := hm53.knowRd hD55 hR55
                  refine RH.takeP 4 (by kernel_rfl) rfl rfl rfl rfl (V.ixA' hA55 kk55 Try.underlying22 Try.sizeOf40 rfl rfl ke55 kl55) ?_
                  refine RH.takeP 5 (by kernel_rfl) rfl rfl rfl rfl (V.ldA Try.isAgg40 Try.sizeOf40 rfl (Rd.pre (hm57.get 2 rfl).2 2) rfl) ?_
                  refine RH.takeP 6 (by kernel_rfl) rfl rfl rfl rfl (V.mv rfl) ?_
                  refine RH.takeP 7 (by kernel_rfl) rfl rfl rfl rfl (V.mv rfl) ?_
                  obtain ⟨z58, e58, hM⟩ := bindE hM
                  obtain ⟨kk58, ke58, kz58, kl58⟩ := idxE e58
                  obtain ⟨b58, o58, vs58, hA58, hD58, hR58, hrel58⟩ := Hp.at hm57 1 rfl kz58
                  obtain ⟨_, _, rfl, ⟨rfl, _⟩, ⟨rfl, _⟩⟩ := hrel58
                  have hm60 := hm57.knowRd hD58 hR58
                  refine RH.takeP 8 (by kernel_rfl) rfl rfl rfl rfl (V.ixA' hA58 kk58 Try.underlying22 Try.sizeOf40 rfl rfl ke58 kl58) ?_
                  refine RH.takeP 9 (by kernel_rfl) rfl rfl rfl rfl (V.ldA Try.isAgg40 Try.sizeOf40 rfl (Rd.pre (hm60.get 3 rfl).2 2) rfl) ?_
                  refine RH.takeP 10 (by kernel_rfl) rfl rfl rfl rfl (V.eqlT Try.eqGuardType40 rfl rfl (eq40 _ _)) ?_
                  refine RH.takeP 11 (by kernel_rfl) rfl rfl rfl rfl (V.pkF rfl rfl) ?_
                  refine RH.takeP 12 (by kernel_rfl) rfl rfl rfl rfl (V.as rfl) ?_
                  refine RH.doneP (by kernel_rfl) ?_
                  exact hk6 (decide (z55 = z58)) _ _ (Sub.cons rfl (Sub.cons rfl (Sub.cons rfl (Sub.cons rfl (Sub.cons rfl (Sub.cons rfl (Sub.cons rfl (Sub.cons rfl (Sub.nil _))))))))) (hm60.pick [0, 1] rfl (by decide)) hM
              · replace hM := iteF h50 hM
                refine Rn.exit rfl ?_
                exact hk5 y47 _ _ (Sub.cons rfl (Sub.cons rfl (Sub.cons rfl (Sub.cons rfl (Sub.cons rfl (Sub.cons rfl (Sub.cons rfl (Sub.nil _)))))))) (hm49.pick [0, 1] rfl (by decide)) hM
            · replace hM := iteF h42 hM
              refine Rn.exit rfl ?_
              exact hk4 y39 _ _ (Sub.cons rfl (Sub.cons rfl (Sub.cons rfl (Sub.cons rfl (Sub.cons rfl (Sub.nil _)))))) (hm41.pick [0, 1] rfl (by decide)) hM
          intro hk3
          clear hj3
          refine Rn.partD (t := 43) rfl (fun h61 => ?_) (fun h61 => ?_)
          · replace hM := iteT h61 hM
            refine Rn.v rfl rfl rfl rfl (V.mv rfl) (Rn.v rfl rfl rfl rfl (V.mv rfl) ?_)
            obtain ⟨p62, e62, hM⟩ := bindE hM
            refine Rn.cl ck17 rfl rfl rfl rfl (m_limnographref11_Check_sim (Z0 := All) _ x2 A3 c3 x3 (slR_all (hm16.get 1 rfl)) e62) ?_
            rintro _ w62 ⟨rfl, hq62⟩
            refine ⟨_, rfl, ?_⟩
            have hm63 := hm16.call0 hq62
            refine Rn.v rfl rfl rfl rfl (V.eql rfl rfl) (Rn.v rfl rfl rfl rfl (V.pkT rfl rfl) ?_)
            exact hk3 (decide (p62 = 0)) _ _ (Sub.cons rfl (Sub.cons rfl (Sub.cons rfl (Sub.cons rfl (Sub.cons rfl (Sub.nil _)))))) (hm63.pick [0, 1] rfl (by decide)) hM
          · replace hM := iteF h61 hM
            refine Rn.no rfl rfl rfl rfl (Rn.no rfl rfl rfl rfl (Rn.no rfl rfl rfl rfl (Rn.no rfl rfl rfl rfl (Rn.v rfl rfl rfl rfl (V.pkF rfl rfl) ?_))))
            exact hk3 false _ _ (Sub.cons rfl (Sub.cons rfl (Sub.cons rfl (Sub.cons rfl (Sub.cons rfl (Sub.nil _)))))) (hm16.pick [0, 1] rfl (by decide)) hM
      intro hk2
      clear hj2
      refine Rn.part (t := 34) rfl (fun h64 => ?_) (fun h64 => ?_)
      · replace hM := iteT h64 hM
        refine Rn.no rfl rfl rfl rfl (Rn.no rfl rfl rfl rfl (Rn.no rfl rfl rfl rfl (Rn.v rfl rfl rfl rfl (V.pkT rfl rfl) ?_)))
        exact hk2 true _ _ (Sub.cons rfl (Sub.cons rfl (Sub.cons rfl (Sub.cons rfl (Sub.cons rfl (Sub.nil _)))))) (hm11.pick [0, 1] rfl (by decide)) hM
      · replace hM := iteF (by rw [h64]; exact Bool.false_ne_true) hM
        refine Rn.v rfl rfl rfl rfl (V.mv rfl) ?_
        obtain ⟨p65, e65, hM⟩ := bindE hM
        refine Rn.cl ck8 rfl rfl rfl rfl (m_limnographref11_Light_sim (Z0 := All) _ A3 c3 x3 (slR_all (hm11.get 1 rfl)) e65) ?_
        rintro _ w65 ⟨rfl, hq65⟩
        refine ⟨_, rfl, ?_⟩
        have hm66 := hm11.call0 hq65
        refine Rn.v rfl rfl rfl rfl (V.notB rfl) (Rn.v rfl rfl rfl rfl (V.pkF rfl rfl) ?_)
        exact hk2 (!p65) _ _ (Sub.cons rfl (Sub.cons rfl (Sub.cons rfl (Sub.cons rfl (Sub.cons rfl (Sub.nil _)))))) (hm66.pick [0, 1] rfl (by decide)) hM
    intro hk1
    clear hj1
    refine Rn.partD (t := 29) rfl (fun h67 => ?_) (fun h67 => ?_)
    · replace hM := iteT h67 hM
      refine Rn.no rfl rfl rfl rfl (Rn.no rfl rfl rfl rfl (Rn.no rfl rfl rfl rfl (Rn.v rfl rfl rfl rfl (V.pkT rfl rfl) ?_)))
      exact hk1 true _ _ (Sub.cons rfl (Sub.cons rfl (Sub.cons rfl (Sub.cons rfl (Sub.cons rfl (Sub.nil _)))))) (hm6.pick [0, 1] rfl (by decide)) hM
    · replace hM := iteF h67 hM
      refine Rn.v rfl rfl rfl rfl (V.mv rfl) ?_
      obtain ⟨p68, e68, hM⟩ := bindE hM
      refine Rn.cl ck8 rfl rfl rfl rfl (m_limnographref11_Light_sim (Z0 := All) _ A1 c1 x1 (slR_all (hm6.get 0 rfl)) e68) ?_
      rintro _ w68 ⟨rfl, hq68⟩
      refine ⟨_, rfl, ?_⟩
      have hm69 := hm6.call0 hq68
      refine Rn.v rfl rfl rfl rfl (V.notB rfl) (Rn.v rfl rfl rfl rfl (V.pkF rfl rfl) ?_)
      exact hk1 (!p68) _ _ (Sub.cons rfl (Sub.cons rfl (Sub.cons rfl (Sub.cons rfl (Sub.cons rfl (Sub.nil _)))))) (hm69.pick [0, 1] rfl (by decide)) hM

set_option maxRecDepth 20000 in
theorem m_limnographlaw11_LabelBack_sim {Z0 : Nat → Prop} (w : World) (x0 : (List UInt8)) (A1 : Option Addr) (c1 : Nat) (x1 : (List T_api_Pair)) (x2 : (List UInt8)) (A3 : Option Addr) (c3 : Nat) (x3 : (List T_api_Pair)) {r : Bool} (f0 : (slR A1 c1 T_api_Pair.rep x1).H Z0 w) (f1 : (slR A3 c3 T_api_Pair.rep x3).H Z0 w) (hM : m_limnographlaw11_LabelBack x0 x1 x2 x3 = some r) :
    Calls Try.prog 5 #[Str (x0), .slice A1 (x1).length c1, Str (x2), .slice A3 (x3).length c3] w fun x w' => x = .returned (.bool (r)) ∧ Hp Z0 No w w' [] := by
  have hm0 := Hp.nil Z0 No w
  have hc0 := Calm.nil
  have hm3 := hm0.know (slR A1 c1 T_api_Pair.rep x1) (fun _ h => h) (hm0.in0 hc0 f0)
  replace hc0 := hc0.snoc (r := slR A1 c1 T_api_Pair.rep x1) (fun _ h => h)
  have hm4 := hm3.know (slR A3 c3 T_api_Pair.rep x3) (fun _ h => h) (hm3.in0 hc0 f1)
  replace hc0 := hc0.snoc (r := slR A3 c3 T_api_Pair.rep x3) (fun _ h => h)
  refine Rn.enter Try.func5 rfl rfl (Nat.le_of_ble_eq_true rfl) ?_
  refine Rn.seq (Rn.reg (Rn.v rfl rfl rfl rfl (V.as rfl) (Rn.regEnd (Rn.seq (Rn.seq (Rn.reg ?_))))))
  obtain ⟨p5, e5, hM⟩ := bindE hM
  refine Rn.cl ck7 rfl rfl rfl rfl (m_limnographlaw11_awake_sim (Z0 := All) _   e5) ?_
  rintro _ w5 ⟨rfl, hq5⟩
  refine ⟨_, rfl, ?_⟩
  have hm6 := hm4.call0 hq5
  refine Rn.v rfl rfl rfl rfl (V.notB rfl) (Rn.regEnd ?_)
  refine Rn.condS rfl (fun h7 => ?_) (fun h7 => ?_)
  · replace hM := iteT h7 hM
    refine Rn.seq (Rn.reg (Rn.v rfl rfl rfl rfl (V.as rfl) (Rn.regEnd ?_)))
    refine Rn.retG1 Try.func5 rfl (rvT rfl) ?_
    obtain rfl := someE hM
    exact ⟨rfl, hm6.pick [] rfl (by decide)⟩
  · replace hM := iteF (by rw [h7]; exact Bool.false_ne_true) hM
    refine Rn.skip (Rn.seq (Rn.seq (Rn.reg (Rn.v rfl rfl rfl rfl (V.mv rfl) (Rn.v rfl rfl rfl rfl (V.lenS Try.underlying9 rfl) (Rn.v rfl rfl rfl rfl (V.gtr rfl rfl) (Rn.v rfl rfl rfl rfl (V.mv rfl) ?_)))))))
    refine Rn.cutR [8, 9, 10, 11, 12, 13, 14, 15, 16, 17] [(0, Str (x0)), (1, .slice A1 (x1).length c1), (2, Str (x2)), (3, .slice A3 (x3).length c3), (28, .bool (decide (((x0.length : Int) > 100) ∨ ((x2.length : Int) > 100))))] (fun hk8 => ?_) ?_
    · refine Rn.partD (t := 24) rfl (fun h9 => ?_) (fun h9 => ?_)
      · refine Rn.no rfl rfl rfl rfl (Rn.no rfl rfl rfl rfl (Rn.no rfl rfl rfl rfl (Rn.v rfl rfl rfl rfl (V.pkT rfl rfl) ?_)))
        refine hk8 _ ?_
        exact Sub.cons rfl (Sub.cons rfl (Sub.cons rfl (Sub.cons rfl (Sub.cons (lkv _ rfl (by first | exact andT h9 | exact andF h9 | exact orT h9 | exact orF h9 | exact nandF h9 | exact nandT h9 | exact norT h9 | exact norF h9 | (simp [h9]; done) | grind)) (Sub.nil _)))))
      · refine Rn.v rfl rfl rfl rfl (V.mv rfl) (Rn.v rfl rfl rfl rfl (V.lenS Try.underlying9 rfl) (Rn.v rfl rfl rfl rfl (V.gtr rfl rfl) (Rn.v rfl rfl rfl rfl (V.pkF rfl rfl) ?_)))
        refine hk8 _ ?_
        exact Sub.cons rfl (Sub.cons rfl (Sub.cons rfl (Sub.cons rfl (Sub.cons (lkv _ rfl (by first | exact andT h9 | exact andF h9 | exact orT h9 | exact orF h9 | exact nandF h9 | exact nandT h9 | exact norT h9 | exact norF h9 | (simp [h9]; done) | grind)) (Sub.nil _)))))
    refine Rn.v rfl rfl rfl rfl (V.mv rfl) ?_
    obtain ⟨j1, hj1, hM⟩ := jnE hM
    refine Rn.joinR (r := r) (G := Bool) [13, 14, 15, 16, 17] (fun g => [(0, Str (x0)), (1, .slice A1 (x1).length c1), (2, Str (x2)), (3, .slice A3 (x3).length c3), (33, .bool (g))]) (fun g w' => Hp Z0 No w w' [slR A1 c1 T_api_Pair.rep x1, slR A3 c3 T_api_Pair.rep x3]) (fun g => j1 g) ?_ ?_
    · subst hj1
      clear hM
      rintro y10 w11 hm11 hM
      replace hm11 : Hp Z0 No w w11 [slR A1 c1 T_api_Pair.rep x1, slR A3 c3 T_api_Pair.rep x3] := hm11
      show Rn _ _ _ _ _ [(0, Str (x0)), (1, .slice A1 (x1).length c1), (2, Str (x2)), (3, .slice A3 (x3).length c3), (33, .bool (y10))] _
      try dsimp only at hM
      refine Rn.v rfl rfl rfl rfl (V.mv rfl) ?_
      obtain ⟨j2, hj2, hM⟩ := jnE hM
      refine Rn.joinR (r := r) (G := Bool) [] (fun g => [(0, Str (x0)), (1, .slice A1 (x1).length c1), (2, Str (x2)), (3, .slice A3 (x3).length c3), (38, .bool (g))]) (fun g w' => Hp Z0 No w w' [slR A1 c1 T_api_Pair.rep x1, slR A3 c3 T_api_Pair.rep x3]) (fun g => j2 g) ?_ ?_
      · subst hj2
        clear hM
        rintro y12 w13 hm13 hM
        replace hm13 : Hp Z0 No w w13 [slR A1 c1 T_api_Pair.rep x1, slR A3 c3 T_api_Pair.rep x3] := hm13
        show Rn _ _ _ _ _ [(0, Str (x0)), (1, .slice A1 (x1).length c1), (2, Str (x2)), (3, .slice A3 (x3).length c3), (38, .bool (y12))] _
        try dsimp only at hM
        refine Rn.regEnd ?_
        refine Rn.condS rfl (fun h14 => ?_) (fun h14 => ?_)
        · replace hM := iteT h14 hM
          refine Rn.seq (Rn.reg (Rn.v rfl rfl rfl rfl (V.as rfl) (Rn.regEnd ?_)))
          refine Rn.retG1 Try.func5 rfl (rvT rfl) ?_
          obtain rfl := someE hM
          exact ⟨rfl, hm13.pick [] rfl (by decide)⟩
        · replace hM := iteF (by rw [h14]; exact Bool.false_ne_true) hM
          refine Rn.skip (Rn.seq (Rn.reg (Rn.v rfl rfl rfl rfl (V.mv rfl) (Rn.v rfl rfl rfl rfl (V.mv rfl) ?_))))
          obtain ⟨p15, e15, hM⟩ := bindE hM
          refine Rn.cl ck9 rfl rfl rfl rfl (m_label_Text_sim (Z0 := All) _ x0 A1 c1 x1 (slR_all (hm13.get 0 rfl)) e15) ?_
          rintro _ w15 ⟨rfl, hq15⟩
          refine ⟨_, rfl, ?_⟩
          have hm16 := hm13.call0 hq15
          refine Rn.v rfl rfl rfl rfl (V.mv rfl) (Rn.v rfl rfl rfl rfl (V.ext rfl rfl) (Rn.v rfl rfl rfl rfl (V.ext rfl rfl) (Rn.v rfl rfl rfl rfl (V.as rfl) (Rn.v rfl rfl rfl rfl (V.as rfl) (Rn.regEnd (Rn.seq (Rn.reg (Rn.v rfl rfl rfl rfl (V.mv rfl) (Rn.v rfl rfl rfl rfl (V.mv rfl) ?_)))))))))
          obtain ⟨p17, e17, hM⟩ := bindE hM
          refine Rn.cl ck9 rfl rfl rfl rfl (m_label_Text_sim (Z0 := All) _ x2 A3 c3 x3 (slR_all (hm16.get 1 rfl)) e17) ?_
          rintro _ w17 ⟨rfl, hq17⟩
          refine ⟨_, rfl, ?_⟩
          have hm18 := hm16.call0 hq17
          refine Rn.v rfl rfl rfl rfl (V.mv rfl) (Rn.v rfl rfl rfl rfl (V.ext rfl rfl) (Rn.v rfl rfl rfl rfl (V.ext rfl rfl) (Rn.v rfl rfl rfl rfl (V.as rfl) (Rn.v rfl rfl rfl rfl (V.as rfl) (Rn.regEnd (Rn.seq (Rn.seq (Rn.reg (Rn.v rfl rfl rfl rfl (V.mv rfl) (Rn.v rfl rfl rfl rfl (V.neq rfl rfl) (Rn.v rfl rfl rfl rfl (V.mv rfl) ?_)))))))))))
          refine Rn.cutR [] [(0, Str (x0)), (1, .slice A1 (x1).length c1), (2, Str (x2)), (3, .slice A3 (x3).length c3), (9, Str (p15.1)), (10, .int .i64 (p15.2)), (11, Str (p17.1)), (56, .bool (decide ((p15.2 ≠ 0) ∨ (p17.2 ≠ 0))))] (fun hk19 => ?_) ?_
          · refine Rn.partD (t := 53) rfl (fun h20 => ?_) (fun h20 => ?_)
            · refine Rn.no rfl rfl rfl rfl (Rn.no rfl rfl rfl rfl (Rn.v rfl rfl rfl rfl (V.pkT rfl rfl) ?_))
              refine hk19 _ ?_
              exact Sub.cons rfl (Sub.cons rfl (Sub.cons rfl (Sub.cons rfl (Sub.cons rfl (Sub.cons rfl (Sub.cons rfl (Sub.cons (lkv _ rfl (by first | exact andT h20 | exact andF h20 | exact orT h20 | exact orF h20 | exact nandF h20 | exact nandT h20 | exact norT h20 | exact norF h20 | (simp [h20]; done) | grind)) (Sub.nil _))))))))
            · refine Rn.v rfl rfl rfl rfl (V.mv rfl) (Rn.v rfl rfl rfl rfl (V.neq rfl rfl) (Rn.v rfl rfl rfl rfl (V.pkF rfl rfl) ?_))
              refine hk19 _ ?_
              exact Sub.cons rfl (Sub.cons rfl (Sub.cons rfl (Sub.cons rfl (Sub.cons rfl (Sub.cons rfl (Sub.cons rfl (Sub.cons (lkv _ rfl (by first | exact andT h20 | exact andF h20 | exact orT h20 | exact orF h20 | exact nandF h20 | exact nandT h20 | exact norT h20 | exact norF h20 | (simp [h20]; done) | grind)) (Sub.nil _))))))))
          refine Rn.regEnd ?_
          refine Rn.condD rfl (fun h21 => ?_) (fun h21 => ?_)
          · replace hM := iteT h21 hM
            refine Rn.seq (Rn.reg (Rn.v rfl rfl rfl rfl (V.mv rfl) (Rn.v rfl rfl rfl rfl (V.eql rfl rfl) (Rn.v rfl rfl rfl rfl (V.mv rfl) ?_))))
            refine Rn.cutR [6] [(62, .bool (decide ((p15.2 = 0) ∨ (p15.1 = ([] : List UInt8)))))] (fun hk22 => ?_) ?_
            · refine Rn.partD (t := 59) rfl (fun h23 => ?_) (fun h23 => ?_)
              · refine Rn.no rfl rfl rfl rfl (Rn.no rfl rfl rfl rfl (Rn.v rfl rfl rfl rfl (V.pkT rfl rfl) ?_))
                refine hk22 _ ?_
                exact Sub.cons (lkv _ rfl (by first | exact andT h23 | exact andF h23 | exact orT h23 | exact orF h23 | exact nandF h23 | exact nandT h23 | exact norT h23 | exact norF h23 | (simp [h23]; done) | grind)) (Sub.nil _)
              · refine Rn.v rfl rfl rfl rfl (V.mv rfl) (Rn.v rfl rfl rfl rfl (V.eqlS rfl rfl) (Rn.v rfl rfl rfl rfl (V.pkF rfl rfl) ?_))
                refine hk22 _ ?_
                exact Sub.cons (lkv _ rfl (by first | exact andT h23 | exact andF h23 | exact orT h23 | exact orF h23 | exact nandF h23 | exact nandT h23 | exact norT h23 | exact norF h23 | (simp [h23]; done) | grind)) (Sub.nil _)
            refine Rn.v rfl rfl rfl rfl (V.as rfl) (Rn.regEnd ?_)
            refine Rn.retG1 Try.func5 rfl (rvT rfl) ?_
            obtain rfl := someE hM
            exact ⟨rfl, hm18.pick [] rfl (by decide)⟩
          · replace hM := iteF h21 hM
            refine Rn.skip (Rn.seq (Rn.reg (Rn.v rfl rfl rfl rfl (V.mv rfl) ?_)))
            obtain ⟨p24, e24, hM⟩ := bindE hM
            refine Rn.cl ck15 rfl rfl rfl rfl (m_label_Parse_sim (Z0 := All) _ p15.1  e24) ?_
            rintro _ w24 ⟨A24_1_0, c24_1_0, rfl, hq24⟩
            refine ⟨_, rfl, ?_⟩
            have hm26 : Hp Z0 No w w24 [slR A1 c1 T_api_Pair.rep x1, slR A3 c3 T_api_Pair.rep x3, ownR 40 A24_1_0 c24_1_0 T_api_Pair.rep p24.2.1] := hm18.callF (flC (ownR_flat T_api_Pair.flat _ _ _ _) fl0) hq24
            refine Rn.v rfl rfl rfl rfl (V.mv rfl) (Rn.v rfl rfl rfl rfl (V.ext rfl rfl) (Rn.v rfl rfl rfl rfl (V.ext rfl rfl) (Rn.v rfl rfl rfl rfl (V.ext rfl rfl) (Rn.v rfl rfl rfl rfl (V.ext rfl rfl) (Rn.v rfl rfl rfl rfl (V.as rfl) (Rn.v rfl rfl rfl rfl (V.as rfl) (Rn.v rfl rfl rfl rfl (V.as rfl) (Rn.v rfl rfl rfl rfl (V.as rfl) (Rn.regEnd (Rn.seq (Rn.reg (Rn.v rfl rfl rfl rfl (V.mv rfl) ?_))))))))))))
            obtain ⟨p27, e27, hM⟩ := bindE hM
            refine Rn.cl ck13 rfl rfl rfl rfl (m_label_Sorted_sim (Z0 := All) _ A1 c1 x1 (slR_all (hm26.get 0 rfl)) e27) ?_
            rintro _ w27 ⟨A27_0_0, c27_0_0, rfl, hq27⟩
            refine ⟨_, rfl, ?_⟩
            have hm29 : Hp Z0 No w w27 [slR A1 c1 T_api_Pair.rep x1, slR A3 c3 T_api_Pair.rep x3, ownR 40 A24_1_0 c24_1_0 T_api_Pair.rep p24.2.1, ownR 40 A27_0_0 c27_0_0 T_api_Pair.rep p27] := hm26.callF (flC (ownR_flat T_api_Pair.flat _ _ _ _) fl0) hq27
            refine Rn.v rfl rfl rfl rfl (V.mv rfl) ?_
            obtain ⟨p30, e30, hM⟩ := bindE hM
            refine Rn.cl ck13 rfl rfl rfl rfl (m_label_Sorted_sim (Z0 := All) _ A3 c3 x3 (slR_all (hm29.get 1 rfl)) e30) ?_
            rintro _ w30 ⟨A30_0_0, c30_0_0, rfl, hq30⟩
            refine ⟨_, rfl, ?_⟩
            have hm32 : Hp Z0 No w w30 [slR A1 c1 T_api_Pair.rep x1, slR A3 c3 T_api_Pair.rep x3, ownR 40 A24_1_0 c24_1_0 T_api_Pair.rep p24.2.1, ownR 40 A27_0_0 c27_0_0 T_api_Pair.rep p27, ownR 40 A30_0_0 c30_0_0 T_api_Pair.rep p30] := hm29.callF (flC (ownR_flat T_api_Pair.flat _ _ _ _) fl0) hq30
            refine Rn.v rfl rfl rfl rfl (V.as rfl) (Rn.v rfl rfl rfl rfl (V.as rfl) (Rn.regEnd (Rn.seq (Rn.seq (Rn.reg (Rn.v rfl rfl rfl rfl (V.mv rfl) (Rn.v rfl rfl rfl rfl (V.neq rfl rfl) (Rn.v rfl rfl rfl rfl (V.mv rfl) ?_))))))))
            refine Rn.cutR [7, 8, 9, 10, 11, 12] [(0, Str (x0)), (2, Str (x2)), (9, Str (p15.1)), (11, Str (p17.1)), (14, .slice A24_1_0 (p24.2.1).length c24_1_0), (17, .slice A27_0_0 (p27).length c27_0_0), (18, .slice A30_0_0 (p30).length c30_0_0), (80, .bool (decide ((p24.2.2.2 ≠ 0) ∨ (p24.1 ≠ x0))))] (fun hk33 => ?_) ?_
            · refine Rn.partD (t := 76) rfl (fun h34 => ?_) (fun h34 => ?_)
              · refine Rn.no rfl rfl rfl rfl (Rn.no rfl rfl rfl rfl (Rn.no rfl rfl rfl rfl (Rn.v rfl rfl rfl rfl (V.pkT rfl rfl) ?_)))
                refine hk33 _ ?_
                exact Sub.cons rfl (Sub.cons rfl (Sub.cons rfl (Sub.cons rfl (Sub.cons rfl (Sub.cons rfl (Sub.cons rfl (Sub.cons (lkv _ rfl (by first | exact andT h34 | exact andF h34 | exact orT h34 | exact orF h34 | exact nandF h34 | exact nandT h34 | exact norT h34 | exact norF h34 | (simp [h34]; done) | grind)) (Sub.nil _))))))))
              · refine Rn.v rfl rfl rfl rfl (V.mv rfl) (Rn.v rfl rfl rfl rfl (V.mv rfl) (Rn.v rfl rfl rfl rfl (V.neqS rfl rfl) (Rn.v rfl rfl rfl rfl (V.pkF rfl rfl) ?_)))
                refine hk33 _ ?_
                exact Sub.cons rfl (Sub.cons rfl (Sub.cons rfl (Sub.cons rfl (Sub.cons rfl (Sub.cons rfl (Sub.cons rfl (Sub.cons (lkv _ rfl (by first | exact andT h34 | exact andF h34 | exact orT h34 | exact orF h34 | exact nandF h34 | exact nandT h34 | exact norT h34 | exact norF h34 | (simp [h34]; done) | grind)) (Sub.nil _))))))))
            refine Rn.v rfl rfl rfl rfl (V.mv rfl) ?_
            obtain ⟨j3, hj3, hM⟩ := jnE hM
            refine Rn.joinR (r := r) (G := Bool) [] (fun g => [(0, Str (x0)), (2, Str (x2)), (9, Str (p15.1)), (11, Str (p17.1)), (17, .slice A27_0_0 (p27).length c27_0_0), (18, .slice A30_0_0 (p30).length c30_0_0), (86, .bool (g))]) (fun g w' => Hp Z0 No w w' [slR A1 c1 T_api_Pair.rep x1, slR A3 c3 T_api_Pair.rep x3, ownR 40 A24_1_0 c24_1_0 T_api_Pair.rep p24.2.1, ownR 40 A27_0_0 c27_0_0 T_api_Pair.rep p27, ownR 40 A30_0_0 c30_0_0 T_api_Pair.rep p30]) (fun g => j3 g) ?_ ?_
            · subst hj3
              clear hM
              rintro y35 w36 hm36 hM
              replace hm36 : Hp Z0 No w w36 [slR A1 c1 T_api_Pair.rep x1, slR A3 c3 T_api_Pair.rep x3, ownR 40 A24_1_0 c24_1_0 T_api_Pair.rep p24.2.1, ownR 40 A27_0_0 c27_0_0 T_api_Pair.rep p27, ownR 40 A30_0_0 c30_0_0 T_api_Pair.rep p30] := hm36
              show Rn _ _ _ _ _ [(0, Str (x0)), (2, Str (x2)), (9, Str (p15.1)), (11, Str (p17.1)), (17, .slice A27_0_0 (p27).length c27_0_0), (18, .slice A30_0_0 (p30).length c30_0_0), (86, .bool (y35))] _
              try dsimp only at hM
              refine Rn.regEnd ?_
              refine Rn.condS rfl (fun h37 => ?_) (fun h37 => ?_)
              · replace hM := iteT h37 hM
                refine Rn.seq (Rn.reg (Rn.v rfl rfl rfl rfl (V.as rfl) (Rn.regEnd ?_)))
                refine Rn.retG1 Try.func5 rfl (rvT rfl) ?_
                obtain rfl := someE hM
                exact ⟨rfl, hm36.pick [] rfl (by decide)⟩
              · replace hM := iteF (by rw [h37]; exact Bool.false_ne_true) hM
                refine Rn.skip (Rn.seq (Rn.reg (Rn.v rfl rfl rfl rfl (V.mv rfl) (Rn.v rfl rfl rfl rfl (V.mv rfl) (Rn.v rfl rfl rfl rfl (V.eqlS rfl rfl) (Rn.v rfl rfl rfl rfl (V.mv rfl) (Rn.v rfl rfl rfl rfl (V.mv rfl) (Rn.v rfl rfl rfl rfl (V.eqlS rfl rfl) (Rn.v rfl rfl rfl rfl (V.mv rfl) ?_)))))))))
                obtain ⟨j4, hj4, hM⟩ := jnE hM
                refine Rn.joinR (r := r) (G := Bool) [11, 12] (fun g => [(89, .bool (decide (p15.1 = p17.1))), (97, .bool (g))]) (fun g w' => Hp Z0 No w w' [slR A1 c1 T_api_Pair.rep x1, slR A3 c3 T_api_Pair.rep x3, ownR 40 A24_1_0 c24_1_0 T_api_Pair.rep p24.2.1, ownR 40 A27_0_0 c27_0_0 T_api_Pair.rep p27, ownR 40 A30_0_0 c30_0_0 T_api_Pair.rep p30]) (fun g => j4 g) ?_ ?_
                · subst hj4
                  clear hM
                  rintro y38 w39 hm39 hM
                  replace hm39 : Hp Z0 No w w39 [slR A1 c1 T_api_Pair.rep x1, slR A3 c3 T_api_Pair.rep x3, ownR 40 A24_1_0 c24_1_0 T_api_Pair.rep p24.2.1, ownR 40 A27_0_0 c27_0_0 T_api_Pair.rep p27, ownR 40 A30_0_0 c30_0_0 T_api_Pair.rep p30] := hm39
                  show Rn _ _ _ _ _ [(89, .bool (decide (p15.1 = p17.1))), (97, .bool (y38))] _
                  try dsimp only at hM
                  refine Rn.v rfl rfl rfl rfl (V.eqlB Try.underlying4 rfl rfl) (Rn.v rfl rfl rfl rfl (V.as rfl) (Rn.regEnd ?_))
                  refine Rn.retG1 Try.func5 rfl (rvT rfl) ?_
                  obtain rfl := someE hM
                  exact ⟨rfl, hm39.pick [] rfl (by decide)⟩
                intro hk4
                clear hj4
                refine Rn.partD (t := 93) rfl (fun h40 => ?_) (fun h40 => ?_)
                · replace hM := iteT h40 hM
                  refine Rn.v rfl rfl rfl rfl (V.mv rfl) (Rn.v rfl rfl rfl rfl (V.mv rfl) ?_)
                  obtain ⟨p41, e41, hM⟩ := bindE hM
                  refine Rn.cl ck12 rfl rfl rfl rfl (m_limnographref11_Same_sim (Z0 := All) _ A27_0_0 c27_0_0 p27 A30_0_0 c30_0_0 p30 (own_slR (hm36.get 3 rfl)) (own_slR (hm36.get 4 rfl)) e41) ?_
                  rintro _ w41 ⟨rfl, hq41⟩
                  refine ⟨_, rfl, ?_⟩
                  have hm42 := hm36.call0 hq41
                  refine Rn.v rfl rfl rfl rfl (V.pkT rfl rfl) ?_
                  exact hk4 p41 _ _ (Sub.cons rfl (Sub.cons rfl (Sub.nil _))) (hm42.pick [0, 1, 2, 3, 4] rfl (by decide)) hM
                · replace hM := iteF h40 hM
                  refine Rn.no rfl rfl rfl rfl (Rn.no rfl rfl rfl rfl (Rn.no rfl rfl rfl rfl (Rn.v rfl rfl rfl rfl (V.pkF rfl rfl) ?_)))
                  exact hk4 false _ _ (Sub.cons rfl (Sub.cons rfl (Sub.nil _))) (hm36.pick [0, 1, 2, 3, 4] rfl (by decide)) hM
            intro hk3
            clear hj3
            refine Rn.partD (t := 81) rfl (fun h43 => ?_) (fun h43 => ?_)
            · replace hM := iteT h43 hM
              refine Rn.no rfl rfl rfl rfl (Rn.no rfl rfl rfl rfl (Rn.no rfl rfl rfl rfl (Rn.no rfl rfl rfl rfl (Rn.v rfl rfl rfl rfl (V.pkT rfl rfl) ?_))))
              exact hk3 true _ _ (Sub.cons rfl (Sub.cons rfl (Sub.cons rfl (Sub.cons rfl (Sub.cons rfl (Sub.cons rfl (Sub.cons rfl (Sub.nil _)))))))) (hm32.pick [0, 1, 2, 3, 4] rfl (by decide)) hM
            · replace hM := iteF h43 hM
              refine Rn.v rfl rfl rfl rfl (V.mv rfl) (Rn.v rfl rfl rfl rfl (V.mv rfl) ?_)
              obtain ⟨p44, e44, hM⟩ := bindE hM
              refine Rn.cl ck12 rfl rfl rfl rfl (m_limnographref11_Same_sim (Z0 := All) _ A24_1_0 c24_1_0 p24.2.1 A27_0_0 c27_0_0 p27 (own_slR (hm32.get 2 rfl)) (own_slR (hm32.get 3 rfl)) e44) ?_
              rintro _ w44 ⟨rfl, hq44⟩
              refine ⟨_, rfl, ?_⟩
              have hm45 := hm32.call0 hq44
              refine Rn.v rfl rfl rfl rfl (V.notB rfl) (Rn.v rfl rfl rfl rfl (V.pkF rfl rfl) ?_)
              exact hk3 (!p44) _ _ (Sub.cons rfl (Sub.cons rfl (Sub.cons rfl (Sub.cons rfl (Sub.cons rfl (Sub.cons rfl (Sub.cons rfl (Sub.nil _)))))))) (hm45.pick [0, 1, 2, 3, 4] rfl (by decide)) hM
      intro hk2
      clear hj2
      refine Rn.part (t := 34) rfl (fun h46 => ?_) (fun h46 => ?_)
      · replace hM := iteT h46 hM
        refine Rn.no rfl rfl rfl rfl (Rn.no rfl rfl rfl rfl (Rn.no rfl rfl rfl rfl (Rn.v rfl rfl rfl rfl (V.pkT rfl rfl) ?_)))
        exact hk2 true _ _ (Sub.cons rfl (Sub.cons rfl (Sub.cons rfl (Sub.cons rfl (Sub.cons rfl (Sub.nil _)))))) (hm11.pick [0, 1] rfl (by decide)) hM
      · replace hM := iteF (by rw [h46]; exact Bool.false_ne_true) hM
        refine Rn.v rfl rfl rfl rfl (V.mv rfl) ?_
        obtain ⟨p47, e47, hM⟩ := bindE hM
        refine Rn.cl ck8 rfl rfl rfl rfl (m_limnographref11_Light_sim (Z0 := All) _ A3 c3 x3 (slR_all (hm11.get 1 rfl)) e47) ?_
        rintro _ w47 ⟨rfl, hq47⟩
        refine ⟨_, rfl, ?_⟩
        have hm48 := hm11.call0 hq47
        refine Rn.v rfl rfl rfl rfl (V.notB rfl) (Rn.v rfl rfl rfl rfl (V.pkF rfl rfl) ?_)
        exact hk2 (!p47) _ _ (Sub.cons rfl (Sub.cons rfl (Sub.cons rfl (Sub.cons rfl (Sub.cons rfl (Sub.nil _)))))) (hm48.pick [0, 1] rfl (by decide)) hM
    intro hk1
    clear hj1
    refine Rn.partD (t := 29) rfl (fun h49 => ?_) (fun h49 => ?_)
    · replace hM := iteT h49 hM
      refine Rn.no rfl rfl rfl rfl (Rn.no rfl rfl rfl rfl (Rn.no rfl rfl rfl rfl (Rn.v rfl rfl rfl rfl (V.pkT rfl rfl) ?_)))
      exact hk1 true _ _ (Sub.cons rfl (Sub.cons rfl (Sub.cons rfl (Sub.cons rfl (Sub.cons rfl (Sub.nil _)))))) (hm6.pick [0, 1] rfl (by decide)) hM
    · replace hM := iteF h49 hM
      refine Rn.v rfl rfl rfl rfl (V.mv rfl) ?_
      obtain ⟨p50, e50, hM⟩ := bindE hM
      refine Rn.cl ck8 rfl rfl rfl rfl (m_limnographref11_Light_sim (Z0 := All) _ A1 c1 x1 (slR_all (hm6.get 0 rfl)) e50) ?_
      rintro _ w50 ⟨rfl, hq50⟩
      refine ⟨_, rfl, ?_⟩
      have hm51 := hm6.call0 hq50
      refine Rn.v rfl rfl rfl rfl (V.notB rfl) (Rn.v rfl rfl rfl rfl (V.pkF rfl rfl) ?_)
      exact hk1 (!p50) _ _ (Sub.cons rfl (Sub.cons rfl (Sub.cons rfl (Sub.cons rfl (Sub.cons rfl (Sub.nil _)))))) (hm51.pick [0, 1] rfl (by decide)) hM

set_option maxRecDepth 20000 in
theorem m_limnographref11_find_sim {Z0 : Nat → Prop} (w : World) (x0 : (List UInt8)) (x1 : Int) (x2 : UInt8) {r : Int}  (hM : m_limnographref11_find x0 x1 x2 = some r) :
    Calls Try.prog 32 #[Str (x0), .int .i64 (x1), .int .u8 (((x2).toNat : Nat) : Int)] w fun x w' => x = .returned (.int .i64 (r)) ∧ Hp Z0 No w w' [] := by
  have hm0 := Hp.nil Z0 No w
  have hc0 := Calm.nil
  refine Rn.enter Try.func32 rfl rfl (Nat.le_of_ble_eq_true rfl) ?_
  refine Rn.seq (Rn.reg (Rn.v rfl rfl rfl rfl (V.as rfl) (Rn.regEnd (Rn.seq ?_))))
  obtain ⟨j1, hj1, hM⟩ := jnE hM
  refine Rn.joinG (r := r) (G := Int) (fun g => [(1, .int .i64 (g))]) (fun g w' => Hp Z0 No w w' []) (fun g => j1 g) ?_ ?_
  · subst hj1
    clear hM
    rintro y1 w2 hm2 hM
    replace hm2 : Hp Z0 No w w2 [] := hm2
    show Rn _ _ _ _ _ [(1, .int .i64 (y1))] _
    try dsimp only at hM
    refine Rn.seq (Rn.reg (Rn.v rfl rfl rfl rfl (V.mv rfl) (Rn.v rfl rfl rfl rfl (V.as rfl) (Rn.regEnd ?_))))
    refine Rn.retG1 Try.func32 rfl (rvT rfl) ?_
    obtain rfl := someE hM
    exact ⟨rfl, hm2.pick [] rfl (by decide)⟩
  intro hk1
  clear hj1
  refine Rn.block ?_
  refine Rn.loopF (G := Int) (fun g => [(0, Str (x0)), (1, .int .i64 (g)), (2, .int .u8 (((x2).toNat : Nat) : Int))]) (fun g w' => Hp Z0 No w w' []) (fun n g => m_limnographref11_find_L1 x0 x2 j1 n g) fuel x1 (Sub.cons rfl (Sub.cons rfl (Sub.cons rfl (Sub.nil _)))) (hm0.pick [] rfl (by decide)) hM (fun _ => rfl) ?_
  clear hM
  rintro m4 y3 w4 hm4 hM hn4
  replace hm4 : Hp Z0 No w w4 [] := hm4
  show Rn _ _ _ _ _ [(0, Str (x0)), (1, .int .i64 (y3)), (2, .int .u8 (((x2).toNat : Nat) : Int))] _
  replace hM : m_limnographref11_find_L1 x0 x2 j1 (m4 + 1) y3 = some r := hM
  rw [m_limnographref11_find_L1] at hM
  refine Rn.seq (Rn.seq (Rn.reg (Rn.v rfl rfl rfl rfl (V.mv rfl) (Rn.v rfl rfl rfl rfl (V.mv rfl) (Rn.v rfl rfl rfl rfl (V.lenS Try.underlying9 rfl) (Rn.v rfl rfl rfl rfl (V.lss rfl rfl) (Rn.v rfl rfl rfl rfl (V.mv rfl) ?_)))))))
  obtain ⟨j2, hj2, hM⟩ := jnE hM
  refine Rn.joinR (r := r) (G := Bool) [] (fun g => [(0, Str (x0)), (1, .int .i64 (y3)), (2, .int .u8 (((x2).toNat : Nat) : Int)), (17, .bool (g))]) (fun g w' => Hp Z0 No w w' []) (fun g => j2 g) ?_ ?_
  · subst hj2
    clear hM
    rintro y5 w6 hm6 hM
    replace hm6 : Hp Z0 No w w6 [] := hm6
    show Rn _ _ _ _ _ [(0, Str (x0)), (1, .int .i64 (y3)), (2, .int .u8 (((x2).toNat : Nat) : Int)), (17, .bool (y5))] _
    try dsimp only at hM
    refine Rn.regEnd ?_
    refine Rn.condS rfl (fun h7 => ?_) (fun h7 => ?_)
    · replace hM := iteT h7 hM
      refine Rn.skip (Rn.block (Rn.reg (Rn.v rfl rfl rfl rfl (V.mv rfl) (Rn.v rfl rfl rfl rfl (V.addW rfl rfl) (Rn.v rfl rfl rfl rfl (V.as rfl) (Rn.regEnd (Rn.inBlock ?_)))))))
      exact hn4 (W64 (y3 + 1)) _ _ (Sub.cons rfl (Sub.cons rfl (Sub.cons rfl (Sub.nil _)))) (hm6.pick [] rfl (by decide)) hM
    · replace hM := iteF (by rw [h7]; exact Bool.false_ne_true) hM
      refine Rn.exit rfl ?_
      exact hk1 y3 _ _ (Sub.cons rfl (Sub.nil _)) (hm6.pick [] rfl (by decide)) hM
  intro hk2
  clear hj2
  refine Rn.partD (t := 11) rfl (fun h8 => ?_) (fun h8 => ?_)
  · replace hM := iteT h8 hM
    refine Rn.v rfl rfl rfl rfl (V.mv rfl) (Rn.v rfl rfl rfl rfl (V.mv rfl) ?_)
    obtain ⟨z9, e9, hM⟩ := bindE hM
    refine Rn.v rfl rfl rfl rfl (V.idxSZ Try.underlying9 rfl rfl e9) (Rn.v rfl rfl rfl rfl (V.mv rfl) (Rn.v rfl rfl rfl rfl (V.neq rfl rfl) (Rn.v rfl rfl rfl rfl (V.pkT rfl rfl) ?_)))
    exact hk2 (decide (((z9).toNat : Int) ≠ ((x2).toNat : Int))) _ _ (Sub.cons rfl (Sub.cons rfl (Sub.cons rfl (Sub.cons rfl (Sub.nil _))))) (hm4.pick [] rfl (by decide)) hM
  · replace hM := iteF h8 hM
    refine Rn.no rfl rfl rfl rfl (Rn.no rfl rfl rfl rfl (Rn.no rfl rfl rfl rfl (Rn.no rfl rfl rfl rfl (Rn.no rfl rfl rfl rfl (Rn.v rfl rfl rfl rfl (V.pkF rfl rfl) ?_)))))
    exact hk2 false _ _ (Sub.cons rfl (Sub.cons rfl (Sub.cons rfl (Sub.cons rfl (Sub.nil _))))) (hm4.pick [] rfl (by decide)) hM

set_option maxRecDepth 20000 in
theorem m_limnographref11_Parse_sim {Z0 : Nat → Prop} (w : World) (x0 : (List UInt8)) {r : T_limnographref11_Got}  (hM : m_limnographref11_Parse x0 = some r) :
    Calls Try.prog 16 #[Str (x0)] w fun x w' => ∃ A_0_0 c_0_0, x = .returned (.agg [Str (r.Name), .slice A_0_0 (r.Attrs).length c_0_0, .int .i64 (r.At), .int .i64 (r.E)].toArray) ∧ Hp Z0 No w w' [slR A_0_0 c_0_0 T_api_Pair.rep r.Attrs] := by
  have hm0 := Hp.nil Z0 No w
  have hc0 := Calm.nil
  refine Rn.enter Try.func16 rfl rfl (Nat.le_of_ble_eq_true rfl) ?_
  refine Rn.seq (Rn.reg (Rn.alloc rfl rfl rfl Try.zeroValue35 rfl ?_))
  intro b1 w1 hb1 m1 e1
  have hm3 : Hp Z0 No w w1 [boxR b1 35 [Str (([] : List UInt8)), .slice none 0 0, .int .i64 (0), .int .i64 (0)]] := hm0.addBox hb1 e1 m1
  refine Rn.regEnd (Rn.seq (Rn.reg (Rn.v rfl rfl rfl rfl (V.mv rfl) ?_)))
  obtain ⟨p4, e4, hM⟩ := bindE hM
  refine Rn.cl ck32 rfl rfl rfl rfl (m_limnographref11_find_sim (Z0 := All) _ x0 0 (59 : UInt8)  e4) ?_
  rintro _ w4 ⟨rfl, hq4⟩
  refine ⟨_, rfl, ?_⟩
  have hm5 := hm3.call0 hq4
  refine Rn.v rfl rfl rfl rfl (V.as rfl) (Rn.regEnd (Rn.seq (Rn.reg (Rn.v rfl rfl rfl rfl (V.mv rfl) (Rn.v rfl rfl rfl rfl (V.mv rfl) ?_)))))
  obtain ⟨z6, e6, hM⟩ := bindE hM
  refine Rn.v rfl rfl rfl rfl (V.cutSZ Try.underlying9 rfl e6 rfl rfl) (Rn.v rfl rfl rfl rfl (V.bldS st35 rfl rfl) (Rn.als rfl rfl rfl Try.zeroValue35 rfl Try.sizeOf35 rfl rfl rfl rfl (by first | exact ones rfl | (simp [Value.oneCell']; done)) ?_))
  intro b7 w7 hb7 m7 e7
  have hm9 : Hp Z0 No w w7 [boxR b1 35 [Str (([] : List UInt8)), .slice none 0 0, .int .i64 (0), .int .i64 (0)], boxR b7 35 [Str (z6), .slice none 0 0, .int .i64 (0), .int .i64 (0)]] := hm5.addBox hb7 e7 m7
  refine Rn.regEnd (Rn.seq (Rn.seq (Rn.reg (Rn.v rfl rfl rfl rfl (V.fa Try.underlying35 rfl Try.sizeOf9 rfl rfl) (Rn.v rfl rfl rfl rfl (V.ldB Try.isAgg9 rfl (hm9.get 1 rfl) rfl) ?_)))))
  obtain ⟨p10, e10, hM⟩ := bindE hM
  refine Rn.cl ck33 rfl rfl rfl rfl (m_limnographref11_Name_sim (Z0 := All) _ z6  e10) ?_
  rintro _ w10 ⟨rfl, hq10⟩
  refine ⟨_, rfl, ?_⟩
  have hm11 := hm9.call0 hq10
  refine Rn.v rfl rfl rfl rfl (V.notB rfl) (Rn.regEnd ?_)
  refine Rn.condS rfl (fun h12 => ?_) (fun h12 => ?_)
  · replace hM := iteT h12 hM
    refine Rn.seq (Rn.reg (Rn.v rfl rfl rfl rfl (V.bldS st35 rfl rfl) (Rn.st rfl rfl Try.sizeOf35 rfl rfl rfl rfl (by first | exact ones rfl | (simp [Value.oneCell']; done)) (hm11.get 0 rfl) (by first | exact Nat.le_of_ble_eq_true rfl | (simp; done)) ?_)))
    intro w13 m13 x13
    have hm14 : Hp Z0 No w w13 [boxR b1 35 [Str (([] : List UInt8)), .slice none 0 0, .int .i64 (0), .int .i64 (3)], boxR b7 35 [Str (z6), .slice none 0 0, .int .i64 (0), .int .i64 (0)]] := hm11.st 0 rfl x13 m13
    refine Rn.regEnd ?_
    have hm15 := hm14.addNil 40 T_api_Pair.rep
    have hm18 := hm15.freeze 2 rfl
    refine Rn.retG1 Try.func16 rfl (rvC rfl Try.isAgg35 Try.sizeOf35 (hm14.get 0 rfl) rfl) ?_
    obtain rfl := someE hM
    exact ⟨none, 0, rfl, hm18.pick [2] rfl (by decide)⟩
  · replace hM := iteF (by rw [h12]; exact Bool.false_ne_true) hM
    refine Rn.skip (Rn.seq ?_)
    obtain ⟨j1, hj1, hM⟩ := jnE hM
    refine Rn.joinG (r := r) (G := T_limnographref11_Got × Option Addr × Nat) (fun g => [(2, .pointer (some ⟨b1, 0, none⟩)), (4, .pointer (some ⟨b7, 0, none⟩))]) (fun g w' => Hp Z0 No w w' [boxR b1 35 [Str (([] : List UInt8)), .slice none 0 0, .int .i64 (0), .int .i64 (0)], ownR 40 (g.2.1) (g.2.2) T_api_Pair.rep (g.1).Attrs, boxR b7 35 [Str ((g.1).Name), .slice (g.2.1) ((g.1).Attrs).length (g.2.2), .int .i64 ((g.1).At), .int .i64 ((g.1).E)]]) (fun g => j1 g.1) ?_ ?_
    · subst hj1
      clear hM
      rintro ⟨y19, A20, c20⟩ w22 hm22 hM
      replace hm22 : Hp Z0 No w w22 [boxR b1 35 [Str (([] : List UInt8)), .slice none 0 0, .int .i64 (0), .int .i64 (0)], ownR 40 A20 c20 T_api_Pair.rep y19.Attrs, boxR b7 35 [Str (y19.Name), .slice A20 (y19.Attrs).length c20, .int .i64 (y19.At), .int .i64 (y19.E)]] := hm22
      show Rn _ _ _ _ _ [(2, .pointer (some ⟨b1, 0, none⟩)), (4, .pointer (some ⟨b7, 0, none⟩))] _
      try dsimp only at hM
      refine Rn.seq (Rn.reg (Rn.v rfl rfl rfl rfl (V.ldBA _ Try.isAgg35 Try.sizeOf35 rfl (hm22.get 2 rfl) rfl rfl) (Rn.st rfl rfl Try.sizeOf35 rfl rfl rfl rfl (by first | exact ones rfl | (simp [Value.oneCell']; done)) (hm22.get 0 rfl) (by first | exact Nat.le_of_ble_eq_true rfl | (simp; done)) ?_)))
      intro w23 m23 x23
      have hm24 : Hp Z0 No w w23 [boxR b1 35 [Str (y19.Name), .slice A20 (y19.Attrs).length c20, .int .i64 (y19.At), .int .i64 (y19.E)], ownR 40 A20 c20 T_api_Pair.rep y19.Attrs, boxR b7 35 [Str (y19.Name), .slice A20 (y19.Attrs).length c20, .int .i64 (y19.At), .int .i64 (y19.E)]] := hm22.st 0 rfl x23 m23
      refine Rn.regEnd ?_
      have hm26 := hm24.freeze 1 rfl
      refine Rn.retG1 Try.func16 rfl (rvC rfl Try.isAgg35 Try.sizeOf35 (hm24.get 0 rfl) rfl) ?_
      obtain rfl := someE hM
      exact ⟨A20, c20, rfl, hm26.pick [1] rfl (by decide)⟩
    intro hk1
    clear hj1
    refine Rn.block ?_
    have hm31 := hm11.addNil 40 T_api_Pair.rep
    refine Rn.loopF (G := Int × T_limnographref11_Got × Option Addr × Nat) (fun g => [(0, Str (x0)), (2, .pointer (some ⟨b1, 0, none⟩)), (3, .int .i64 ((g.1))), (4, .pointer (some ⟨b7, 0, none⟩))]) (fun g w' => Hp Z0 No w w' [boxR b1 35 [Str (([] : List UInt8)), .slice none 0 0, .int .i64 (0), .int .i64 (0)], ownR 40 (g.2.2.1) (g.2.2.2) T_api_Pair.rep (g.2.1).Attrs, boxR b7 35 [Str ((g.2.1).Name), .slice (g.2.2.1) ((g.2.1).Attrs).length (g.2.2.2), .int .i64 ((g.2.1).At), .int .i64 ((g.2.1).E)]]) (fun n g => m_limnographref11_Parse_L1 x0 j1 n g.1 g.2.1) fuel (p4, ({ Name := z6, Attrs := ([] : List T_api_Pair), At := 0, E := 0 } : T_limnographref11_Got), none, 0) (Sub.cons rfl (Sub.cons rfl (Sub.cons rfl (Sub.cons rfl (Sub.nil _))))) (hm31.pick [0, 2, 1] rfl (by decide)) hM (fun _ => rfl) ?_
    clear hM
    rintro m33 ⟨y27, y28, A29, c29⟩ w33 hm33 hM hn33
    replace hm33 : Hp Z0 No w w33 [boxR b1 35 [Str (([] : List UInt8)), .slice none 0 0, .int .i64 (0), .int .i64 (0)], ownR 40 A29 c29 T_api_Pair.rep y28.Attrs, boxR b7 35 [Str (y28.Name), .slice A29 (y28.Attrs).length c29, .int .i64 (y28.At), .int .i64 (y28.E)]] := hm33
    show Rn _ _ _ _ _ [(0, Str (x0)), (2, .pointer (some ⟨b1, 0, none⟩)), (3, .int .i64 (y27)), (4, .pointer (some ⟨b7, 0, none⟩))] _
    replace hM : m_limnographref11_Parse_L1 x0 j1 (m33 + 1) y27 y28 = some r := hM
    rw [m_limnographref11_Parse_L1] at hM
    refine Rn.seq (Rn.seq (Rn.reg (Rn.v rfl rfl rfl rfl (V.mv rfl) (Rn.v rfl rfl rfl rfl (V.mv rfl) (Rn.v rfl rfl rfl rfl (V.lenS Try.underlying9 rfl) (Rn.v rfl rfl rfl rfl (V.lss rfl rfl) (Rn.regEnd ?_)))))))
    refine Rn.condD rfl (fun h34 => ?_) (fun h34 => ?_)
    · replace hM := iteT h34 hM
      refine Rn.skip (Rn.block (Rn.seq (Rn.reg (Rn.v rfl rfl rfl rfl (V.mv rfl) (Rn.v rfl rfl rfl rfl (V.addW rfl rfl) (Rn.v rfl rfl rfl rfl (V.as rfl) (Rn.regEnd (Rn.seq (Rn.reg (Rn.v rfl rfl rfl rfl (V.mv rfl) (Rn.v rfl rfl rfl rfl (V.mv rfl) ?_)))))))))))
      obtain ⟨p35, e35, hM⟩ := bindE hM
      refine Rn.cl ck32 rfl rfl rfl rfl (m_limnographref11_find_sim (Z0 := All) _ x0 (W64 (y27 + 1)) (59 : UInt8)  e35) ?_
      rintro _ w35 ⟨rfl, hq35⟩
      refine ⟨_, rfl, ?_⟩
      have hm36 := hm33.call0 hq35
      refine Rn.v rfl rfl rfl rfl (V.as rfl) (Rn.regEnd (Rn.seq (Rn.reg (Rn.v rfl rfl rfl rfl (V.mv rfl) (Rn.v rfl rfl rfl rfl (V.mv rfl) (Rn.v rfl rfl rfl rfl (V.mv rfl) ?_))))))
      obtain ⟨z37, e37, hM⟩ := bindE hM
      refine Rn.v rfl rfl rfl rfl (V.cutSZ Try.underlying9 rfl e37 rfl rfl) (Rn.v rfl rfl rfl rfl (V.as rfl) (Rn.regEnd (Rn.seq (Rn.seq (Rn.reg (Rn.v rfl rfl rfl rfl (V.fa Try.underlying35 rfl Try.sizeOf22 rfl rfl) (Rn.v rfl rfl rfl rfl (V.ldB Try.isAgg22 rfl (hm36.get 2 rfl) rfl) (Rn.v rfl rfl rfl rfl (V.lenV Try.underlying22 rfl) (Rn.v rfl rfl rfl rfl (V.eql rfl rfl) (Rn.regEnd ?_))))))))))
      refine Rn.condD rfl (fun h38 => ?_) (fun h38 => ?_)
      · replace hM := iteT h38 hM
        refine Rn.seq (Rn.reg (Rn.v rfl rfl rfl rfl (V.mv rfl) (Rn.v rfl rfl rfl rfl (V.bldS st35 rfl rfl) (Rn.st rfl rfl Try.sizeOf35 rfl rfl rfl rfl (by first | exact ones rfl | (simp [Value.oneCell']; done)) (hm36.get 0 rfl) (by first | exact Nat.le_of_ble_eq_true rfl | (simp; done)) ?_))))
        intro w39 m39 x39
        have hm40 : Hp Z0 No w w39 [boxR b1 35 [Str (([] : List UInt8)), .slice none 0 0, .int .i64 (W64 (y27 + 1)), .int .i64 (4)], ownR 40 A29 c29 T_api_Pair.rep y28.Attrs, boxR b7 35 [Str (y28.Name), .slice A29 (y28.Attrs).length c29, .int .i64 (y28.At), .int .i64 (y28.E)]] := hm36.st 0 rfl x39 m39
        refine Rn.regEnd ?_
        have hm41 := hm40.addNil 40 T_api_Pair.rep
        have hm44 := hm41.freeze 3 rfl
        refine Rn.retG1 Try.func16 rfl (rvC rfl Try.isAgg35 Try.sizeOf35 (hm40.get 0 rfl) rfl) ?_
        obtain rfl := someE hM
        exact ⟨none, 0, rfl, hm44.pick [3] rfl (by decide)⟩
      · replace hM := iteF h38 hM
        refine Rn.skip (Rn.seq (Rn.reg (Rn.v rfl rfl rfl rfl (V.mv rfl) ?_)))
        obtain ⟨p45, e45, hM⟩ := bindE hM
        refine Rn.cl ck32 rfl rfl rfl rfl (m_limnographref11_find_sim (Z0 := All) _ z37 0 (61 : UInt8)  e45) ?_
        rintro _ w45 ⟨rfl, hq45⟩
        refine ⟨_, rfl, ?_⟩
        have hm46 := hm36.call0 hq45
        refine Rn.v rfl rfl rfl rfl (V.as rfl) (Rn.regEnd (Rn.seq (Rn.seq (Rn.reg (Rn.v rfl rfl rfl rfl (V.mv rfl) (Rn.v rfl rfl rfl rfl (V.mv rfl) (Rn.v rfl rfl rfl rfl (V.lenS Try.underlying9 rfl) (Rn.v rfl rfl rfl rfl (V.eql rfl rfl) (Rn.v rfl rfl rfl rfl (V.mv rfl) ?_)))))))))
        obtain ⟨j2, hj2, hM⟩ := jnE hM
        refine Rn.joinR (r := r) (G := Bool) [11, 12, 13, 14, 15, 16, 17, 18] (fun g => [(0, Str (x0)), (2, .pointer (some ⟨b1, 0, none⟩)), (3, .int .i64 (p35)), (4, .pointer (some ⟨b7, 0, none⟩)), (5, .int .i64 (W64 (y27 + 1))), (6, Str (z37)), (7, .int .i64 (p45)), (53, .bool (g))]) (fun g w' => Hp Z0 No w w' [boxR b1 35 [Str (([] : List UInt8)), .slice none 0 0, .int .i64 (0), .int .i64 (0)], ownR 40 A29 c29 T_api_Pair.rep y28.Attrs, boxR b7 35 [Str (y28.Name), .slice A29 (y28.Attrs).length c29, .int .i64 (y28.At), .int .i64 (y28.E)]]) (fun g => j2 g) ?_ ?_
        · subst hj2
          clear hM
          rintro y47 w48 hm48 hM
          replace hm48 : Hp Z0 No w w48 [boxR b1 35 [Str (([] : List UInt8)), .slice none 0 0, .int .i64 (0), .int .i64 (0)], ownR 40 A29 c29 T_api_Pair.rep y28.Attrs, boxR b7 35 [Str (y28.Name), .slice A29 (y28.Attrs).length c29, .int .i64 (y28.At), .int .i64 (y28.E)]] := hm48
          show Rn _ _ _ _ _ [(0, Str (x0)), (2, .pointer (some ⟨b1, 0, none⟩)), (3, .int .i64 (p35)), (4, .pointer (some ⟨b7, 0, none⟩)), (5, .int .i64 (W64 (y27 + 1))), (6, Str (z37)), (7, .int .i64 (p45)), (53, .bool (y47))] _
          try dsimp only at hM
          refine Rn.v rfl rfl rfl rfl (V.mv rfl) ?_
          obtain ⟨j3, hj3, hM⟩ := jnE hM
          refine Rn.joinR (r := r) (G := Bool) [] (fun g => [(0, Str (x0)), (2, .pointer (some ⟨b1, 0, none⟩)), (3, .int .i64 (p35)), (4, .pointer (some ⟨b7, 0, none⟩)), (5, .int .i64 (W64 (y27 + 1))), (6, Str (z37)), (7, .int .i64 (p45)), (61, .bool (g))]) (fun g w' => Hp Z0 No w w' [boxR b1 35 [Str (([] : List UInt8)), .slice none 0 0, .int .i64 (0), .int .i64 (0)], ownR 40 A29 c29 T_api_Pair.rep y28.Attrs, boxR b7 35 [Str (y28.Name), .slice A29 (y28.Attrs).length c29, .int .i64 (y28.At), .int .i64 (y28.E)]]) (fun g => j3 g) ?_ ?_
          · subst hj3
            clear hM
            rintro y49 w50 hm50 hM
            replace hm50 : Hp Z0 No w w50 [boxR b1 35 [Str (([] : List UInt8)), .slice none 0 0, .int .i64 (0), .int .i64 (0)], ownR 40 A29 c29 T_api_Pair.rep y28.Attrs, boxR b7 35 [Str (y28.Name), .slice A29 (y28.Attrs).length c29, .int .i64 (y28.At), .int .i64 (y28.E)]] := hm50
            show Rn _ _ _ _ _ [(0, Str (x0)), (2, .pointer (some ⟨b1, 0, none⟩)), (3, .int .i64 (p35)), (4, .pointer (some ⟨b7, 0, none⟩)), (5, .int .i64 (W64 (y27 + 1))), (6, Str (z37)), (7, .int .i64 (p45)), (61, .bool (y49))] _
            try dsimp only at hM
            refine Rn.regEnd ?_
            refine Rn.condS rfl (fun h51 => ?_) (fun h51 => ?_)
            · replace hM := iteT h51 hM
              refine Rn.seq (Rn.reg (Rn.v rfl rfl rfl rfl (V.mv rfl) (Rn.v rfl rfl rfl rfl (V.bldS st35 rfl rfl) (Rn.st rfl rfl Try.sizeOf35 rfl rfl rfl rfl (by first | exact ones rfl | (simp [Value.oneCell']; done)) (hm50.get 0 rfl) (by first | exact Nat.le_of_ble_eq_true rfl | (simp; done)) ?_))))
              intro w52 m52 x52
              have hm53 : Hp Z0 No w w52 [boxR b1 35 [Str (([] : List UInt8)), .slice none 0 0, .int .i64 (W64 (y27 + 1)), .int .i64 (3)], ownR 40 A29 c29 T_api_Pair.rep y28.Attrs, boxR b7 35 [Str (y28.Name), .slice A29 (y28.Attrs).length c29, .int .i64 (y28.At), .int .i64 (y28.E)]] := hm50.st 0 rfl x52 m52
              refine Rn.regEnd ?_
              have hm54 := hm53.addNil 40 T_api_Pair.rep
              have hm57 := hm54.freeze 3 rfl
              refine Rn.retG1 Try.func16 rfl (rvC rfl Try.isAgg35 Try.sizeOf35 (hm53.get 0 rfl) rfl) ?_
              obtain rfl := someE hM
              exact ⟨none, 0, rfl, hm57.pick [3] rfl (by decide)⟩
            · replace hM := iteF (by rw [h51]; exact Bool.false_ne_true) hM
              refine Rn.skip (Rn.seq ?_)
              refine Rn.drawH rfl hm50 ?_
              intro w58 hm58
              refine RH.take 0 (by kernel_rfl) rfl rfl rfl rfl (fun w' hDr => V.mv rfl) ?_
              refine RH.take 1 (by kernel_rfl) rfl rfl rfl rfl (fun w' hDr => V.mv rfl) ?_
              obtain ⟨z59, e59, hM⟩ := bindE hM
              refine RH.take 2 (by kernel_rfl) rfl rfl rfl rfl (fun w' hDr => V.cutSZ Try.underlying9 rfl e59 rfl rfl) ?_
              refine RH.take 3 (by kernel_rfl) rfl rfl rfl rfl (fun w' hDr => V.mv rfl) ?_
              refine RH.take 4 (by kernel_rfl) rfl rfl rfl rfl (fun w' hDr => V.mv rfl) ?_
              refine RH.take 5 (by kernel_rfl) rfl rfl rfl rfl (fun w' hDr => V.addW rfl rfl) ?_
              obtain ⟨z60, e60, hM⟩ := bindE hM
              refine RH.take 6 (by kernel_rfl) rfl rfl rfl rfl (fun w' hDr => V.cutSZ Try.underlying9 rfl e60 rfl rfl) ?_
              refine RH.take 7 (by kernel_rfl) rfl rfl rfl rfl (fun w' hDr => V.bldS st40 rfl rfl) ?_
              refine RH.alloc 8 (by kernel_rfl) rfl rfl rfl Try.zeroValue40 rfl ?_
              intro b61 w61 hb61 m61 e61
              have hfr61 : w58.heap.size ≤ b61 := by have hh := ((Ext.refl _) : Ext w58 w58).size; omega
              have hm63 : Hp Z0 No w w61 [boxR b1 35 [Str (([] : List UInt8)), .slice none 0 0, .int .i64 (0), .int .i64 (0)], ownR 40 A29 c29 T_api_Pair.rep y28.Attrs, boxR b7 35 [Str (y28.Name), .slice A29 (y28.Attrs).length c29, .int .i64 (y28.At), .int .i64 (y28.E)], boxR b61 40 [Str (([] : List UInt8)), Str (([] : List UInt8))]] := hm58.addBox hb61 e61 m61
              refine ⟨((Ext.refl _).trans e61), ?_⟩
              refine RH.st 9 (by kernel_rfl) rfl rfl Try.sizeOf40 rfl rfl rfl rfl (by first | exact ones rfl | (simp [Value.oneCell']; done)) (hm63.get 3 rfl) (by first | exact Nat.le_of_ble_eq_true rfl | (simp; done)) ?_
              intro w64 m64 x64
              have hm65 : Hp Z0 No w w64 [boxR b1 35 [Str (([] : List UInt8)), .slice none 0 0, .int .i64 (0), .int .i64 (0)], ownR 40 A29 c29 T_api_Pair.rep y28.Attrs, boxR b7 35 [Str (y28.Name), .slice A29 (y28.Attrs).length c29, .int .i64 (y28.At), .int .i64 (y28.E)], boxR b61 40 [Str (z59), Str (z60)]] := hm63.st 3 rfl x64 m64
              refine ⟨(ext_st ((Ext.refl _).trans e61) x64 hfr61), ?_⟩
              refine RH.doneP (by kernel_rfl) ?_
              refine Rn.seq (Rn.seq (Rn.reg (Rn.v rfl rfl rfl rfl (V.as rfl) (Rn.regEnd ?_))))
              obtain ⟨j4, hj4, hM⟩ := jnE hM
              refine Rn.joinG (r := r) (G := Unit) (fun g => [(0, Str (x0)), (2, .pointer (some ⟨b1, 0, none⟩)), (3, .int .i64 (p35)), (4, .pointer (some ⟨b7, 0, none⟩)), (5, .int .i64 (W64 (y27 + 1))), (8, .pointer (some ⟨b61, 0, none⟩))]) (fun g w' => Hp Z0 No w w' [boxR b1 35 [Str (([] : List UInt8)), .slice none 0 0, .int .i64 (0), .int .i64 (0)], ownR 40 A29 c29 T_api_Pair.rep y28.Attrs, boxR b7 35 [Str (y28.Name), .slice A29 (y28.Attrs).length c29, .int .i64 (y28.At), .int .i64 (y28.E)], boxR b61 40 [Str (z59), Str (z60)]]) (fun g => j4 ()) ?_ ?_
              · subst hj4
                clear hM
                rintro _ w66 hm66 hM
                replace hm66 : Hp Z0 No w w66 [boxR b1 35 [Str (([] : List UInt8)), .slice none 0 0, .int .i64 (0), .int .i64 (0)], ownR 40 A29 c29 T_api_Pair.rep y28.Attrs, boxR b7 35 [Str (y28.Name), .slice A29 (y28.Attrs).length c29, .int .i64 (y28.At), .int .i64 (y28.E)], boxR b61 40 [Str (z59), Str (z60)]] := hm66
                show Rn _ _ _ _ _ [(0, Str (x0)), (2, .pointer (some ⟨b1, 0, none⟩)), (3, .int .i64 (p35)), (4, .pointer (some ⟨b7, 0, none⟩)), (5, .int .i64 (W64 (y27 + 1))), (8, .pointer (some ⟨b61, 0, none⟩))] _
                try dsimp only at hM
                refine Rn.seq (Rn.seq (Rn.reg (Rn.v rfl rfl rfl rfl (V.fa Try.underlying35 rfl Try.sizeOf22 rfl rfl) (Rn.v rfl rfl rfl rfl (V.ldB Try.isAgg22 rfl (hm66.get 2 rfl) rfl) (Rn.v rfl rfl rfl rfl (V.lenV Try.underlying22 rfl) (Rn.v rfl rfl rfl rfl (V.as rfl) (Rn.regEnd (Rn.seq ?_))))))))
                obtain ⟨j5, hj5, hM⟩ := jnE hM
                refine Rn.joinG (r := r) (G := Bool) (fun g => [(0, Str (x0)), (2, .pointer (some ⟨b1, 0, none⟩)), (3, .int .i64 (p35)), (4, .pointer (some ⟨b7, 0, none⟩)), (5, .int .i64 (W64 (y27 + 1))), (8, .pointer (some ⟨b61, 0, none⟩)), (106, .bool (g))]) (fun g w' => Hp Z0 No w w' [boxR b1 35 [Str (([] : List UInt8)), .slice none 0 0, .int .i64 (0), .int .i64 (0)], ownR 40 A29 c29 T_api_Pair.rep y28.Attrs, boxR b7 35 [Str (y28.Name), .slice A29 (y28.Attrs).length c29, .int .i64 (y28.At), .int .i64 (y28.E)], boxR b61 40 [Str (z59), Str (z60)]]) (fun g => j5 g) ?_ ?_
                · subst hj5
                  clear hM
                  rintro y67 w68 hm68 hM
                  replace hm68 : Hp Z0 No w w68 [boxR b1 35 [Str (([] : List UInt8)), .slice none 0 0, .int .i64 (0), .int .i64 (0)], ownR 40 A29 c29 T_api_Pair.rep y28.Attrs, boxR b7 35 [Str (y28.Name), .slice A29 (y28.Attrs).length c29, .int .i64 (y28.At), .int .i64 (y28.E)], boxR b61 40 [Str (z59), Str (z60)]] := hm68
                  show Rn _ _ _ _ _ [(0, Str (x0)), (2, .pointer (some ⟨b1, 0, none⟩)), (3, .int .i64 (p35)), (4, .pointer (some ⟨b7, 0, none⟩)), (5, .int .i64 (W64 (y27 + 1))), (8, .pointer (some ⟨b61, 0, none⟩)), (106, .bool (y67))] _
                  try dsimp only at hM
                  refine Rn.condS rfl (fun h69 => ?_) (fun h69 => ?_)
                  · replace hM := iteT h69 hM
                    refine Rn.seq (Rn.reg (Rn.v rfl rfl rfl rfl (V.mv rfl) (Rn.v rfl rfl rfl rfl (V.bldS st35 rfl rfl) (Rn.st rfl rfl Try.sizeOf35 rfl rfl rfl rfl (by first | exact ones rfl | (simp [Value.oneCell']; done)) (hm68.get 0 rfl) (by first | exact Nat.le_of_ble_eq_true rfl | (simp; done)) ?_))))
                    intro w70 m70 x70
                    have hm71 : Hp Z0 No w w70 [boxR b1 35 [Str (([] : List UInt8)), .slice none 0 0, .int .i64 (W64 (y27 + 1)), .int .i64 (9)], ownR 40 A29 c29 T_api_Pair.rep y28.Attrs, boxR b7 35 [Str (y28.Name), .slice A29 (y28.Attrs).length c29, .int .i64 (y28.At), .int .i64 (y28.E)], boxR b61 40 [Str (z59), Str (z60)]] := hm68.st 0 rfl x70 m70
                    refine Rn.regEnd ?_
                    have hm72 := hm71.addNil 40 T_api_Pair.rep
                    have hm75 := hm72.freeze 4 rfl
                    refine Rn.retG1 Try.func16 rfl (rvC rfl Try.isAgg35 Try.sizeOf35 (hm71.get 0 rfl) rfl) ?_
                    obtain rfl := someE hM
                    exact ⟨none, 0, rfl, hm75.pick [4] rfl (by decide)⟩
                  · replace hM := iteF (by rw [h69]; exact Bool.false_ne_true) hM
                    refine Rn.skip (Rn.reg (Rn.v rfl rfl rfl rfl (V.fa Try.underlying35 rfl Try.sizeOf22 rfl rfl) (Rn.v rfl rfl rfl rfl (V.ldB Try.isAgg22 rfl (hm68.get 2 rfl) rfl) (Rn.v rfl rfl rfl rfl (V.ldBA _ Try.isAgg40 Try.sizeOf40 rfl (hm68.get 3 rfl) rfl rfl) ?_))))
                    obtain ⟨z76, e76, hM⟩ := bindE hM
                    refine Rn.pushH (z := ({ Key := z59, Val := z60 } : T_api_Pair)) (vs := [Str (z59), Str (z60)]) hm68 1 rfl e76 rfl rfl rfl rfl Try.underlying22 el40 rfl rfl rfl rfl (fun _ => rfl) (⟨_, _, rfl, ⟨rfl, trivial⟩, ⟨rfl, trivial⟩⟩) ?_
                    intro A76 c76 w76 u76 hm76
                    refine Rn.v rfl rfl rfl rfl (V.fa Try.underlying35 rfl Try.sizeOf22 rfl rfl) (Rn.st rfl rfl Try.sizeOf22 rfl rfl rfl rfl (by first | exact ones rfl | (simp [Value.oneCell']; done)) (hm76.get 2 rfl) (by first | exact Nat.le_of_ble_eq_true rfl | (simp; done)) ?_)
                    intro w78 m78 x78
                    have hm79 : Hp Z0 No w w78 [boxR b1 35 [Str (([] : List UInt8)), .slice none 0 0, .int .i64 (0), .int .i64 (0)], ownR 40 A76 c76 T_api_Pair.rep z76, boxR b7 35 [Str (y28.Name), .slice A76 (z76).length c76, .int .i64 (y28.At), .int .i64 (y28.E)], boxR b61 40 [Str (z59), Str (z60)]] := hm76.st 2 rfl x78 m78
                    refine Rn.regEnd (Rn.inBlock ?_)
                    exact hn33 (p35, ({ Name := y28.Name, Attrs := z76, At := y28.At, E := y28.E } : T_limnographref11_Got), A76, c76) _ _ (Sub.cons rfl (Sub.cons rfl (Sub.cons rfl (Sub.cons rfl (Sub.nil _))))) (hm79.pick [0, 1, 2] rfl (by decide)) hM
                intro hk5
                clear hj5
                refine Rn.drawP rfl hm66 ?_
                intro w80 hm80
                refine RH.takeP 0 (by kernel_rfl) rfl rfl rfl rfl (V.mv rfl) ?_
                refine RH.takeP 1 (by kernel_rfl) rfl rfl rfl rfl (V.gtr rfl rfl) ?_
                refine RH.takeP 2 (by kernel_rfl) rfl rfl rfl rfl (V.mv rfl) ?_
                refine RH.partD (t := 95) rfl (fun h81 => ?_) (fun h81 => ?_)
                · replace hM := iteT h81 hM
                  refine RH.takeP 3 (by kernel_rfl) rfl rfl rfl rfl (V.fa Try.underlying40 rfl Try.sizeOf9 rfl rfl) ?_
                  refine RH.takeP 4 (by kernel_rfl) rfl rfl rfl rfl (V.ldB Try.isAgg9 rfl (hm80.get 3 rfl) rfl) ?_
                  refine RH.takeP 5 (by kernel_rfl) rfl rfl rfl rfl (V.fa Try.underlying35 rfl Try.sizeOf22 rfl rfl) ?_
                  refine RH.takeP 6 (by kernel_rfl) rfl rfl rfl rfl (V.ldB Try.isAgg22 rfl (hm80.get 2 rfl) rfl) ?_
                  refine RH.takeP 7 (by kernel_rfl) rfl rfl rfl rfl (V.mv rfl) ?_
                  refine RH.takeP 8 (by kernel_rfl) rfl rfl rfl rfl (V.subW rfl rfl) ?_
                  obtain ⟨z82, e82, hM⟩ := bindE hM
                  obtain ⟨kk82, ke82, kz82, kl82⟩ := idxE e82
                  obtain ⟨g82, vs82, hA82, hR82, hrel82⟩ := hm80.ownAt 1 rfl kz82
                  subst hA82
                  obtain ⟨_, _, rfl, ⟨rfl, _⟩, ⟨rfl, _⟩⟩ := hrel82
                  refine RH.takeP 9 (by kernel_rfl) rfl rfl rfl rfl (V.ixE kk82 Try.underlying22 Try.sizeOf40 rfl rfl ke82 kl82) ?_
                  refine RH.takeP 10 (by kernel_rfl) rfl rfl rfl rfl (V.fa Try.underlying40 rfl Try.sizeOf9 rfl rfl) ?_
                  refine RH.takeP 11 (by kernel_rfl) rfl rfl rfl rfl (V.ldR0 Try.isAgg9 rfl hR82 rfl) ?_
                  refine RH.takeP 12 (by kernel_rfl) rfl rfl rfl rfl (V.lssS rfl rfl) ?_
                  refine RH.takeP 13 (by kernel_rfl) rfl rfl rfl rfl (V.pkT rfl rfl) ?_
                  refine RH.doneP (by kernel_rfl) ?_
                  exact hk5 (Op.bytesLess z59 z82.Key) _ _ (Sub.cons rfl (Sub.cons rfl (Sub.cons rfl (Sub.cons rfl (Sub.cons rfl (Sub.cons rfl (Sub.cons rfl (Sub.nil _)))))))) (hm80.pick [0, 1, 2, 3] rfl (by decide)) hM
                · replace hM := iteF h81 hM
                  refine RH.no 3 (by kernel_rfl) rfl rfl rfl rfl ?_
                  refine RH.no 4 (by kernel_rfl) rfl rfl rfl rfl ?_
                  refine RH.no 5 (by kernel_rfl) rfl rfl rfl rfl ?_
                  refine RH.no 6 (by kernel_rfl) rfl rfl rfl rfl ?_
                  refine RH.no 7 (by kernel_rfl) rfl rfl rfl rfl ?_
                  refine RH.no 8 (by kernel_rfl) rfl rfl rfl rfl ?_
                  refine RH.no 9 (by kernel_rfl) rfl rfl rfl rfl ?_
                  refine RH.no 10 (by kernel_rfl) rfl rfl rfl rfl ?_
                  refine RH.no 11 (by kernel_rfl) rfl rfl rfl rfl ?_
                  refine RH.no 12 (by kernel_rfl) rfl rfl rfl rfl ?_
                  refine RH.takeP 13 (by kernel_rfl) rfl rfl rfl rfl (V.pkF rfl rfl) ?_
                  refine RH.doneP (by kernel_rfl) ?_
                  exact hk5 false _ _ (Sub.cons rfl (Sub.cons rfl (Sub.cons rfl (Sub.cons rfl (Sub.cons rfl (Sub.cons rfl (Sub.cons rfl (Sub.nil _)))))))) (hm80.pick [0, 1, 2, 3] rfl (by decide)) hM
              intro hk4
              clear hj4
              refine Rn.block ?_
              refine Rn.loopF (G := Int) (fun g => [(0, Str (x0)), (2, .pointer (some ⟨b1, 0, none⟩)), (3, .int .i64 (p35)), (4, .pointer (some ⟨b7, 0, none⟩)), (5, .int .i64 (W64 (y27 + 1))), (8, .pointer (some ⟨b61, 0, none⟩)), (9, .int .i64 (g))]) (fun g w' => Hp Z0 No w w' [boxR b1 35 [Str (([] : List UInt8)), .slice none 0 0, .int .i64 (0), .int .i64 (0)], ownR 40 A29 c29 T_api_Pair.rep y28.Attrs, boxR b7 35 [Str (y28.Name), .slice A29 (y28.Attrs).length c29, .int .i64 (y28.At), .int .i64 (y28.E)], boxR b61 40 [Str (z59), Str (z60)]]) (fun n g => m_limnographref11_Parse_L2 y27 y28 z59 j4 n g) fuel 0 (Sub.cons rfl (Sub.cons rfl (Sub.cons rfl (Sub.cons rfl (Sub.cons rfl (Sub.cons rfl (Sub.cons rfl (Sub.nil _)))))))) (hm65.pick [0, 1, 2, 3] rfl (by decide)) hM (fun _ => rfl) ?_
              clear hM
              rintro m84 y83 w84 hm84 hM hn84
              replace hm84 : Hp Z0 No w w84 [boxR b1 35 [Str (([] : List UInt8)), .slice none 0 0, .int .i64 (0), .int .i64 (0)], ownR 40 A29 c29 T_api_Pair.rep y28.Attrs, boxR b7 35 [Str (y28.Name), .slice A29 (y28.Attrs).length c29, .int .i64 (y28.At), .int .i64 (y28.E)], boxR b61 40 [Str (z59), Str (z60)]] := hm84
              show Rn _ _ _ _ _ [(0, Str (x0)), (2, .pointer (some ⟨b1, 0, none⟩)), (3, .int .i64 (p35)), (4, .pointer (some ⟨b7, 0, none⟩)), (5, .int .i64 (W64 (y27 + 1))), (8, .pointer (some ⟨b61, 0, none⟩)), (9, .int .i64 (y83))] _
              replace hM : m_limnographref11_Parse_L2 y27 y28 z59 j4 (m84 + 1) y83 = some r := hM
              rw [m_limnographref11_Parse_L2] at hM
              refine Rn.seq (Rn.seq (Rn.reg (Rn.v rfl rfl rfl rfl (V.mv rfl) (Rn.v rfl rfl rfl rfl (V.fa Try.underlying35 rfl Try.sizeOf22 rfl rfl) (Rn.v rfl rfl rfl rfl (V.ldB Try.isAgg22 rfl (hm84.get 2 rfl) rfl) (Rn.v rfl rfl rfl rfl (V.lenV Try.underlying22 rfl) (Rn.v rfl rfl rfl rfl (V.lss rfl rfl) (Rn.regEnd ?_))))))))
              refine Rn.condD rfl (fun h85 => ?_) (fun h85 => ?_)
              · replace hM := iteT h85 hM
                refine Rn.skip (Rn.seq (Rn.block (Rn.seq ?_)))
                refine Rn.drawP rfl hm84 ?_
                intro w86 hm86
                refine RH.takeP 0 (by kernel_rfl) rfl rfl rfl rfl (V.fa Try.underlying35 rfl Try.sizeOf22 rfl rfl) ?_
                refine RH.takeP 1 (by kernel_rfl) rfl rfl rfl rfl (V.ldB Try.isAgg22 rfl (hm86.get 2 rfl) rfl) ?_
                refine RH.takeP 2 (by kernel_rfl) rfl rfl rfl rfl (V.mv rfl) ?_
                obtain ⟨z87, e87, hM⟩ := bindE hM
                obtain ⟨kk87, ke87, kz87, kl87⟩ := idxE e87
                obtain ⟨g87, vs87, hA87, hR87, hrel87⟩ := hm86.ownAt 1 rfl kz87
                subst hA87
                obtain ⟨_, _, rfl, ⟨rfl, _⟩, ⟨rfl, _⟩⟩ := hrel87
                refine RH.takeP 3 (by kernel_rfl) rfl rfl rfl rfl (V.ixE kk87 Try.underlying22 Try.sizeOf40 rfl rfl ke87 kl87) ?_
                refine RH.takeP 4 (by kernel_rfl) rfl rfl rfl rfl (V.fa Try.underlying40 rfl Try.sizeOf9 rfl rfl) ?_
                refine RH.takeP 5 (by kernel_rfl) rfl rfl rfl rfl (V.ldR0 Try.isAgg9 rfl hR87 rfl) ?_
                refine RH.takeP 6 (by kernel_rfl) rfl rfl rfl rfl (V.fa Try.underlying40 rfl Try.sizeOf9 rfl rfl) ?_
                refine RH.takeP 7 (by kernel_rfl) rfl rfl rfl rfl (V.ldB Try.isAgg9 rfl (hm86.get 3 rfl) rfl) ?_
                refine RH.takeP 8 (by kernel_rfl) rfl rfl rfl rfl (V.eqlS rfl rfl) ?_
                refine RH.doneP (by kernel_rfl) ?_
                refine Rn.condD rfl (fun h88 => ?_) (fun h88 => ?_)
                · replace hM := iteT h88 hM
                  refine Rn.seq (Rn.reg (Rn.v rfl rfl rfl rfl (V.mv rfl) (Rn.v rfl rfl rfl rfl (V.bldS st35 rfl rfl) (Rn.st rfl rfl Try.sizeOf35 rfl rfl rfl rfl (by first | exact ones rfl | (simp [Value.oneCell']; done)) (hm86.get 0 rfl) (by first | exact Nat.le_of_ble_eq_true rfl | (simp; done)) ?_))))
                  intro w89 m89 x89
                  have hm90 : Hp Z0 No w w89 [boxR b1 35 [Str (([] : List UInt8)), .slice none 0 0, .int .i64 (W64 (y27 + 1)), .int .i64 (8)], ownR 40 (some ⟨g87, 0, none⟩) c29 T_api_Pair.rep y28.Attrs, boxR b7 35 [Str (y28.Name), .slice (some ⟨g87, 0, none⟩) (y28.Attrs).length c29, .int .i64 (y28.At), .int .i64 (y28.E)], boxR b61 40 [Str (z59), Str (z60)]] := hm86.st 0 rfl x89 m89
                  refine Rn.regEnd ?_
                  have hm91 := hm90.addNil 40 T_api_Pair.rep
                  have hm94 := hm91.freeze 4 rfl
                  refine Rn.retG1 Try.func16 rfl (rvC rfl Try.isAgg35 Try.sizeOf35 (hm90.get 0 rfl) rfl) ?_
                  obtain rfl := someE hM
                  exact ⟨none, 0, rfl, hm94.pick [4] rfl (by decide)⟩
                · replace hM := iteF h88 hM
                  refine Rn.skip (Rn.inBlock (Rn.reg (Rn.v rfl rfl rfl rfl (V.mv rfl) (Rn.v rfl rfl rfl rfl (V.addW rfl rfl) (Rn.v rfl rfl rfl rfl (V.as rfl) (Rn.regEnd ?_))))))
                  exact hn84 (W64 (y83 + 1)) _ _ (Sub.cons rfl (Sub.cons rfl (Sub.cons rfl (Sub.cons rfl (Sub.cons rfl (Sub.cons rfl (Sub.cons rfl (Sub.nil _)))))))) (hm86.pick [0, 1, 2, 3] rfl (by decide)) hM
              · replace hM := iteF h85 hM
                refine Rn.exit rfl ?_
                exact hk4 () _ _ (Sub.cons rfl (Sub.cons rfl (Sub.cons rfl (Sub.cons rfl (Sub.cons rfl (Sub.cons rfl (Sub.nil _))))))) (hm84.pick [0, 1, 2, 3] rfl (by decide)) hM
          intro hk3
          clear hj3
          refine Rn.part (t := 54) rfl (fun h95 => ?_) (fun h95 => ?_)
          · replace hM := iteT h95 hM
            refine Rn.no rfl rfl rfl rfl (Rn.no rfl rfl rfl rfl (Rn.no rfl rfl rfl rfl (Rn.no rfl rfl rfl rfl (Rn.no rfl rfl rfl rfl (Rn.no rfl rfl rfl rfl (Rn.v rfl rfl rfl rfl (V.pkT rfl rfl) ?_))))))
            exact hk3 true _ _ (Sub.cons rfl (Sub.cons rfl (Sub.cons rfl (Sub.cons rfl (Sub.cons rfl (Sub.cons rfl (Sub.cons rfl (Sub.cons rfl (Sub.nil _))))))))) (hm48.pick [0, 1, 2] rfl (by decide)) hM
          · replace hM := iteF (by rw [h95]; exact Bool.false_ne_true) hM
            refine Rn.v rfl rfl rfl rfl (V.mv rfl) (Rn.v rfl rfl rfl rfl (V.mv rfl) (Rn.v rfl rfl rfl rfl (V.addW rfl rfl) ?_))
            obtain ⟨z96, e96, hM⟩ := bindE hM
            refine Rn.v rfl rfl rfl rfl (V.cutSZ Try.underlying9 rfl e96 rfl rfl) ?_
            obtain ⟨p97, e97, hM⟩ := bindE hM
            refine Rn.cl ck34 rfl rfl rfl rfl (m_limnographref11_Value_sim (Z0 := All) _ z96  e97) ?_
            rintro _ w97 ⟨rfl, hq97⟩
            refine ⟨_, rfl, ?_⟩
            have hm98 := hm48.call0 hq97
            refine Rn.v rfl rfl rfl rfl (V.notB rfl) (Rn.v rfl rfl rfl rfl (V.pkF rfl rfl) ?_)
            exact hk3 (!p97) _ _ (Sub.cons rfl (Sub.cons rfl (Sub.cons rfl (Sub.cons rfl (Sub.cons rfl (Sub.cons rfl (Sub.cons rfl (Sub.cons rfl (Sub.nil _))))))))) (hm98.pick [0, 1, 2] rfl (by decide)) hM
        intro hk2
        clear hj2
        refine Rn.partD (t := 47) rfl (fun h99 => ?_) (fun h99 => ?_)
        · replace hM := iteT h99 hM
          refine Rn.no rfl rfl rfl rfl (Rn.no rfl rfl rfl rfl (Rn.no rfl rfl rfl rfl (Rn.no rfl rfl rfl rfl (Rn.no rfl rfl rfl rfl (Rn.v rfl rfl rfl rfl (V.pkT rfl rfl) ?_)))))
          exact hk2 true _ _ (Sub.cons rfl (Sub.cons rfl (Sub.cons rfl (Sub.cons rfl (Sub.cons rfl (Sub.cons rfl (Sub.cons rfl (Sub.cons rfl (Sub.nil _))))))))) (hm46.pick [0, 1, 2] rfl (by decide)) hM
        · replace hM := iteF h99 hM
          refine Rn.v rfl rfl rfl rfl (V.mv rfl) (Rn.v rfl rfl rfl rfl (V.mv rfl) ?_)
          obtain ⟨z100, e100, hM⟩ := bindE hM
          refine Rn.v rfl rfl rfl rfl (V.cutSZ Try.underlying9 rfl e100 rfl rfl) ?_
          obtain ⟨p101, e101, hM⟩ := bindE hM
          refine Rn.cl ck33 rfl rfl rfl rfl (m_limnographref11_Name_sim (Z0 := All) _ z100  e101) ?_
          rintro _ w101 ⟨rfl, hq101⟩
          refine ⟨_, rfl, ?_⟩
          have hm102 := hm46.call0 hq101
          refine Rn.v rfl rfl rfl rfl (V.notB rfl) (Rn.v rfl rfl rfl rfl (V.pkF rfl rfl) ?_)
          exact hk2 (!p101) _ _ (Sub.cons rfl (Sub.cons rfl (Sub.cons rfl (Sub.cons rfl (Sub.cons rfl (Sub.cons rfl (Sub.cons rfl (Sub.cons rfl (Sub.nil _))))))))) (hm102.pick [0, 1, 2] rfl (by decide)) hM
    · replace hM := iteF h34 hM
      refine Rn.exit rfl ?_
      exact hk1 (({ Name := y28.Name, Attrs := y28.Attrs, At := y28.At, E := y28.E } : T_limnographref11_Got), A29, c29) _ _ (Sub.cons rfl (Sub.cons rfl (Sub.nil _))) (hm33.pick [0, 1, 2] rfl (by decide)) hM

set_option maxRecDepth 20000 in
theorem m_limnographlaw11_LabelParses_sim {Z0 : Nat → Prop} (w : World) (x0 : (List UInt8)) {r : Bool}  (hM : m_limnographlaw11_LabelParses x0 = some r) :
    Calls Try.prog 4 #[Str (x0)] w fun x w' => x = .returned (.bool (r)) ∧ Hp Z0 No w w' [] := by
  have hm0 := Hp.nil Z0 No w
  have hc0 := Calm.nil
  refine Rn.enter Try.func4 rfl rfl (Nat.le_of_ble_eq_true rfl) ?_
  refine Rn.seq (Rn.reg (Rn.v rfl rfl rfl rfl (V.as rfl) (Rn.regEnd (Rn.seq (Rn.seq (Rn.reg ?_))))))
  obtain ⟨p1, e1, hM⟩ := bindE hM
  refine Rn.cl ck7 rfl rfl rfl rfl (m_limnographlaw11_awake_sim (Z0 := All) _   e1) ?_
  rintro _ w1 ⟨rfl, hq1⟩
  refine ⟨_, rfl, ?_⟩
  have hm2 := hm0.call0 hq1
  refine Rn.v rfl rfl rfl rfl (V.notB rfl) (Rn.regEnd ?_)
  refine Rn.condS rfl (fun h3 => ?_) (fun h3 => ?_)
  · replace hM := iteT h3 hM
    refine Rn.seq (Rn.reg (Rn.v rfl rfl rfl rfl (V.as rfl) (Rn.regEnd ?_)))
    refine Rn.retG1 Try.func4 rfl (rvT rfl) ?_
    obtain rfl := someE hM
    exact ⟨rfl, hm2.pick [] rfl (by decide)⟩
  · replace hM := iteF (by rw [h3]; exact Bool.false_ne_true) hM
    refine Rn.skip (Rn.seq (Rn.seq (Rn.reg (Rn.v rfl rfl rfl rfl (V.mv rfl) (Rn.v rfl rfl rfl rfl (V.lenS Try.underlying9 rfl) (Rn.v rfl rfl rfl rfl (V.gtr rfl rfl) (Rn.regEnd ?_)))))))
    refine Rn.condD rfl (fun h4 => ?_) (fun h4 => ?_)
    · replace hM := iteT h4 hM
      refine Rn.seq (Rn.reg (Rn.v rfl rfl rfl rfl (V.as rfl) (Rn.regEnd ?_)))
      refine Rn.retG1 Try.func4 rfl (rvT rfl) ?_
      obtain rfl := someE hM
      exact ⟨rfl, hm2.pick [] rfl (by decide)⟩
    · replace hM := iteF h4 hM
      refine Rn.skip (Rn.seq (Rn.reg (Rn.v rfl rfl rfl rfl (V.mv rfl) ?_)))
      obtain ⟨p5, e5, hM⟩ := bindE hM
      refine Rn.cl ck15 rfl rfl rfl rfl (m_label_Parse_sim (Z0 := All) _ x0  e5) ?_
      rintro _ w5 ⟨A5_1_0, c5_1_0, rfl, hq5⟩
      refine ⟨_, rfl, ?_⟩
      have hm7 : Hp Z0 No w w5 [ownR 40 A5_1_0 c5_1_0 T_api_Pair.rep p5.2.1] := hm2.callF (flC (ownR_flat T_api_Pair.flat _ _ _ _) fl0) hq5
      refine Rn.v rfl rfl rfl rfl (V.mv rfl) (Rn.v rfl rfl rfl rfl (V.ext rfl rfl) (Rn.v rfl rfl rfl rfl (V.ext rfl rfl) (Rn.v rfl rfl rfl rfl (V.ext rfl rfl) (Rn.v rfl rfl rfl rfl (V.ext rfl rfl) (Rn.v rfl rfl rfl rfl (V.as rfl) (Rn.v rfl rfl rfl rfl (V.as rfl) (Rn.v rfl rfl rfl rfl (V.as rfl) (Rn.v rfl rfl rfl rfl (V.as rfl) (Rn.regEnd (Rn.seq (Rn.reg (Rn.v rfl rfl rfl rfl (V.mv rfl) ?_))))))))))))
      obtain ⟨p8, e8, hM⟩ := bindE hM
      refine Rn.cl ck16 rfl rfl rfl rfl (m_limnographref11_Parse_sim (Z0 := Zo Z0 No w [ownR 40 A5_1_0 c5_1_0 T_api_Pair.rep p5.2.1]) _ x0  e8) ?_
      rintro _ w8 ⟨A8_0_0, c8_0_0, rfl, hq8⟩
      refine ⟨_, rfl, ?_⟩
      have hm10 : Hp Z0 No w w8 [ownR 40 A5_1_0 c5_1_0 T_api_Pair.rep p5.2.1, slR A8_0_0 c8_0_0 T_api_Pair.rep p8.Attrs] := hm7.callZ hq8
      refine Rn.als rfl rfl rfl Try.zeroValue35 rfl Try.sizeOf35 rfl rfl rfl rfl (by first | exact ones rfl | (simp [Value.oneCell']; done)) ?_
      intro b11 w11 hb11 m11 e11
      have hm13 : Hp Z0 No w w11 [ownR 40 A5_1_0 c5_1_0 T_api_Pair.rep p5.2.1, slR A8_0_0 c8_0_0 T_api_Pair.rep p8.Attrs, boxR b11 35 [Str (p8.Name), .slice A8_0_0 (p8.Attrs).length c8_0_0, .int .i64 (p8.At), .int .i64 (p8.E)]] := hm10.addBox hb11 e11 m11
      refine Rn.regEnd (Rn.seq (Rn.seq (Rn.reg (Rn.v rfl rfl rfl rfl (V.mv rfl) (Rn.v rfl rfl rfl rfl (V.fa Try.underlying35 rfl Try.sizeOf9 rfl rfl) (Rn.v rfl rfl rfl rfl (V.ldB Try.isAgg9 rfl (hm13.get 2 rfl) rfl) (Rn.v rfl rfl rfl rfl (V.neqS rfl rfl) (Rn.v rfl rfl rfl rfl (V.mv rfl) ?_))))))))
      obtain ⟨j1, hj1, hM⟩ := jnE hM
      refine Rn.joinR (r := r) (G := Bool) [11, 12, 13, 14, 15, 16, 17, 18, 19, 20, 21, 22] (fun g => [(0, Str (x0)), (3, Str (p5.1)), (4, .slice A5_1_0 (p5.2.1).length c5_1_0), (5, .int .i64 (p5.2.2.1)), (6, .int .i64 (p5.2.2.2)), (7, .pointer (some ⟨b11, 0, none⟩)), (34, .bool (g))]) (fun g w' => Hp Z0 No w w' [ownR 40 A5_1_0 c5_1_0 T_api_Pair.rep p5.2.1, slR A8_0_0 c8_0_0 T_api_Pair.rep p8.Attrs, boxR b11 35 [Str (p8.Name), .slice A8_0_0 (p8.Attrs).length c8_0_0, .int .i64 (p8.At), .int .i64 (p8.E)]]) (fun g => j1 g) ?_ ?_
      · subst hj1
        clear hM
        rintro y14 w15 hm15 hM
        replace hm15 : Hp Z0 No w w15 [ownR 40 A5_1_0 c5_1_0 T_api_Pair.rep p5.2.1, slR A8_0_0 c8_0_0 T_api_Pair.rep p8.Attrs, boxR b11 35 [Str (p8.Name), .slice A8_0_0 (p8.Attrs).length c8_0_0, .int .i64 (p8.At), .int .i64 (p8.E)]] := hm15
        show Rn _ _ _ _ _ [(0, Str (x0)), (3, Str (p5.1)), (4, .slice A5_1_0 (p5.2.1).length c5_1_0), (5, .int .i64 (p5.2.2.1)), (6, .int .i64 (p5.2.2.2)), (7, .pointer (some ⟨b11, 0, none⟩)), (34, .bool (y14))] _
        try dsimp only at hM
        refine Rn.v rfl rfl rfl rfl (V.mv rfl) ?_
        refine Rn.cutR [17, 18, 19, 20, 21, 22] [(0, Str (x0)), (3, Str (p5.1)), (4, .slice A5_1_0 (p5.2.1).length c5_1_0), (6, .int .i64 (p5.2.2.2)), (7, .pointer (some ⟨b11, 0, none⟩)), (40, .bool (decide ((y14 = true) ∨ (p5.2.2.1 ≠ p8.At))))] (fun hk16 => ?_) ?_
        · refine Rn.part (t := 35) rfl (fun h17 => ?_) (fun h17 => ?_)
          · refine Rn.no rfl rfl rfl rfl (Rn.no rfl rfl rfl rfl (Rn.no rfl rfl rfl rfl (Rn.no rfl rfl rfl rfl (Rn.v rfl rfl rfl rfl (V.pkT rfl rfl) ?_))))
            refine hk16 _ ?_
            exact Sub.cons rfl (Sub.cons rfl (Sub.cons rfl (Sub.cons rfl (Sub.cons rfl (Sub.cons (lkv _ rfl (by first | exact andT h17 | exact andF h17 | exact orT h17 | exact orF h17 | exact nandF h17 | exact nandT h17 | exact norT h17 | exact norF h17 | (simp [h17]; done) | grind)) (Sub.nil _))))))
          · refine Rn.v rfl rfl rfl rfl (V.mv rfl) (Rn.v rfl rfl rfl rfl (V.fa Try.underlying35 rfl Try.sizeOf3 rfl rfl) (Rn.v rfl rfl rfl rfl (V.ldB Try.isAgg3 rfl (hm15.get 2 rfl) rfl) (Rn.v rfl rfl rfl rfl (V.neq rfl rfl) (Rn.v rfl rfl rfl rfl (V.pkF rfl rfl) ?_))))
            refine hk16 _ ?_
            exact Sub.cons rfl (Sub.cons rfl (Sub.cons rfl (Sub.cons rfl (Sub.cons rfl (Sub.cons (lkv _ rfl (by first | exact andT h17 | exact andF h17 | exact orT h17 | exact orF h17 | exact nandF h17 | exact nandT h17 | exact norT h17 | exact norF h17 | (simp [h17]; done) | grind)) (Sub.nil _))))))
        refine Rn.v rfl rfl rfl rfl (V.mv rfl) ?_
        refine Rn.cutR [] [(0, Str (x0)), (3, Str (p5.1)), (4, .slice A5_1_0 (p5.2.1).length c5_1_0), (6, .int .i64 (p5.2.2.2)), (46, .bool (decide (((y14 = true) ∨ (p5.2.2.1 ≠ p8.At)) ∨ (p5.2.2.2 ≠ p8.E))))] (fun hk18 => ?_) ?_
        · refine Rn.partD (t := 41) rfl (fun h19 => ?_) (fun h19 => ?_)
          · refine Rn.no rfl rfl rfl rfl (Rn.no rfl rfl rfl rfl (Rn.no rfl rfl rfl rfl (Rn.no rfl rfl rfl rfl (Rn.v rfl rfl rfl rfl (V.pkT rfl rfl) ?_))))
            refine hk18 _ ?_
            exact Sub.cons rfl (Sub.cons rfl (Sub.cons rfl (Sub.cons rfl (Sub.cons (lkv _ rfl (by first | exact andT h19 | exact andF h19 | exact orT h19 | exact orF h19 | exact nandF h19 | exact nandT h19 | exact norT h19 | exact norF h19 | (simp [h19]; done) | grind)) (Sub.nil _)))))
          · refine Rn.v rfl rfl rfl rfl (V.mv rfl) (Rn.v rfl rfl rfl rfl (V.fa Try.underlying35 rfl Try.sizeOf25 rfl rfl) (Rn.v rfl rfl rfl rfl (V.ldB Try.isAgg25 rfl (hm15.get 2 rfl) rfl) (Rn.v rfl rfl rfl rfl (V.neq rfl rfl) (Rn.v rfl rfl rfl rfl (V.pkF rfl rfl) ?_))))
            refine hk18 _ ?_
            exact Sub.cons rfl (Sub.cons rfl (Sub.cons rfl (Sub.cons rfl (Sub.cons (lkv _ rfl (by first | exact andT h19 | exact andF h19 | exact orT h19 | exact orF h19 | exact nandF h19 | exact nandT h19 | exact norT h19 | exact norF h19 | (simp [h19]; done) | grind)) (Sub.nil _)))))
        refine Rn.regEnd ?_
        refine Rn.condD rfl (fun h20 => ?_) (fun h20 => ?_)
        · replace hM := iteT h20 hM
          refine Rn.seq (Rn.reg (Rn.v rfl rfl rfl rfl (V.as rfl) (Rn.regEnd ?_)))
          refine Rn.retG1 Try.func4 rfl (rvT rfl) ?_
          obtain rfl := someE hM
          exact ⟨rfl, hm15.pick [] rfl (by decide)⟩
        · replace hM := iteF h20 hM
          refine Rn.skip (Rn.seq (Rn.seq (Rn.reg (Rn.v rfl rfl rfl rfl (V.mv rfl) (Rn.v rfl rfl rfl rfl (V.neq rfl rfl) (Rn.regEnd ?_))))))
          refine Rn.condD rfl (fun h21 => ?_) (fun h21 => ?_)
          · replace hM := iteT h21 hM
            refine Rn.seq (Rn.reg (Rn.v rfl rfl rfl rfl (V.as rfl) (Rn.regEnd ?_)))
            refine Rn.retG1 Try.func4 rfl (rvT rfl) ?_
            obtain rfl := someE hM
            exact ⟨rfl, hm15.pick [] rfl (by decide)⟩
          · replace hM := iteF h21 hM
            refine Rn.skip (Rn.seq (Rn.reg (Rn.v rfl rfl rfl rfl (V.mv rfl) (Rn.v rfl rfl rfl rfl (V.mv rfl) ?_))))
            obtain ⟨p22, e22, hM⟩ := bindE hM
            refine Rn.cl ck9 rfl rfl rfl rfl (m_label_Text_sim (Z0 := All) _ p5.1 A5_1_0 c5_1_0 p5.2.1 (own_slR (hm15.get 0 rfl)) e22) ?_
            rintro _ w22 ⟨rfl, hq22⟩
            refine ⟨_, rfl, ?_⟩
            have hm23 := hm15.call0 hq22
            refine Rn.v rfl rfl rfl rfl (V.mv rfl) (Rn.v rfl rfl rfl rfl (V.ext rfl rfl) (Rn.v rfl rfl rfl rfl (V.ext rfl rfl) (Rn.v rfl rfl rfl rfl (V.as rfl) (Rn.v rfl rfl rfl rfl (V.as rfl) (Rn.regEnd (Rn.seq (Rn.reg (Rn.v rfl rfl rfl rfl (V.mv rfl) (Rn.v rfl rfl rfl rfl (V.mv rfl) (Rn.v rfl rfl rfl rfl (V.eqlS rfl rfl) (Rn.v rfl rfl rfl rfl (V.mv rfl) ?_)))))))))))
            refine Rn.cutR [7] [(61, .bool (decide ((p22.1 = x0) ∧ (p22.2 = 0))))] (fun hk24 => ?_) ?_
            · refine Rn.partD (t := 58) rfl (fun h25 => ?_) (fun h25 => ?_)
              · refine Rn.v rfl rfl rfl rfl (V.mv rfl) (Rn.v rfl rfl rfl rfl (V.eql rfl rfl) (Rn.v rfl rfl rfl rfl (V.pkT rfl rfl) ?_))
                refine hk24 _ ?_
                exact Sub.cons (lkv _ rfl (by first | exact andT h25 | exact andF h25 | exact orT h25 | exact orF h25 | exact nandF h25 | exact nandT h25 | exact norT h25 | exact norF h25 | (simp [h25]; done) | grind)) (Sub.nil _)
              · refine Rn.no rfl rfl rfl rfl (Rn.no rfl rfl rfl rfl (Rn.v rfl rfl rfl rfl (V.pkF rfl rfl) ?_))
                refine hk24 _ ?_
                exact Sub.cons (lkv _ rfl (by first | exact andT h25 | exact andF h25 | exact orT h25 | exact orF h25 | exact nandF h25 | exact nandT h25 | exact norT h25 | exact norF h25 | (simp [h25]; done) | grind)) (Sub.nil _)
            refine Rn.v rfl rfl rfl rfl (V.as rfl) (Rn.regEnd ?_)
            refine Rn.retG1 Try.func4 rfl (rvT rfl) ?_
            obtain rfl := someE hM
            exact ⟨rfl, hm23.pick [] rfl (by decide)⟩
      intro hk1
      clear hj1
      refine Rn.partD (t := 28) rfl (fun h26 => ?_) (fun h26 => ?_)
      · replace hM := iteT h26 hM
        refine Rn.no rfl rfl rfl rfl (Rn.no rfl rfl rfl rfl (Rn.no rfl rfl rfl rfl (Rn.no rfl rfl rfl rfl (Rn.no rfl rfl rfl rfl (Rn.v rfl rfl rfl rfl (V.pkT rfl rfl) ?_)))))
        exact hk1 true _ _ (Sub.cons rfl (Sub.cons rfl (Sub.cons rfl (Sub.cons rfl (Sub.cons rfl (Sub.cons rfl (Sub.cons rfl (Sub.nil _)))))))) (hm13.pick [0, 1, 2] rfl (by decide)) hM
      · replace hM := iteF h26 hM
        refine Rn.v rfl rfl rfl rfl (V.mv rfl) (Rn.v rfl rfl rfl rfl (V.fa Try.underlying35 rfl Try.sizeOf22 rfl rfl) (Rn.v rfl rfl rfl rfl (V.ldB Try.isAgg22 rfl (hm13.get 2 rfl) rfl) ?_))
        obtain ⟨p27, e27, hM⟩ := bindE hM
        refine Rn.cl ck12 rfl rfl rfl rfl (m_limnographref11_Same_sim (Z0 := All) _ A5_1_0 c5_1_0 p5.2.1 A8_0_0 c8_0_0 p8.Attrs (own_slR (hm13.get 0 rfl)) (slR_all (hm13.get 1 rfl)) e27) ?_
        rintro _ w27 ⟨rfl, hq27⟩
        refine ⟨_, rfl, ?_⟩
        have hm28 := hm13.call0 hq27
        refine Rn.v rfl rfl rfl rfl (V.notB rfl) (Rn.v rfl rfl rfl rfl (V.pkF rfl rfl) ?_)
        exact hk1 (!p27) _ _ (Sub.cons rfl (Sub.cons rfl (Sub.cons rfl (Sub.cons rfl (Sub.cons rfl (Sub.cons rfl (Sub.cons rfl (Sub.nil _)))))))) (hm28.pick [0, 1, 2] rfl (by decide)) hM

end Go.Proofs.Ytjadbkfodoodaaa
