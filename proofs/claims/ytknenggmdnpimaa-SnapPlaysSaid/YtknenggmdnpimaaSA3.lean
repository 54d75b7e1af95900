/-
  The calls of functions of the program answer as their plain forms say, part 3. Printed by a program.
-/
import Derived.Test.YtknenggmdnpimaaRows
import Derived.Test.YtknenggmdnpimaaSA2
import Derived.Test.YtknenggmdnpimaaK1
import Derived.Test.YtknenggmdnpimaaWv
import Derived.Test.YtknenggmdnpimaaIt
set_option linter.unusedVariables false
set_option linter.unusedSimpArgs false
namespace Go.Proofs.Ytknenggmdnpimaa
open Go Go.RowKit Go.Wk
set_option maxRecDepth 20000 in
theorem m_limnographlaw20_SnapPlays_sim {Z0 : Nat → Prop} (w : World) (A0 : Option Addr) (c0 : Nat) (x0 : (List T_api_File)) (x1 : Int) (A2 : Option Addr) (c2 : Nat) (x2 : (List T_limnographlaw20_Act)) {r : Bool} (f0 : (slR A0 c0 T_api_File.rep x0).H Z0 w) (f1 : (slR A2 c2 T_limnographlaw20_Act.rep x2).H Z0 w) (hM : m_limnographlaw20_SnapPlays x0 x1 x2 = some r) :
    Calls Try.prog 4 #[.slice A0 (x0).length c0, .int .i64 (x1), .slice A2 (x2).length c2] w fun x w' => x = .returned (.bool (r)) ∧ Hp Z0 No w w' [] := by
  have hm0 := Hp.nil Z0 No w
  have hc0 := Calm.nil
  have hm3 := hm0.know (slR A0 c0 T_api_File.rep x0) (fun _ h => h) (hm0.in0 hc0 f0)
  replace hc0 := hc0.snoc (r := slR A0 c0 T_api_File.rep x0) (fun _ h => h)
  have hm4 := hm3.know (slR A2 c2 T_limnographlaw20_Act.rep x2) (fun _ h => h) (hm3.in0 hc0 f1)
  replace hc0 := hc0.snoc (r := slR A2 c2 T_limnographlaw20_Act.rep x2) (fun _ h => h)
  refine Rn.enter Try.func4 rfl rfl (Nat.le_of_ble_eq_true rfl) ?_
  refine Rn.seq (Rn.reg (Rn.v rfl rfl rfl rfl (V.as rfl) (Rn.regEnd (Rn.seq (Rn.seq (Rn.reg ?_))))))
  obtain ⟨p5, e5, hM⟩ := bindE hM
  refine Rn.cl ck5 rfl rfl rfl rfl (m_limnographlaw20_awake_sim (Z0 := All) _   e5) ?_
  rintro _ w5 ⟨rfl, hq5⟩
  refine ⟨_, rfl, ?_⟩
  have hm6 := hm4.call0 hq5
  refine Rn.v rfl rfl rfl rfl (V.notB rfl) (Rn.regEnd ?_)
  refine Rn.condS rfl (fun h7 => ?_) (fun h7 => ?_)
  · replace hM := iteT h7 hM
    refine Rn.seq (Rn.reg (Rn.v rfl rfl rfl rfl (V.as rfl) (Rn.regEnd ?_)))
    refine Rn.retG1 Try.func4 rfl (rvT rfl) ?_
    obtain rfl := someE hM
    exact ⟨rfl, hm6.pick [] rfl (by decide)⟩
  · replace hM := iteF (by rw [h7]; exact Bool.false_ne_true) hM
    refine Rn.skip (Rn.seq (Rn.seq (Rn.reg (Rn.v rfl rfl rfl rfl (V.mv rfl) ?_))))
    obtain ⟨p8, e8, hM⟩ := bindE hM
    refine Rn.cl ck15 rfl rfl rfl rfl (m_limnographref18_Bulk_sim (Z0 := All) _ A0 c0 x0 2000 (slR_all (hm6.get 0 rfl)) e8) ?_
    rintro _ w8 ⟨rfl, hq8⟩
    refine ⟨_, rfl, ?_⟩
    have hm9 := hm6.call0 hq8
    refine Rn.v rfl rfl rfl rfl (V.gtr rfl rfl) (Rn.v rfl rfl rfl rfl (V.mv rfl) ?_)
    refine Rn.cutR [8, 9, 10, 11, 12] [(0, .slice A0 (x0).length c0), (1, .int .i64 (x1)), (2, .slice A2 (x2).length c2), (24, .bool (decide ((p8 > 2000) ∨ ((x0.length : Int) > 10))))] (fun hk10 => ?_) ?_
    · refine Rn.partD (t := 20) rfl (fun h11 => ?_) (fun h11 => ?_)
      · refine Rn.no rfl rfl rfl rfl (Rn.no rfl rfl rfl rfl (Rn.no rfl rfl rfl rfl (Rn.v rfl rfl rfl rfl (V.pkT rfl rfl) ?_)))
        refine hk10 _ ?_
        exact Sub.cons rfl (Sub.cons rfl (Sub.cons rfl (Sub.cons (lkv _ rfl (by first | exact andT h11 | exact andF h11 | exact orT h11 | exact orF h11 | exact nandF h11 | exact nandT h11 | exact norT h11 | exact norF h11 | (simp [h11]; done) | grind)) (Sub.nil _))))
      · refine Rn.v rfl rfl rfl rfl (V.mv rfl) (Rn.v rfl rfl rfl rfl (V.lenV Try.underlying38 rfl) (Rn.v rfl rfl rfl rfl (V.gtr rfl rfl) (Rn.v rfl rfl rfl rfl (V.pkF rfl rfl) ?_)))
        refine hk10 _ ?_
        exact Sub.cons rfl (Sub.cons rfl (Sub.cons rfl (Sub.cons (lkv _ rfl (by first | exact andT h11 | exact andF h11 | exact orT h11 | exact orF h11 | exact nandF h11 | exact nandT h11 | exact norT h11 | exact norF h11 | (simp [h11]; done) | grind)) (Sub.nil _))))
    refine Rn.v rfl rfl rfl rfl (V.mv rfl) ?_
    refine Rn.cutR [] [(0, .slice A0 (x0).length c0), (1, .int .i64 (x1)), (2, .slice A2 (x2).length c2), (29, .bool (decide (((p8 > 2000) ∨ ((x0.length : Int) > 10)) ∨ ((x2.length : Int) > 30))))] (fun hk12 => ?_) ?_
    · refine Rn.partD (t := 25) rfl (fun h13 => ?_) (fun h13 => ?_)
      · refine Rn.no rfl rfl rfl rfl (Rn.no rfl rfl rfl rfl (Rn.no rfl rfl rfl rfl (Rn.v rfl rfl rfl rfl (V.pkT rfl rfl) ?_)))
        refine hk12 _ ?_
        exact Sub.cons rfl (Sub.cons rfl (Sub.cons rfl (Sub.cons (lkv _ rfl (by first | exact andT h13 | exact andF h13 | exact orT h13 | exact orF h13 | exact nandF h13 | exact nandT h13 | exact norT h13 | exact norF h13 | (simp [h13]; done) | grind)) (Sub.nil _))))
      · refine Rn.v rfl rfl rfl rfl (V.mv rfl) (Rn.v rfl rfl rfl rfl (V.lenV Try.underlying39 rfl) (Rn.v rfl rfl rfl rfl (V.gtr rfl rfl) (Rn.v rfl rfl rfl rfl (V.pkF rfl rfl) ?_)))
        refine hk12 _ ?_
        exact Sub.cons rfl (Sub.cons rfl (Sub.cons rfl (Sub.cons (lkv _ rfl (by first | exact andT h13 | exact andF h13 | exact orT h13 | exact orF h13 | exact nandF h13 | exact nandT h13 | exact norT h13 | exact norF h13 | (simp [h13]; done) | grind)) (Sub.nil _))))
    refine Rn.regEnd ?_
    refine Rn.condD rfl (fun h14 => ?_) (fun h14 => ?_)
    · replace hM := iteT h14 hM
      refine Rn.seq (Rn.reg (Rn.v rfl rfl rfl rfl (V.as rfl) (Rn.regEnd ?_)))
      refine Rn.retG1 Try.func4 rfl (rvT rfl) ?_
      obtain rfl := someE hM
      exact ⟨rfl, hm9.pick [] rfl (by decide)⟩
    · replace hM := iteF h14 hM
      refine Rn.skip (Rn.seq (Rn.reg (Rn.v rfl rfl rfl rfl (V.mv rfl) (Rn.v rfl rfl rfl rfl (V.mv rfl) ?_))))
      obtain ⟨p15, e15, hM⟩ := bindE hM
      refine Rn.cl ck6 rfl rfl rfl rfl (m_disk_New_sim (Z0 := All) _ A0 c0 x0 x1 (slR_all (hm9.get 0 rfl)) e15) ?_
      rintro _ w15 ⟨F15_0, b15_0, rfl, hq15⟩
      refine ⟨_, rfl, ?_⟩
      have hm17 : Hp Z0 No w w15 [slR A0 c0 T_api_File.rep x0, slR A2 c2 T_limnographlaw20_Act.rep x2, optR p15 (fun z => diskO 61 68 5 F15_0 b15_0 z)] := hm9.callF (flC (optR_flat fun _ => diskO_flat _ _ _ _ _ _) fl0) hq15
      refine Rn.v rfl rfl rfl rfl (V.as rfl) (Rn.regEnd (Rn.seq (Rn.reg (Rn.v rfl rfl rfl rfl (V.mv rfl) (Rn.v rfl rfl rfl rfl (V.mv rfl) ?_)))))
      obtain ⟨p18, e18, hM⟩ := bindE hM
      refine Rn.cl ck16 rfl rfl rfl rfl (m_limnographref18_New_sim (Z0 := Zo Z0 No w [slR A0 c0 T_api_File.rep x0, slR A2 c2 T_limnographlaw20_Act.rep x2, optR p15 (fun z => diskO 61 68 5 F15_0 b15_0 z)]) _ A0 c0 x0 x1 (hm17.get 0 rfl) e18) ?_
      rintro _ w18 ⟨F18_0, b18_0, rfl, hq18⟩
      refine ⟨_, rfl, ?_⟩
      have hm20 : Hp Z0 No w w18 [slR A0 c0 T_api_File.rep x0, slR A2 c2 T_limnographlaw20_Act.rep x2, optR p15 (fun z => diskO 61 68 5 F15_0 b15_0 z), optR p18 (fun z => T_limnographref18_Disk.obj F18_0 b18_0 z)] := hm17.callZ hq18
      refine Rn.v rfl rfl rfl rfl (V.as rfl) (Rn.regEnd (Rn.seq (Rn.seq (Rn.reg (Rn.v rfl rfl rfl rfl (V.mv rfl) (Rn.v rfl rfl rfl rfl (V.eqlO Try.underlying26 rfl rfl) (Rn.v rfl rfl rfl rfl (V.mv rfl) ?_)))))))
      obtain ⟨j1, hj1, hM⟩ := jnE hM
      refine Rn.joinR (r := r) (G := Bool) [] (fun g => [(2, .slice A2 (x2).length c2), (7, .pointer (optP b15_0 p15)), (8, .pointer (optP b18_0 p18)), (41, .bool (g))]) (fun g w' => Hp Z0 No w w' [slR A0 c0 T_api_File.rep x0, slR A2 c2 T_limnographlaw20_Act.rep x2, optR p15 (fun z => diskO 61 68 5 F15_0 b15_0 z), optR p18 (fun z => T_limnographref18_Disk.obj F18_0 b18_0 z)]) (fun g => j1 g) ?_ ?_
      · subst hj1
        clear hM
        rintro y21 w22 hm22 hM
        replace hm22 : Hp Z0 No w w22 [slR A0 c0 T_api_File.rep x0, slR A2 c2 T_limnographlaw20_Act.rep x2, optR p15 (fun z => diskO 61 68 5 F15_0 b15_0 z), optR p18 (fun z => T_limnographref18_Disk.obj F18_0 b18_0 z)] := hm22
        show Rn _ _ _ _ _ [(2, .slice A2 (x2).length c2), (7, .pointer (optP b15_0 p15)), (8, .pointer (optP b18_0 p18)), (41, .bool (y21))] _
        try dsimp only at hM
        refine Rn.regEnd ?_
        refine Rn.condS rfl (fun h23 => ?_) (fun h23 => ?_)
        · replace hM := iteT h23 hM
          refine Rn.seq (Rn.reg (Rn.v rfl rfl rfl rfl (V.mv rfl) (Rn.v rfl rfl rfl rfl (V.eqlO Try.underlying26 rfl rfl) (Rn.v rfl rfl rfl rfl (V.mv rfl) ?_))))
          obtain ⟨j2, hj2, hM⟩ := jnE hM
          refine Rn.joinR (r := r) (G := Bool) [6] (fun g => [(47, .bool (g))]) (fun g w' => Hp Z0 No w w' [slR A0 c0 T_api_File.rep x0, slR A2 c2 T_limnographlaw20_Act.rep x2, optR p15 (fun z => diskO 61 68 5 F15_0 b15_0 z), optR p18 (fun z => T_limnographref18_Disk.obj F18_0 b18_0 z)]) (fun g => j2 g) ?_ ?_
          · subst hj2
            clear hM
            rintro y24 w25 hm25 hM
            replace hm25 : Hp Z0 No w w25 [slR A0 c0 T_api_File.rep x0, slR A2 c2 T_limnographlaw20_Act.rep x2, optR p15 (fun z => diskO 61 68 5 F15_0 b15_0 z), optR p18 (fun z => T_limnographref18_Disk.obj F18_0 b18_0 z)] := hm25
            show Rn _ _ _ _ _ [(47, .bool (y24))] _
            try dsimp only at hM
            refine Rn.v rfl rfl rfl rfl (V.as rfl) (Rn.regEnd ?_)
            refine Rn.retG1 Try.func4 rfl (rvT rfl) ?_
            obtain rfl := someE hM
            exact ⟨rfl, hm25.pick [] rfl (by decide)⟩
          intro hk2
          clear hj2
          refine Rn.part (t := 44) rfl (fun h26 => ?_) (fun h26 => ?_)
          · replace hM := iteT h26 hM
            refine Rn.v rfl rfl rfl rfl (V.mv rfl) (Rn.v rfl rfl rfl rfl (V.eqlO Try.underlying41 rfl rfl) (Rn.v rfl rfl rfl rfl (V.pkT rfl rfl) ?_))
            exact hk2 ((p18).isNone) _ _ (Sub.cons rfl (Sub.nil _)) (hm22.pick [0, 1, 2, 3] rfl (by decide)) hM
          · replace hM := iteF (by rw [h26]; exact Bool.false_ne_true) hM
            refine Rn.no rfl rfl rfl rfl (Rn.no rfl rfl rfl rfl (Rn.v rfl rfl rfl rfl (V.pkF rfl rfl) ?_))
            exact hk2 false _ _ (Sub.cons rfl (Sub.nil _)) (hm22.pick [0, 1, 2, 3] rfl (by decide)) hM
        · replace hM := iteF (by rw [h23]; exact Bool.false_ne_true) hM
          refine Rn.skip (Rn.seq (Rn.seq (Rn.reg (Rn.v rfl rfl rfl rfl (V.as rfl) (Rn.regEnd ?_)))))
          obtain ⟨j3, hj3, hM⟩ := jnE hM
          refine Rn.joinG (r := r) (G := Unit) (fun g => []) (fun g w' => Hp Z0 No w w' [slR A0 c0 T_api_File.rep x0, slR A2 c2 T_limnographlaw20_Act.rep x2]) (fun g => j3 ()) ?_ ?_
          · subst hj3
            clear hM
            rintro _ w27 hm27 hM
            replace hm27 : Hp Z0 No w w27 [slR A0 c0 T_api_File.rep x0, slR A2 c2 T_limnographlaw20_Act.rep x2] := hm27
            show Rn _ _ _ _ _ [] _
            try dsimp only at hM
            refine Rn.seq (Rn.reg (Rn.v rfl rfl rfl rfl (V.as rfl) (Rn.regEnd ?_)))
            refine Rn.retG1 Try.func4 rfl (rvT rfl) ?_
            obtain rfl := someE hM
            exact ⟨rfl, hm27.pick [] rfl (by decide)⟩
          intro hk3
          clear hj3
          refine Rn.block ?_
          refine Rn.loopF (G := Int × (Option PD) × (Option T_limnographref18_Disk) × (Nat → Prop) × (Nat → Prop)) (fun g => [(2, .slice A2 (x2).length c2), (7, .pointer (optP b15_0 (g.2.1))), (8, .pointer (optP b18_0 (g.2.2.1))), (9, .int .i64 ((g.1)))]) (fun g w' => Hp Z0 No w w' [slR A0 c0 T_api_File.rep x0, slR A2 c2 T_limnographlaw20_Act.rep x2, optR (g.2.1) (fun z => diskO 61 68 5 (g.2.2.2.1) b15_0 z), optR (g.2.2.1) (fun z => T_limnographref18_Disk.obj (g.2.2.2.2) b18_0 z)]) (fun n g => m_limnographlaw20_SnapPlays_L1 x2 j3 n g.1 g.2.1 g.2.2.1) fuel (0, p15, p18, F15_0, F18_0) (Sub.cons rfl (Sub.cons rfl (Sub.cons rfl (Sub.cons rfl (Sub.nil _))))) (hm22.pick [0, 1, 2, 3] rfl (by decide)) hM (fun _ => rfl) ?_
          clear hM
          rintro m31 ⟨y28, y29, y30, F29, F30⟩ w31 hm31 hM hn31
          replace hm31 : Hp Z0 No w w31 [slR A0 c0 T_api_File.rep x0, slR A2 c2 T_limnographlaw20_Act.rep x2, optR y29 (fun z => diskO 61 68 5 F29 b15_0 z), optR y30 (fun z => T_limnographref18_Disk.obj F30 b18_0 z)] := hm31
          show Rn _ _ _ _ _ [(2, .slice A2 (x2).length c2), (7, .pointer (optP b15_0 y29)), (8, .pointer (optP b18_0 y30)), (9, .int .i64 (y28))] _
          replace hM : m_limnographlaw20_SnapPlays_L1 x2 j3 (m31 + 1) y28 y29 y30 = some r := hM
          rw [m_limnographlaw20_SnapPlays_L1] at hM
          refine Rn.seq (Rn.seq (Rn.reg (Rn.v rfl rfl rfl rfl (V.mv rfl) (Rn.v rfl rfl rfl rfl (V.mv rfl) (Rn.v rfl rfl rfl rfl (V.lenV Try.underlying39 rfl) (Rn.v rfl rfl rfl rfl (V.lss rfl rfl) (Rn.regEnd ?_)))))))
          refine Rn.condD rfl (fun h32 => ?_) (fun h32 => ?_)
          · replace hM := iteT h32 hM
            refine Rn.skip (Rn.seq (Rn.block (Rn.seq (Rn.reg (Rn.v rfl rfl rfl rfl (V.mv rfl) (Rn.v rfl rfl rfl rfl (V.mv rfl) ?_))))))
            obtain ⟨z33, e33, hM⟩ := bindE hM
            refine Rn.ixH hm31 1 rfl e33 rfl rfl rfl Try.underlying39 Try.sizeOf44 rfl rfl rfl rfl ?_
            rintro b33 o33 vs33 ⟨_, _, rfl, ⟨rfl, _⟩, ⟨_, _, rfl, ⟨rfl, _⟩, ⟨_, _, rfl, ⟨rfl, _⟩, ⟨_, _, rfl, ⟨rfl, _⟩, ⟨_, _, rfl, ⟨rfl, _⟩, ⟨A34, c34, rfl, p34, q34, s34⟩⟩⟩⟩⟩⟩ hm33
            have hm37 : Hp Z0 No w w31 [slR A0 c0 T_api_File.rep x0, slR A2 c2 T_limnographlaw20_Act.rep x2, optR y29 (fun z => diskO 61 68 5 F29 b15_0 z), optR y30 (fun z => T_limnographref18_Disk.obj F30 b18_0 z), rdR b33 o33 [.int .i64 (z33.Kind), .int .i64 (z33.N), Str (z33.Name), Str (z33.B), .int .i64 (z33.Code), .slice A34 (z33.Keep).length c34], slR A34 c34 (intR .i64) z33.Keep] := Hp.know1 (M := [slR A34 c34 (intR .i64) z33.Keep]) hm33 (fun _ h => h) (knC (fun _ h => h) ⟨p34, q34, s34⟩ kn0)
            refine Rn.v rfl rfl rfl rfl (V.ldA Try.isAgg44 Try.sizeOf44 rfl (Rd.pre (hm37.get 4 rfl).2 6) rfl) (Rn.als rfl rfl rfl Try.zeroValue44 rfl Try.sizeOf44 rfl rfl rfl rfl (by first | exact ones rfl | (simp [Value.oneCell']; done)) ?_)
            intro b38 w38 hb38 m38 e38
            have hm40 : Hp Z0 No w w38 [slR A0 c0 T_api_File.rep x0, slR A2 c2 T_limnographlaw20_Act.rep x2, optR y29 (fun z => diskO 61 68 5 F29 b15_0 z), optR y30 (fun z => T_limnographref18_Disk.obj F30 b18_0 z), rdR b33 o33 [.int .i64 (z33.Kind), .int .i64 (z33.N), Str (z33.Name), Str (z33.B), .int .i64 (z33.Code), .slice A34 (z33.Keep).length c34], slR A34 c34 (intR .i64) z33.Keep, boxR b38 44 [.int .i64 (z33.Kind), .int .i64 (z33.N), Str (z33.Name), Str (z33.B), .int .i64 (z33.Code), .slice A34 (z33.Keep).length c34]] := hm37.addBox hb38 e38 m38
            refine Rn.regEnd (Rn.seq (Rn.seq (Rn.reg (Rn.v rfl rfl rfl rfl (V.fa Try.underlying44 rfl Try.sizeOf9 rfl rfl) (Rn.v rfl rfl rfl rfl (V.ldB Try.isAgg9 rfl (hm40.get 6 rfl) rfl) (Rn.v rfl rfl rfl rfl (V.lenS Try.underlying9 rfl) (Rn.v rfl rfl rfl rfl (V.gtr rfl rfl) (Rn.v rfl rfl rfl rfl (V.mv rfl) ?_))))))))
            refine Rn.cutR [10, 11, 12, 13, 14, 15] [(2, .slice A2 (x2).length c2), (7, .pointer (optP b15_0 y29)), (8, .pointer (optP b18_0 y30)), (9, .int .i64 (y28)), (10, .pointer (some ⟨b38, 0, none⟩)), (67, .bool (decide (((z33.B.length : Int) > 500) ∨ ((z33.Name.length : Int) > 100))))] (fun hk41 => ?_) ?_
            · refine Rn.partD (t := 62) rfl (fun h42 => ?_) (fun h42 => ?_)
              · refine Rn.no rfl rfl rfl rfl (Rn.no rfl rfl rfl rfl (Rn.no rfl rfl rfl rfl (Rn.no rfl rfl rfl rfl (Rn.v rfl rfl rfl rfl (V.pkT rfl rfl) ?_))))
                refine hk41 _ ?_
                exact Sub.cons rfl (Sub.cons rfl (Sub.cons rfl (Sub.cons rfl (Sub.cons rfl (Sub.cons (lkv _ rfl (by first | exact andT h42 | exact andF h42 | exact orT h42 | exact orF h42 | exact nandF h42 | exact nandT h42 | exact norT h42 | exact norF h42 | (simp [h42]; done) | grind)) (Sub.nil _))))))
              · refine Rn.v rfl rfl rfl rfl (V.fa Try.underlying44 rfl Try.sizeOf9 rfl rfl) (Rn.v rfl rfl rfl rfl (V.ldB Try.isAgg9 rfl (hm40.get 6 rfl) rfl) (Rn.v rfl rfl rfl rfl (V.lenS Try.underlying9 rfl) (Rn.v rfl rfl rfl rfl (V.gtr rfl rfl) (Rn.v rfl rfl rfl rfl (V.pkF rfl rfl) ?_))))
                refine hk41 _ ?_
                exact Sub.cons rfl (Sub.cons rfl (Sub.cons rfl (Sub.cons rfl (Sub.cons rfl (Sub.cons (lkv _ rfl (by first | exact andT h42 | exact andF h42 | exact orT h42 | exact orF h42 | exact nandF h42 | exact nandT h42 | exact norT h42 | exact norF h42 | (simp [h42]; done) | grind)) (Sub.nil _))))))
            refine Rn.v rfl rfl rfl rfl (V.mv rfl) ?_
            refine Rn.cutR [] [(2, .slice A2 (x2).length c2), (7, .pointer (optP b15_0 y29)), (8, .pointer (optP b18_0 y30)), (9, .int .i64 (y28)), (10, .pointer (some ⟨b38, 0, none⟩)), (73, .bool (decide ((((z33.B.length : Int) > 500) ∨ ((z33.Name.length : Int) > 100)) ∨ ((z33.Keep.length : Int) > 20))))] (fun hk43 => ?_) ?_
            · refine Rn.partD (t := 68) rfl (fun h44 => ?_) (fun h44 => ?_)
              · refine Rn.no rfl rfl rfl rfl (Rn.no rfl rfl rfl rfl (Rn.no rfl rfl rfl rfl (Rn.no rfl rfl rfl rfl (Rn.v rfl rfl rfl rfl (V.pkT rfl rfl) ?_))))
                refine hk43 _ ?_
                exact Sub.cons rfl (Sub.cons rfl (Sub.cons rfl (Sub.cons rfl (Sub.cons rfl (Sub.cons (lkv _ rfl (by first | exact andT h44 | exact andF h44 | exact orT h44 | exact orF h44 | exact nandF h44 | exact nandT h44 | exact norT h44 | exact norF h44 | (simp [h44]; done) | grind)) (Sub.nil _))))))
              · refine Rn.v rfl rfl rfl rfl (V.fa Try.underlying44 rfl Try.sizeOf24 rfl rfl) (Rn.v rfl rfl rfl rfl (V.ldB Try.isAgg24 rfl (hm40.get 6 rfl) rfl) (Rn.v rfl rfl rfl rfl (V.lenV Try.underlying24 rfl) (Rn.v rfl rfl rfl rfl (V.gtr rfl rfl) (Rn.v rfl rfl rfl rfl (V.pkF rfl rfl) ?_))))
                refine hk43 _ ?_
                exact Sub.cons rfl (Sub.cons rfl (Sub.cons rfl (Sub.cons rfl (Sub.cons rfl (Sub.cons (lkv _ rfl (by first | exact andT h44 | exact andF h44 | exact orT h44 | exact orF h44 | exact nandF h44 | exact nandT h44 | exact norT h44 | exact norF h44 | (simp [h44]; done) | grind)) (Sub.nil _))))))
            refine Rn.regEnd ?_
            refine Rn.condD rfl (fun h45 => ?_) (fun h45 => ?_)
            · replace hM := iteT h45 hM
              refine Rn.seq (Rn.reg (Rn.v rfl rfl rfl rfl (V.as rfl) (Rn.regEnd ?_)))
              refine Rn.retG1 Try.func4 rfl (rvT rfl) ?_
              obtain rfl := someE hM
              exact ⟨rfl, hm40.pick [] rfl (by decide)⟩
            · replace hM := iteF h45 hM
              refine Rn.skip (Rn.seq (Rn.seq (Rn.reg (Rn.v rfl rfl rfl rfl (V.fa Try.underlying44 rfl Try.sizeOf3 rfl rfl) (Rn.v rfl rfl rfl rfl (V.ldB Try.isAgg3 rfl (hm40.get 6 rfl) rfl) (Rn.regEnd ?_))))))
              obtain ⟨j4, hj4, hM⟩ := jnE hM
              refine Rn.joinG (r := r) (G := (Option PD) × (Option T_limnographref18_Disk) × (Nat → Prop) × (Nat → Prop)) (fun g => [(2, .slice A2 (x2).length c2), (7, .pointer (optP b15_0 (g.1))), (8, .pointer (optP b18_0 (g.2.1))), (9, .int .i64 (y28))]) (fun g w' => Hp Z0 No w w' [slR A0 c0 T_api_File.rep x0, slR A2 c2 T_limnographlaw20_Act.rep x2, rdR b33 o33 [.int .i64 (z33.Kind), .int .i64 (z33.N), Str (z33.Name), Str (z33.B), .int .i64 (z33.Code), .slice A34 (z33.Keep).length c34], slR A34 c34 (intR .i64) z33.Keep, boxR b38 44 [.int .i64 (z33.Kind), .int .i64 (z33.N), Str (z33.Name), Str (z33.B), .int .i64 (z33.Code), .slice A34 (z33.Keep).length c34], optR (g.1) (fun z => diskO 61 68 5 (g.2.2.1) b15_0 z), optR (g.2.1) (fun z => T_limnographref18_Disk.obj (g.2.2.2) b18_0 z)]) (fun g => j4 g.1 g.2.1) ?_ ?_
              · subst hj4
                clear hM
                rintro ⟨y46, y47, F46, F47⟩ w48 hm48 hM
                replace hm48 : Hp Z0 No w w48 [slR A0 c0 T_api_File.rep x0, slR A2 c2 T_limnographlaw20_Act.rep x2, rdR b33 o33 [.int .i64 (z33.Kind), .int .i64 (z33.N), Str (z33.Name), Str (z33.B), .int .i64 (z33.Code), .slice A34 (z33.Keep).length c34], slR A34 c34 (intR .i64) z33.Keep, boxR b38 44 [.int .i64 (z33.Kind), .int .i64 (z33.N), Str (z33.Name), Str (z33.B), .int .i64 (z33.Code), .slice A34 (z33.Keep).length c34], optR y46 (fun z => diskO 61 68 5 F46 b15_0 z), optR y47 (fun z => T_limnographref18_Disk.obj F47 b18_0 z)] := hm48
                show Rn _ _ _ _ _ [(2, .slice A2 (x2).length c2), (7, .pointer (optP b15_0 y46)), (8, .pointer (optP b18_0 y47)), (9, .int .i64 (y28))] _
                try dsimp only at hM
                refine Rn.seq (Rn.reg (Rn.v rfl rfl rfl rfl (V.mv rfl) (Rn.v rfl rfl rfl rfl (V.mv rfl) ?_)))
                obtain ⟨z50, e50, hM⟩ := bindE hM
                have hm51 : Hp Z0 No w w48 [slR A0 c0 T_api_File.rep x0, slR A2 c2 T_limnographlaw20_Act.rep x2, rdR b33 o33 [.int .i64 (z33.Kind), .int .i64 (z33.N), Str (z33.Name), Str (z33.B), .int .i64 (z33.Code), .slice A34 (z33.Keep).length c34], slR A34 c34 (intR .i64) z33.Keep, boxR b38 44 [.int .i64 (z33.Kind), .int .i64 (z33.N), Str (z33.Name), Str (z33.B), .int .i64 (z33.Code), .slice A34 (z33.Keep).length c34], diskO 61 68 5 F46 b15_0 z50, optR y47 (fun z => T_limnographref18_Disk.obj F47 b18_0 z)] := hm48.optSome 5 rfl e50
                refine Rn.say (t := 169) (.pointer (some ⟨b15_0, 0, none⟩)) rfl (by rw [e50]; rfl) ?_
                obtain ⟨z52, e52, hM⟩ := bindE hM
                have hm53 : Hp Z0 No w w48 [slR A0 c0 T_api_File.rep x0, slR A2 c2 T_limnographlaw20_Act.rep x2, rdR b33 o33 [.int .i64 (z33.Kind), .int .i64 (z33.N), Str (z33.Name), Str (z33.B), .int .i64 (z33.Code), .slice A34 (z33.Keep).length c34], slR A34 c34 (intR .i64) z33.Keep, boxR b38 44 [.int .i64 (z33.Kind), .int .i64 (z33.N), Str (z33.Name), Str (z33.B), .int .i64 (z33.Code), .slice A34 (z33.Keep).length c34], diskO 61 68 5 F46 b15_0 z50, T_limnographref18_Disk.obj F47 b18_0 z52] := hm51.optSome 6 rfl e52
                refine Rn.say (t := 170) (.pointer (some ⟨b18_0, 0, none⟩)) rfl (by rw [e52]; rfl) ?_
                obtain ⟨p49, e49, hM⟩ := bindE hM
                refine Rn.cl ck21 rfl rfl rfl rfl (m_limnographlaw20_same_sim (Z0 := All) _ F46 b15_0 z50 F47 b18_0 z52 (fz_all (hm53.get 5 rfl)) (fz_all (hm53.get 6 rfl)) e49) ?_
                rintro _ w49 ⟨rfl, hq49⟩
                refine ⟨_, rfl, ?_⟩
                have hm54 := hm53.call0 hq49
                refine Rn.v rfl rfl rfl rfl (V.notB rfl) (Rn.regEnd ?_)
                refine Rn.condS rfl (fun h55 => ?_) (fun h55 => ?_)
                · replace hM := iteT h55 hM
                  refine Rn.seq (Rn.reg (Rn.v rfl rfl rfl rfl (V.as rfl) (Rn.regEnd ?_)))
                  refine Rn.retG1 Try.func4 rfl (rvT rfl) ?_
                  obtain rfl := someE hM
                  exact ⟨rfl, hm54.pick [] rfl (by decide)⟩
                · replace hM := iteF (by rw [h55]; exact Bool.false_ne_true) hM
                  refine Rn.skip (Rn.inBlock (Rn.reg (Rn.v rfl rfl rfl rfl (V.mv rfl) (Rn.v rfl rfl rfl rfl (V.addW rfl rfl) (Rn.v rfl rfl rfl rfl (V.as rfl) (Rn.regEnd ?_))))))
                  refine Rn.say (t := 7) (.pointer (some ⟨b15_0, 0, none⟩)) rfl (by rw [e50]; rfl) ?_
                  have hm56 := hm54.toSome (R := (fun z => diskO 61 68 5 F46 b15_0 z)) 5 rfl
                  have hm57 : Hp Z0 No w w49 [slR A0 c0 T_api_File.rep x0, slR A2 c2 T_limnographlaw20_Act.rep x2, rdR b33 o33 [.int .i64 (z33.Kind), .int .i64 (z33.N), Str (z33.Name), Str (z33.B), .int .i64 (z33.Code), .slice A34 (z33.Keep).length c34], slR A34 c34 (intR .i64) z33.Keep, boxR b38 44 [.int .i64 (z33.Kind), .int .i64 (z33.N), Str (z33.Name), Str (z33.B), .int .i64 (z33.Code), .slice A34 (z33.Keep).length c34], optR (some z50) (fun z => diskO 61 68 5 F46 b15_0 z), T_limnographref18_Disk.obj F47 b18_0 z52] := hm56
                  refine Rn.say (t := 8) (.pointer (some ⟨b18_0, 0, none⟩)) rfl (by rw [e52]; rfl) ?_
                  have hm58 := hm57.toSome (R := (fun z => T_limnographref18_Disk.obj F47 b18_0 z)) 6 rfl
                  have hm59 : Hp Z0 No w w49 [slR A0 c0 T_api_File.rep x0, slR A2 c2 T_limnographlaw20_Act.rep x2, rdR b33 o33 [.int .i64 (z33.Kind), .int .i64 (z33.N), Str (z33.Name), Str (z33.B), .int .i64 (z33.Code), .slice A34 (z33.Keep).length c34], slR A34 c34 (intR .i64) z33.Keep, boxR b38 44 [.int .i64 (z33.Kind), .int .i64 (z33.N), Str (z33.Name), Str (z33.B), .int .i64 (z33.Code), .slice A34 (z33.Keep).length c34], optR (some z50) (fun z => diskO 61 68 5 F46 b15_0 z), optR (some z52) (fun z => T_limnographref18_Disk.obj F47 b18_0 z)] := hm58
                  exact hn31 ((W64 (y28 + 1)), (some z50), (some z52), F46, F47) _ _ (Sub.cons rfl (Sub.cons rfl (Sub.cons rfl (Sub.cons rfl (Sub.nil _))))) (hm59.pick [0, 1, 5, 6] rfl (by decide)) hM
              intro hk4
              clear hj4
              refine Rn.block (Rn.seq (Rn.reg (Rn.v rfl rfl rfl rfl (V.eql rfl rfl) (Rn.v rfl rfl rfl rfl (V.as rfl) (Rn.regEnd ?_)))))
              refine Rn.condD rfl (fun h60 => ?_) (fun h60 => ?_)
              · replace hM := iteT h60 hM
                refine Rn.seq ?_
                obtain ⟨j5, hj5, hM⟩ := jnE hM
                refine Rn.joinG (r := r) (G := Bool × (Option PD) × (Option T_limnographref18_Disk) × (Nat → Prop) × (Nat → Prop)) (fun g => [(2, .slice A2 (x2).length c2), (7, .pointer (optP b15_0 (g.2.1))), (8, .pointer (optP b18_0 (g.2.2.1))), (9, .int .i64 (y28)), (92, .bool ((g.1)))]) (fun g w' => Hp Z0 No w w' [slR A0 c0 T_api_File.rep x0, slR A2 c2 T_limnographlaw20_Act.rep x2, rdR b33 o33 [.int .i64 (z33.Kind), .int .i64 (z33.N), Str (z33.Name), Str (z33.B), .int .i64 (z33.Code), .slice A34 (z33.Keep).length c34], slR A34 c34 (intR .i64) z33.Keep, boxR b38 44 [.int .i64 (z33.Kind), .int .i64 (z33.N), Str (z33.Name), Str (z33.B), .int .i64 (z33.Code), .slice A34 (z33.Keep).length c34], optR (g.2.1) (fun z => diskO 61 68 5 (g.2.2.2.1) b15_0 z), optR (g.2.2.1) (fun z => T_limnographref18_Disk.obj (g.2.2.2.2) b18_0 z)]) (fun g => j5 g.1 g.2.1 g.2.2.1) ?_ ?_
                · subst hj5
                  clear hM
                  rintro ⟨y61, y62, y63, F62, F63⟩ w64 hm64 hM
                  replace hm64 : Hp Z0 No w w64 [slR A0 c0 T_api_File.rep x0, slR A2 c2 T_limnographlaw20_Act.rep x2, rdR b33 o33 [.int .i64 (z33.Kind), .int .i64 (z33.N), Str (z33.Name), Str (z33.B), .int .i64 (z33.Code), .slice A34 (z33.Keep).length c34], slR A34 c34 (intR .i64) z33.Keep, boxR b38 44 [.int .i64 (z33.Kind), .int .i64 (z33.N), Str (z33.Name), Str (z33.B), .int .i64 (z33.Code), .slice A34 (z33.Keep).length c34], optR y62 (fun z => diskO 61 68 5 F62 b15_0 z), optR y63 (fun z => T_limnographref18_Disk.obj F63 b18_0 z)] := hm64
                  show Rn _ _ _ _ _ [(2, .slice A2 (x2).length c2), (7, .pointer (optP b15_0 y62)), (8, .pointer (optP b18_0 y63)), (9, .int .i64 (y28)), (92, .bool (y61))] _
                  try dsimp only at hM
                  refine Rn.condS rfl (fun h65 => ?_) (fun h65 => ?_)
                  · replace hM := iteT h65 hM
                    refine Rn.seq (Rn.reg (Rn.v rfl rfl rfl rfl (V.as rfl) (Rn.regEnd ?_)))
                    refine Rn.retG1 Try.func4 rfl (rvT rfl) ?_
                    obtain rfl := someE hM
                    exact ⟨rfl, hm64.pick [] rfl (by decide)⟩
                  · replace hM := iteF (by rw [h65]; exact Bool.false_ne_true) hM
                    refine Rn.skip (Rn.inBlock ?_)
                    exact hk4 (y62, y63, F62, F63) _ _ (Sub.cons rfl (Sub.cons rfl (Sub.cons rfl (Sub.cons rfl (Sub.nil _))))) (hm64.pick [0, 1, 2, 3, 4, 5, 6] rfl (by decide)) hM
                intro hk5
                clear hj5
                have hm67 := hm40.dup 0 rfl (fun _ h => h)
                have hm69 := hm67.dup 1 rfl (fun _ h => h)
                have hm71 := hm69.dup 4 rfl (fun _ h => h)
                have hm73 := hm71.dup 5 rfl (fun _ h => h)
                have hm75 : Hp Z0 No w w38 ([boxR b38 44 [.int .i64 (z33.Kind), .int .i64 (z33.N), Str (z33.Name), Str (z33.B), .int .i64 (z33.Code), .slice A34 (z33.Keep).length c34], slR A0 c0 T_api_File.rep x0, slR A2 c2 T_limnographlaw20_Act.rep x2, rdR b33 o33 [.int .i64 (z33.Kind), .int .i64 (z33.N), Str (z33.Name), Str (z33.B), .int .i64 (z33.Code), .slice A34 (z33.Keep).length c34], slR A34 c34 (intR .i64) z33.Keep] ++ [optR y29 (fun z => diskO 61 68 5 F29 b15_0 z), optR y30 (fun z => T_limnographref18_Disk.obj F30 b18_0 z), slR A0 c0 T_api_File.rep x0, slR A2 c2 T_limnographlaw20_Act.rep x2, rdR b33 o33 [.int .i64 (z33.Kind), .int .i64 (z33.N), Str (z33.Name), Str (z33.B), .int .i64 (z33.Code), .slice A34 (z33.Keep).length c34], slR A34 c34 (intR .i64) z33.Keep]) := hm73.pick [6, 7, 8, 9, 10, 2, 3, 0, 1, 4, 5] rfl (by decide)
                refine Rn.drawF rfl hm75 ?_
                intro w76 hmo76 hm76
                refine RH.take 0 (by kernel_rfl) rfl rfl rfl rfl (fun w' hDr => V.mv rfl) ?_
                refine RH.take 1 (by kernel_rfl) rfl rfl rfl rfl (fun w' hDr => V.fa Try.underlying44 rfl Try.sizeOf9 rfl rfl) ?_
                refine RH.take 2 (by kernel_rfl) rfl rfl rfl rfl (fun w' hDr => V.ldB Try.isAgg9 rfl ((hmo76.awayK hDr).get 0 rfl) rfl) ?_
                refine RH.take 3 (by kernel_rfl) rfl rfl rfl rfl (fun w' hDr => V.fa Try.underlying44 rfl Try.sizeOf9 rfl rfl) ?_
                refine RH.take 4 (by kernel_rfl) rfl rfl rfl rfl (fun w' hDr => V.ldB Try.isAgg9 rfl ((hmo76.awayK hDr).get 0 rfl) rfl) ?_
                refine RH.take 7 (by kernel_rfl) rfl rfl rfl rfl (fun w' hDr => V.mv rfl) ?_
                refine RH.take 8 (by kernel_rfl) rfl rfl rfl rfl (fun w' hDr => V.fa Try.underlying44 rfl Try.sizeOf9 rfl rfl) ?_
                refine RH.take 9 (by kernel_rfl) rfl rfl rfl rfl (fun w' hDr => V.ldB Try.isAgg9 rfl ((hmo76.awayK hDr).get 0 rfl) rfl) ?_
                refine RH.take 10 (by kernel_rfl) rfl rfl rfl rfl (fun w' hDr => V.fa Try.underlying44 rfl Try.sizeOf9 rfl rfl) ?_
                refine RH.take 11 (by kernel_rfl) rfl rfl rfl rfl (fun w' hDr => V.ldB Try.isAgg9 rfl ((hmo76.awayK hDr).get 0 rfl) rfl) ?_
                obtain ⟨z77, e77, hM⟩ := bindE hM
                obtain ⟨z80, e80, hM⟩ := bindE hM
                obtain ⟨p79, e79, hM⟩ := bindE hM
                obtain ⟨z87, e87, hM⟩ := bindE hM
                obtain ⟨z90, e90, hM⟩ := bindE hM
                obtain ⟨p89, e89, hM⟩ := bindE hM
                refine RH.both 5 12 (by kernel_rfl) ?_ ?_
                · have e99 := e77
                  refine RB.s2bH 5 hm76 e99 rfl rfl rfl Try.underlying9 Try.underlying22 Try.underlying5 rfl ?_
                  intro A99 c99 w99 hm99 e99
                  refine ⟨hm99.fr, ?_⟩
                  refine RH.both 6 12 (by kernel_rfl) ?_ ?_
                  · have e102 := e80
                    have hm103 : Hp (Zo Z0 No w ([boxR b38 44 [.int .i64 (z33.Kind), .int .i64 (z33.N), Str (z33.Name), Str (z33.B), .int .i64 (z33.Code), .slice A34 (z33.Keep).length c34], slR A0 c0 T_api_File.rep x0, slR A2 c2 T_limnographlaw20_Act.rep x2, rdR b33 o33 [.int .i64 (z33.Kind), .int .i64 (z33.N), Str (z33.Name), Str (z33.B), .int .i64 (z33.Code), .slice A34 (z33.Keep).length c34], slR A34 c34 (intR .i64) z33.Keep] ++ [optR y29 (fun z => diskO 61 68 5 F29 b15_0 z), optR y30 (fun z => T_limnographref18_Disk.obj F30 b18_0 z), slR A0 c0 T_api_File.rep x0, slR A2 c2 T_limnographlaw20_Act.rep x2, rdR b33 o33 [.int .i64 (z33.Kind), .int .i64 (z33.N), Str (z33.Name), Str (z33.B), .int .i64 (z33.Code), .slice A34 (z33.Keep).length c34], slR A34 c34 (intR .i64) z33.Keep])) (LS [optR y29 (fun z => diskO 61 68 5 F29 b15_0 z), optR y30 (fun z => T_limnographref18_Disk.obj F30 b18_0 z), slR A0 c0 T_api_File.rep x0, slR A2 c2 T_limnographlaw20_Act.rep x2, rdR b33 o33 [.int .i64 (z33.Kind), .int .i64 (z33.N), Str (z33.Name), Str (z33.B), .int .i64 (z33.Code), .slice A34 (z33.Keep).length c34], slR A34 c34 (intR .i64) z33.Keep]) w76 w99 [diskO 61 68 5 F29 b15_0 z80, optR y30 (fun z => T_limnographref18_Disk.obj F30 b18_0 z), slR A0 c0 T_api_File.rep x0, slR A2 c2 T_limnographlaw20_Act.rep x2, rdR b33 o33 [.int .i64 (z33.Kind), .int .i64 (z33.N), Str (z33.Name), Str (z33.B), .int .i64 (z33.Code), .slice A34 (z33.Keep).length c34], slR A34 c34 (intR .i64) z33.Keep, slR A99 c99 byteR z77] := hm99.optSome 0 rfl e102
                    refine RB.say (t := 78) (.pointer (some ⟨b15_0, 0, none⟩)) rfl (by rw [e102]; rfl) ?_
                    have e101 := e79
                    have hm104 := hm103.dup 6 rfl (fun _ h => h)
                    have hm106 : Hp (Zo Z0 No w ([boxR b38 44 [.int .i64 (z33.Kind), .int .i64 (z33.N), Str (z33.Name), Str (z33.B), .int .i64 (z33.Code), .slice A34 (z33.Keep).length c34], slR A0 c0 T_api_File.rep x0, slR A2 c2 T_limnographlaw20_Act.rep x2, rdR b33 o33 [.int .i64 (z33.Kind), .int .i64 (z33.N), Str (z33.Name), Str (z33.B), .int .i64 (z33.Code), .slice A34 (z33.Keep).length c34], slR A34 c34 (intR .i64) z33.Keep] ++ [optR y29 (fun z => diskO 61 68 5 F29 b15_0 z), optR y30 (fun z => T_limnographref18_Disk.obj F30 b18_0 z), slR A0 c0 T_api_File.rep x0, slR A2 c2 T_limnographlaw20_Act.rep x2, rdR b33 o33 [.int .i64 (z33.Kind), .int .i64 (z33.N), Str (z33.Name), Str (z33.B), .int .i64 (z33.Code), .slice A34 (z33.Keep).length c34], slR A34 c34 (intR .i64) z33.Keep])) (LS [optR y29 (fun z => diskO 61 68 5 F29 b15_0 z), optR y30 (fun z => T_limnographref18_Disk.obj F30 b18_0 z), slR A0 c0 T_api_File.rep x0, slR A2 c2 T_limnographlaw20_Act.rep x2, rdR b33 o33 [.int .i64 (z33.Kind), .int .i64 (z33.N), Str (z33.Name), Str (z33.B), .int .i64 (z33.Code), .slice A34 (z33.Keep).length c34], slR A34 c34 (intR .i64) z33.Keep]) w76 w99 ([optR y30 (fun z => T_limnographref18_Disk.obj F30 b18_0 z), slR A0 c0 T_api_File.rep x0, slR A2 c2 T_limnographlaw20_Act.rep x2, rdR b33 o33 [.int .i64 (z33.Kind), .int .i64 (z33.N), Str (z33.Name), Str (z33.B), .int .i64 (z33.Code), .slice A34 (z33.Keep).length c34], slR A34 c34 (intR .i64) z33.Keep, slR A99 c99 byteR z77] ++ [diskO 61 68 5 F29 b15_0 z80, slR A99 c99 byteR z77]) := hm104.pick [1, 2, 3, 4, 5, 6, 0, 7] rfl (by decide)
                    refine RB.cl ck7 6 rfl rfl rfl rfl (m_snap_Save_sim (Z0 := _) _ F29 b15_0 z80 z33.Name A99 c99 z77 hm106.lend e101) ?_
                    rintro _ w101 ⟨F101_p0, rfl, hq101⟩
                    have hm108 : Hp (Zo Z0 No w ([boxR b38 44 [.int .i64 (z33.Kind), .int .i64 (z33.N), Str (z33.Name), Str (z33.B), .int .i64 (z33.Code), .slice A34 (z33.Keep).length c34], slR A0 c0 T_api_File.rep x0, slR A2 c2 T_limnographlaw20_Act.rep x2, rdR b33 o33 [.int .i64 (z33.Kind), .int .i64 (z33.N), Str (z33.Name), Str (z33.B), .int .i64 (z33.Code), .slice A34 (z33.Keep).length c34], slR A34 c34 (intR .i64) z33.Keep] ++ [optR y29 (fun z => diskO 61 68 5 F29 b15_0 z), optR y30 (fun z => T_limnographref18_Disk.obj F30 b18_0 z), slR A0 c0 T_api_File.rep x0, slR A2 c2 T_limnographlaw20_Act.rep x2, rdR b33 o33 [.int .i64 (z33.Kind), .int .i64 (z33.N), Str (z33.Name), Str (z33.B), .int .i64 (z33.Code), .slice A34 (z33.Keep).length c34], slR A34 c34 (intR .i64) z33.Keep])) (LS [optR y29 (fun z => diskO 61 68 5 F29 b15_0 z), optR y30 (fun z => T_limnographref18_Disk.obj F30 b18_0 z), slR A0 c0 T_api_File.rep x0, slR A2 c2 T_limnographlaw20_Act.rep x2, rdR b33 o33 [.int .i64 (z33.Kind), .int .i64 (z33.N), Str (z33.Name), Str (z33.B), .int .i64 (z33.Code), .slice A34 (z33.Keep).length c34], slR A34 c34 (intR .i64) z33.Keep]) w76 w101 [optR y30 (fun z => T_limnographref18_Disk.obj F30 b18_0 z), slR A0 c0 T_api_File.rep x0, slR A2 c2 T_limnographlaw20_Act.rep x2, rdR b33 o33 [.int .i64 (z33.Kind), .int .i64 (z33.N), Str (z33.Name), Str (z33.B), .int .i64 (z33.Code), .slice A34 (z33.Keep).length c34], slR A34 c34 (intR .i64) z33.Keep, slR A99 c99 byteR z77, diskO 61 68 5 F101_p0 b15_0 p79.2] := hm106.callAZ hq101
                    refine ⟨_, rfl, hm108.fr, ?_⟩
                    have e109 := e87
                    refine RH.s2bH 12 (by kernel_rfl) hm108 e109 rfl rfl rfl Try.underlying9 Try.underlying22 Try.underlying5 rfl ?_
                    intro A109 c109 w109 hm109 e109
                    refine ⟨hm109.fr, ?_⟩
                    have e112 := e90
                    have hm113 : Hp (Zo Z0 No w ([boxR b38 44 [.int .i64 (z33.Kind), .int .i64 (z33.N), Str (z33.Name), Str (z33.B), .int .i64 (z33.Code), .slice A34 (z33.Keep).length c34], slR A0 c0 T_api_File.rep x0, slR A2 c2 T_limnographlaw20_Act.rep x2, rdR b33 o33 [.int .i64 (z33.Kind), .int .i64 (z33.N), Str (z33.Name), Str (z33.B), .int .i64 (z33.Code), .slice A34 (z33.Keep).length c34], slR A34 c34 (intR .i64) z33.Keep] ++ [optR y29 (fun z => diskO 61 68 5 F29 b15_0 z), optR y30 (fun z => T_limnographref18_Disk.obj F30 b18_0 z), slR A0 c0 T_api_File.rep x0, slR A2 c2 T_limnographlaw20_Act.rep x2, rdR b33 o33 [.int .i64 (z33.Kind), .int .i64 (z33.N), Str (z33.Name), Str (z33.B), .int .i64 (z33.Code), .slice A34 (z33.Keep).length c34], slR A34 c34 (intR .i64) z33.Keep])) (LS [optR y29 (fun z => diskO 61 68 5 F29 b15_0 z), optR y30 (fun z => T_limnographref18_Disk.obj F30 b18_0 z), slR A0 c0 T_api_File.rep x0, slR A2 c2 T_limnographlaw20_Act.rep x2, rdR b33 o33 [.int .i64 (z33.Kind), .int .i64 (z33.N), Str (z33.Name), Str (z33.B), .int .i64 (z33.Code), .slice A34 (z33.Keep).length c34], slR A34 c34 (intR .i64) z33.Keep]) w76 w109 [T_limnographref18_Disk.obj F30 b18_0 z90, slR A0 c0 T_api_File.rep x0, slR A2 c2 T_limnographlaw20_Act.rep x2, rdR b33 o33 [.int .i64 (z33.Kind), .int .i64 (z33.N), Str (z33.Name), Str (z33.B), .int .i64 (z33.Code), .slice A34 (z33.Keep).length c34], slR A34 c34 (intR .i64) z33.Keep, slR A99 c99 byteR z77, diskO 61 68 5 F101_p0 b15_0 p79.2, slR A109 c109 byteR z87] := hm109.optSome 0 rfl e112
                    refine RH.say (t := 85) (.pointer (some ⟨b18_0, 0, none⟩)) rfl (by rw [e112]; rfl) ?_
                    have e111 := e89
                    have hm114 := hm113.dup 7 rfl (fun _ h => h)
                    have hm116 : Hp (Zo Z0 No w ([boxR b38 44 [.int .i64 (z33.Kind), .int .i64 (z33.N), Str (z33.Name), Str (z33.B), .int .i64 (z33.Code), .slice A34 (z33.Keep).length c34], slR A0 c0 T_api_File.rep x0, slR A2 c2 T_limnographlaw20_Act.rep x2, rdR b33 o33 [.int .i64 (z33.Kind), .int .i64 (z33.N), Str (z33.Name), Str (z33.B), .int .i64 (z33.Code), .slice A34 (z33.Keep).length c34], slR A34 c34 (intR .i64) z33.Keep] ++ [optR y29 (fun z => diskO 61 68 5 F29 b15_0 z), optR y30 (fun z => T_limnographref18_Disk.obj F30 b18_0 z), slR A0 c0 T_api_File.rep x0, slR A2 c2 T_limnographlaw20_Act.rep x2, rdR b33 o33 [.int .i64 (z33.Kind), .int .i64 (z33.N), Str (z33.Name), Str (z33.B), .int .i64 (z33.Code), .slice A34 (z33.Keep).length c34], slR A34 c34 (intR .i64) z33.Keep])) (LS [optR y29 (fun z => diskO 61 68 5 F29 b15_0 z), optR y30 (fun z => T_limnographref18_Disk.obj F30 b18_0 z), slR A0 c0 T_api_File.rep x0, slR A2 c2 T_limnographlaw20_Act.rep x2, rdR b33 o33 [.int .i64 (z33.Kind), .int .i64 (z33.N), Str (z33.Name), Str (z33.B), .int .i64 (z33.Code), .slice A34 (z33.Keep).length c34], slR A34 c34 (intR .i64) z33.Keep]) w76 w109 ([slR A0 c0 T_api_File.rep x0, slR A2 c2 T_limnographlaw20_Act.rep x2, rdR b33 o33 [.int .i64 (z33.Kind), .int .i64 (z33.N), Str (z33.Name), Str (z33.B), .int .i64 (z33.Code), .slice A34 (z33.Keep).length c34], slR A34 c34 (intR .i64) z33.Keep, slR A99 c99 byteR z77, diskO 61 68 5 F101_p0 b15_0 p79.2, slR A109 c109 byteR z87] ++ [T_limnographref18_Disk.obj F30 b18_0 z90, slR A109 c109 byteR z87]) := hm114.pick [1, 2, 3, 4, 5, 6, 7, 0, 8] rfl (by decide)
                    refine RH.cl ck17 13 (by kernel_rfl) rfl rfl rfl rfl (m_limnographref20_Save_sim (Z0 := _) _ F30 b18_0 z90 z33.Name A109 c109 z87 hm116.lend e111) ?_
                    rintro _ w111 ⟨F111_p0, rfl, hq111⟩
                    have hm118 : Hp (Zo Z0 No w ([boxR b38 44 [.int .i64 (z33.Kind), .int .i64 (z33.N), Str (z33.Name), Str (z33.B), .int .i64 (z33.Code), .slice A34 (z33.Keep).length c34], slR A0 c0 T_api_File.rep x0, slR A2 c2 T_limnographlaw20_Act.rep x2, rdR b33 o33 [.int .i64 (z33.Kind), .int .i64 (z33.N), Str (z33.Name), Str (z33.B), .int .i64 (z33.Code), .slice A34 (z33.Keep).length c34], slR A34 c34 (intR .i64) z33.Keep] ++ [optR y29 (fun z => diskO 61 68 5 F29 b15_0 z), optR y30 (fun z => T_limnographref18_Disk.obj F30 b18_0 z), slR A0 c0 T_api_File.rep x0, slR A2 c2 T_limnographlaw20_Act.rep x2, rdR b33 o33 [.int .i64 (z33.Kind), .int .i64 (z33.N), Str (z33.Name), Str (z33.B), .int .i64 (z33.Code), .slice A34 (z33.Keep).length c34], slR A34 c34 (intR .i64) z33.Keep])) (LS [optR y29 (fun z => diskO 61 68 5 F29 b15_0 z), optR y30 (fun z => T_limnographref18_Disk.obj F30 b18_0 z), slR A0 c0 T_api_File.rep x0, slR A2 c2 T_limnographlaw20_Act.rep x2, rdR b33 o33 [.int .i64 (z33.Kind), .int .i64 (z33.N), Str (z33.Name), Str (z33.B), .int .i64 (z33.Code), .slice A34 (z33.Keep).length c34], slR A34 c34 (intR .i64) z33.Keep]) w76 w111 [slR A0 c0 T_api_File.rep x0, slR A2 c2 T_limnographlaw20_Act.rep x2, rdR b33 o33 [.int .i64 (z33.Kind), .int .i64 (z33.N), Str (z33.Name), Str (z33.B), .int .i64 (z33.Code), .slice A34 (z33.Keep).length c34], slR A34 c34 (intR .i64) z33.Keep, slR A99 c99 byteR z77, diskO 61 68 5 F101_p0 b15_0 p79.2, slR A109 c109 byteR z87, T_limnographref18_Disk.obj F111_p0 b18_0 p89.2] := hm116.callAZ hq111
                    refine ⟨_, rfl, hm118.fr, ?_⟩
                    refine RH.here fun hS14 => RH.one 14 (by kernel_rfl) rfl rfl rfl rfl (V.neq rfl rfl) hS14 ?_
                    refine RH.doneP (by kernel_rfl) ?_
                    have hm119 := hmo76.callAZ hm118
                    have hm120 : Hp Z0 No w w111 [boxR b38 44 [.int .i64 (z33.Kind), .int .i64 (z33.N), Str (z33.Name), Str (z33.B), .int .i64 (z33.Code), .slice A34 (z33.Keep).length c34], slR A0 c0 T_api_File.rep x0, slR A2 c2 T_limnographlaw20_Act.rep x2, rdR b33 o33 [.int .i64 (z33.Kind), .int .i64 (z33.N), Str (z33.Name), Str (z33.B), .int .i64 (z33.Code), .slice A34 (z33.Keep).length c34], slR A34 c34 (intR .i64) z33.Keep, slR A99 c99 byteR z77, diskO 61 68 5 F101_p0 b15_0 p79.2, slR A109 c109 byteR z87, T_limnographref18_Disk.obj F111_p0 b18_0 p89.2] := hm119.pick [0, 5, 6, 7, 8, 9, 10, 11, 12] rfl (by decide)
                    refine Rn.say (t := 7) (.pointer (some ⟨b15_0, 0, none⟩)) rfl (by rw [e102]; rfl) ?_
                    have hm121 := hm120.toSome (R := (fun z => diskO 61 68 5 F101_p0 b15_0 z)) 6 rfl
                    have hm122 : Hp Z0 No w w111 [boxR b38 44 [.int .i64 (z33.Kind), .int .i64 (z33.N), Str (z33.Name), Str (z33.B), .int .i64 (z33.Code), .slice A34 (z33.Keep).length c34], slR A0 c0 T_api_File.rep x0, slR A2 c2 T_limnographlaw20_Act.rep x2, rdR b33 o33 [.int .i64 (z33.Kind), .int .i64 (z33.N), Str (z33.Name), Str (z33.B), .int .i64 (z33.Code), .slice A34 (z33.Keep).length c34], slR A34 c34 (intR .i64) z33.Keep, slR A99 c99 byteR z77, optR (some p79.2) (fun z => diskO 61 68 5 F101_p0 b15_0 z), slR A109 c109 byteR z87, T_limnographref18_Disk.obj F111_p0 b18_0 p89.2] := hm121
                    refine Rn.say (t := 8) (.pointer (some ⟨b18_0, 0, none⟩)) rfl (by rw [e112]; rfl) ?_
                    have hm123 := hm122.toSome (R := (fun z => T_limnographref18_Disk.obj F111_p0 b18_0 z)) 8 rfl
                    have hm124 : Hp Z0 No w w111 [boxR b38 44 [.int .i64 (z33.Kind), .int .i64 (z33.N), Str (z33.Name), Str (z33.B), .int .i64 (z33.Code), .slice A34 (z33.Keep).length c34], slR A0 c0 T_api_File.rep x0, slR A2 c2 T_limnographlaw20_Act.rep x2, rdR b33 o33 [.int .i64 (z33.Kind), .int .i64 (z33.N), Str (z33.Name), Str (z33.B), .int .i64 (z33.Code), .slice A34 (z33.Keep).length c34], slR A34 c34 (intR .i64) z33.Keep, slR A99 c99 byteR z77, optR (some p79.2) (fun z => diskO 61 68 5 F101_p0 b15_0 z), slR A109 c109 byteR z87, optR (some p89.2) (fun z => T_limnographref18_Disk.obj F111_p0 b18_0 z)] := hm123
                    exact hk5 ((decide (p79.1 ≠ p89.1)), (some p79.2), (some p89.2), F101_p0, F111_p0) _ _ (Sub.cons rfl (Sub.cons rfl (Sub.cons rfl (Sub.cons rfl (Sub.cons rfl (Sub.nil _)))))) (hm124.pick [1, 2, 3, 4, 0, 6, 8] rfl (by decide)) hM
                  · have e125 := e87
                    refine RB.s2bH 12 hm99 e125 rfl rfl rfl Try.underlying9 Try.underlying22 Try.underlying5 rfl ?_
                    intro A125 c125 w125 hm125 e125
                    refine ⟨hm125.fr, ?_⟩
                    have e128 := e80
                    have hm129 : Hp (Zo Z0 No w ([boxR b38 44 [.int .i64 (z33.Kind), .int .i64 (z33.N), Str (z33.Name), Str (z33.B), .int .i64 (z33.Code), .slice A34 (z33.Keep).length c34], slR A0 c0 T_api_File.rep x0, slR A2 c2 T_limnographlaw20_Act.rep x2, rdR b33 o33 [.int .i64 (z33.Kind), .int .i64 (z33.N), Str (z33.Name), Str (z33.B), .int .i64 (z33.Code), .slice A34 (z33.Keep).length c34], slR A34 c34 (intR .i64) z33.Keep] ++ [optR y29 (fun z => diskO 61 68 5 F29 b15_0 z), optR y30 (fun z => T_limnographref18_Disk.obj F30 b18_0 z), slR A0 c0 T_api_File.rep x0, slR A2 c2 T_limnographlaw20_Act.rep x2, rdR b33 o33 [.int .i64 (z33.Kind), .int .i64 (z33.N), Str (z33.Name), Str (z33.B), .int .i64 (z33.Code), .slice A34 (z33.Keep).length c34], slR A34 c34 (intR .i64) z33.Keep])) (LS [optR y29 (fun z => diskO 61 68 5 F29 b15_0 z), optR y30 (fun z => T_limnographref18_Disk.obj F30 b18_0 z), slR A0 c0 T_api_File.rep x0, slR A2 c2 T_limnographlaw20_Act.rep x2, rdR b33 o33 [.int .i64 (z33.Kind), .int .i64 (z33.N), Str (z33.Name), Str (z33.B), .int .i64 (z33.Code), .slice A34 (z33.Keep).length c34], slR A34 c34 (intR .i64) z33.Keep]) w76 w125 [diskO 61 68 5 F29 b15_0 z80, optR y30 (fun z => T_limnographref18_Disk.obj F30 b18_0 z), slR A0 c0 T_api_File.rep x0, slR A2 c2 T_limnographlaw20_Act.rep x2, rdR b33 o33 [.int .i64 (z33.Kind), .int .i64 (z33.N), Str (z33.Name), Str (z33.B), .int .i64 (z33.Code), .slice A34 (z33.Keep).length c34], slR A34 c34 (intR .i64) z33.Keep, slR A99 c99 byteR z77, slR A125 c125 byteR z87] := hm125.optSome 0 rfl e128
                    refine RH.say (t := 78) (.pointer (some ⟨b15_0, 0, none⟩)) rfl (by rw [e128]; rfl) ?_
                    have e127 := e79
                    have hm130 := hm129.dup 6 rfl (fun _ h => h)
                    have hm132 : Hp (Zo Z0 No w ([boxR b38 44 [.int .i64 (z33.Kind), .int .i64 (z33.N), Str (z33.Name), Str (z33.B), .int .i64 (z33.Code), .slice A34 (z33.Keep).length c34], slR A0 c0 T_api_File.rep x0, slR A2 c2 T_limnographlaw20_Act.rep x2, rdR b33 o33 [.int .i64 (z33.Kind), .int .i64 (z33.N), Str (z33.Name), Str (z33.B), .int .i64 (z33.Code), .slice A34 (z33.Keep).length c34], slR A34 c34 (intR .i64) z33.Keep] ++ [optR y29 (fun z => diskO 61 68 5 F29 b15_0 z), optR y30 (fun z => T_limnographref18_Disk.obj F30 b18_0 z), slR A0 c0 T_api_File.rep x0, slR A2 c2 T_limnographlaw20_Act.rep x2, rdR b33 o33 [.int .i64 (z33.Kind), .int .i64 (z33.N), Str (z33.Name), Str (z33.B), .int .i64 (z33.Code), .slice A34 (z33.Keep).length c34], slR A34 c34 (intR .i64) z33.Keep])) (LS [optR y29 (fun z => diskO 61 68 5 F29 b15_0 z), optR y30 (fun z => T_limnographref18_Disk.obj F30 b18_0 z), slR A0 c0 T_api_File.rep x0, slR A2 c2 T_limnographlaw20_Act.rep x2, rdR b33 o33 [.int .i64 (z33.Kind), .int .i64 (z33.N), Str (z33.Name), Str (z33.B), .int .i64 (z33.Code), .slice A34 (z33.Keep).length c34], slR A34 c34 (intR .i64) z33.Keep]) w76 w125 ([optR y30 (fun z => T_limnographref18_Disk.obj F30 b18_0 z), slR A0 c0 T_api_File.rep x0, slR A2 c2 T_limnographlaw20_Act.rep x2, rdR b33 o33 [.int .i64 (z33.Kind), .int .i64 (z33.N), Str (z33.Name), Str (z33.B), .int .i64 (z33.Code), .slice A34 (z33.Keep).length c34], slR A34 c34 (intR .i64) z33.Keep, slR A99 c99 byteR z77, slR A125 c125 byteR z87] ++ [diskO 61 68 5 F29 b15_0 z80, slR A99 c99 byteR z77]) := hm130.pick [1, 2, 3, 4, 5, 6, 7, 0, 8] rfl (by decide)
                    refine RH.cl ck7 6 (by kernel_rfl) rfl rfl rfl rfl (m_snap_Save_sim (Z0 := _) _ F29 b15_0 z80 z33.Name A99 c99 z77 hm132.lend e127) ?_
                    rintro _ w127 ⟨F127_p0, rfl, hq127⟩
                    have hm134 : Hp (Zo Z0 No w ([boxR b38 44 [.int .i64 (z33.Kind), .int .i64 (z33.N), Str (z33.Name), Str (z33.B), .int .i64 (z33.Code), .slice A34 (z33.Keep).length c34], slR A0 c0 T_api_File.rep x0, slR A2 c2 T_limnographlaw20_Act.rep x2, rdR b33 o33 [.int .i64 (z33.Kind), .int .i64 (z33.N), Str (z33.Name), Str (z33.B), .int .i64 (z33.Code), .slice A34 (z33.Keep).length c34], slR A34 c34 (intR .i64) z33.Keep] ++ [optR y29 (fun z => diskO 61 68 5 F29 b15_0 z), optR y30 (fun z => T_limnographref18_Disk.obj F30 b18_0 z), slR A0 c0 T_api_File.rep x0, slR A2 c2 T_limnographlaw20_Act.rep x2, rdR b33 o33 [.int .i64 (z33.Kind), .int .i64 (z33.N), Str (z33.Name), Str (z33.B), .int .i64 (z33.Code), .slice A34 (z33.Keep).length c34], slR A34 c34 (intR .i64) z33.Keep])) (LS [optR y29 (fun z => diskO 61 68 5 F29 b15_0 z), optR y30 (fun z => T_limnographref18_Disk.obj F30 b18_0 z), slR A0 c0 T_api_File.rep x0, slR A2 c2 T_limnographlaw20_Act.rep x2, rdR b33 o33 [.int .i64 (z33.Kind), .int .i64 (z33.N), Str (z33.Name), Str (z33.B), .int .i64 (z33.Code), .slice A34 (z33.Keep).length c34], slR A34 c34 (intR .i64) z33.Keep]) w76 w127 [optR y30 (fun z => T_limnographref18_Disk.obj F30 b18_0 z), slR A0 c0 T_api_File.rep x0, slR A2 c2 T_limnographlaw20_Act.rep x2, rdR b33 o33 [.int .i64 (z33.Kind), .int .i64 (z33.N), Str (z33.Name), Str (z33.B), .int .i64 (z33.Code), .slice A34 (z33.Keep).length c34], slR A34 c34 (intR .i64) z33.Keep, slR A99 c99 byteR z77, slR A125 c125 byteR z87, diskO 61 68 5 F127_p0 b15_0 p79.2] := hm132.callAZ hq127
                    refine ⟨_, rfl, hm134.fr, ?_⟩
                    have e136 := e90
                    have hm137 : Hp (Zo Z0 No w ([boxR b38 44 [.int .i64 (z33.Kind), .int .i64 (z33.N), Str (z33.Name), Str (z33.B), .int .i64 (z33.Code), .slice A34 (z33.Keep).length c34], slR A0 c0 T_api_File.rep x0, slR A2 c2 T_limnographlaw20_Act.rep x2, rdR b33 o33 [.int .i64 (z33.Kind), .int .i64 (z33.N), Str (z33.Name), Str (z33.B), .int .i64 (z33.Code), .slice A34 (z33.Keep).length c34], slR A34 c34 (intR .i64) z33.Keep] ++ [optR y29 (fun z => diskO 61 68 5 F29 b15_0 z), optR y30 (fun z => T_limnographref18_Disk.obj F30 b18_0 z), slR A0 c0 T_api_File.rep x0, slR A2 c2 T_limnographlaw20_Act.rep x2, rdR b33 o33 [.int .i64 (z33.Kind), .int .i64 (z33.N), Str (z33.Name), Str (z33.B), .int .i64 (z33.Code), .slice A34 (z33.Keep).length c34], slR A34 c34 (intR .i64) z33.Keep])) (LS [optR y29 (fun z => diskO 61 68 5 F29 b15_0 z), optR y30 (fun z => T_limnographref18_Disk.obj F30 b18_0 z), slR A0 c0 T_api_File.rep x0, slR A2 c2 T_limnographlaw20_Act.rep x2, rdR b33 o33 [.int .i64 (z33.Kind), .int .i64 (z33.N), Str (z33.Name), Str (z33.B), .int .i64 (z33.Code), .slice A34 (z33.Keep).length c34], slR A34 c34 (intR .i64) z33.Keep]) w76 w127 [T_limnographref18_Disk.obj F30 b18_0 z90, slR A0 c0 T_api_File.rep x0, slR A2 c2 T_limnographlaw20_Act.rep x2, rdR b33 o33 [.int .i64 (z33.Kind), .int .i64 (z33.N), Str (z33.Name), Str (z33.B), .int .i64 (z33.Code), .slice A34 (z33.Keep).length c34], slR A34 c34 (intR .i64) z33.Keep, slR A99 c99 byteR z77, slR A125 c125 byteR z87, diskO 61 68 5 F127_p0 b15_0 p79.2] := hm134.optSome 0 rfl e136
                    refine RH.say (t := 85) (.pointer (some ⟨b18_0, 0, none⟩)) rfl (by rw [e136]; rfl) ?_
                    have e135 := e89
                    have hm138 := hm137.dup 6 rfl (fun _ h => h)
                    have hm140 : Hp (Zo Z0 No w ([boxR b38 44 [.int .i64 (z33.Kind), .int .i64 (z33.N), Str (z33.Name), Str (z33.B), .int .i64 (z33.Code), .slice A34 (z33.Keep).length c34], slR A0 c0 T_api_File.rep x0, slR A2 c2 T_limnographlaw20_Act.rep x2, rdR b33 o33 [.int .i64 (z33.Kind), .int .i64 (z33.N), Str (z33.Name), Str (z33.B), .int .i64 (z33.Code), .slice A34 (z33.Keep).length c34], slR A34 c34 (intR .i64) z33.Keep] ++ [optR y29 (fun z => diskO 61 68 5 F29 b15_0 z), optR y30 (fun z => T_limnographref18_Disk.obj F30 b18_0 z), slR A0 c0 T_api_File.rep x0, slR A2 c2 T_limnographlaw20_Act.rep x2, rdR b33 o33 [.int .i64 (z33.Kind), .int .i64 (z33.N), Str (z33.Name), Str (z33.B), .int .i64 (z33.Code), .slice A34 (z33.Keep).length c34], slR A34 c34 (intR .i64) z33.Keep])) (LS [optR y29 (fun z => diskO 61 68 5 F29 b15_0 z), optR y30 (fun z => T_limnographref18_Disk.obj F30 b18_0 z), slR A0 c0 T_api_File.rep x0, slR A2 c2 T_limnographlaw20_Act.rep x2, rdR b33 o33 [.int .i64 (z33.Kind), .int .i64 (z33.N), Str (z33.Name), Str (z33.B), .int .i64 (z33.Code), .slice A34 (z33.Keep).length c34], slR A34 c34 (intR .i64) z33.Keep]) w76 w127 ([slR A0 c0 T_api_File.rep x0, slR A2 c2 T_limnographlaw20_Act.rep x2, rdR b33 o33 [.int .i64 (z33.Kind), .int .i64 (z33.N), Str (z33.Name), Str (z33.B), .int .i64 (z33.Code), .slice A34 (z33.Keep).length c34], slR A34 c34 (intR .i64) z33.Keep, slR A99 c99 byteR z77, slR A125 c125 byteR z87, diskO 61 68 5 F127_p0 b15_0 p79.2] ++ [T_limnographref18_Disk.obj F30 b18_0 z90, slR A125 c125 byteR z87]) := hm138.pick [1, 2, 3, 4, 5, 6, 7, 0, 8] rfl (by decide)
                    refine RH.cl ck17 13 (by kernel_rfl) rfl rfl rfl rfl (m_limnographref20_Save_sim (Z0 := _) _ F30 b18_0 z90 z33.Name A125 c125 z87 hm140.lend e135) ?_
                    rintro _ w135 ⟨F135_p0, rfl, hq135⟩
                    have hm142 : Hp (Zo Z0 No w ([boxR b38 44 [.int .i64 (z33.Kind), .int .i64 (z33.N), Str (z33.Name), Str (z33.B), .int .i64 (z33.Code), .slice A34 (z33.Keep).length c34], slR A0 c0 T_api_File.rep x0, slR A2 c2 T_limnographlaw20_Act.rep x2, rdR b33 o33 [.int .i64 (z33.Kind), .int .i64 (z33.N), Str (z33.Name), Str (z33.B), .int .i64 (z33.Code), .slice A34 (z33.Keep).length c34], slR A34 c34 (intR .i64) z33.Keep] ++ [optR y29 (fun z => diskO 61 68 5 F29 b15_0 z), optR y30 (fun z => T_limnographref18_Disk.obj F30 b18_0 z), slR A0 c0 T_api_File.rep x0, slR A2 c2 T_limnographlaw20_Act.rep x2, rdR b33 o33 [.int .i64 (z33.Kind), .int .i64 (z33.N), Str (z33.Name), Str (z33.B), .int .i64 (z33.Code), .slice A34 (z33.Keep).length c34], slR A34 c34 (intR .i64) z33.Keep])) (LS [optR y29 (fun z => diskO 61 68 5 F29 b15_0 z), optR y30 (fun z => T_limnographref18_Disk.obj F30 b18_0 z), slR A0 c0 T_api_File.rep x0, slR A2 c2 T_limnographlaw20_Act.rep x2, rdR b33 o33 [.int .i64 (z33.Kind), .int .i64 (z33.N), Str (z33.Name), Str (z33.B), .int .i64 (z33.Code), .slice A34 (z33.Keep).length c34], slR A34 c34 (intR .i64) z33.Keep]) w76 w135 [slR A0 c0 T_api_File.rep x0, slR A2 c2 T_limnographlaw20_Act.rep x2, rdR b33 o33 [.int .i64 (z33.Kind), .int .i64 (z33.N), Str (z33.Name), Str (z33.B), .int .i64 (z33.Code), .slice A34 (z33.Keep).length c34], slR A34 c34 (intR .i64) z33.Keep, slR A99 c99 byteR z77, slR A125 c125 byteR z87, diskO 61 68 5 F127_p0 b15_0 p79.2, T_limnographref18_Disk.obj F135_p0 b18_0 p89.2] := hm140.callAZ hq135
                    refine ⟨_, rfl, hm142.fr, ?_⟩
                    refine RH.here fun hS14 => RH.one 14 (by kernel_rfl) rfl rfl rfl rfl (V.neq rfl rfl) hS14 ?_
                    refine RH.doneP (by kernel_rfl) ?_
                    have hm143 := hmo76.callAZ hm142
                    have hm144 : Hp Z0 No w w135 [boxR b38 44 [.int .i64 (z33.Kind), .int .i64 (z33.N), Str (z33.Name), Str (z33.B), .int .i64 (z33.Code), .slice A34 (z33.Keep).length c34], slR A0 c0 T_api_File.rep x0, slR A2 c2 T_limnographlaw20_Act.rep x2, rdR b33 o33 [.int .i64 (z33.Kind), .int .i64 (z33.N), Str (z33.Name), Str (z33.B), .int .i64 (z33.Code), .slice A34 (z33.Keep).length c34], slR A34 c34 (intR .i64) z33.Keep, slR A99 c99 byteR z77, slR A125 c125 byteR z87, diskO 61 68 5 F127_p0 b15_0 p79.2, T_limnographref18_Disk.obj F135_p0 b18_0 p89.2] := hm143.pick [0, 5, 6, 7, 8, 9, 10, 11, 12] rfl (by decide)
                    refine Rn.say (t := 7) (.pointer (some ⟨b15_0, 0, none⟩)) rfl (by rw [e128]; rfl) ?_
                    have hm145 := hm144.toSome (R := (fun z => diskO 61 68 5 F127_p0 b15_0 z)) 7 rfl
                    have hm146 : Hp Z0 No w w135 [boxR b38 44 [.int .i64 (z33.Kind), .int .i64 (z33.N), Str (z33.Name), Str (z33.B), .int .i64 (z33.Code), .slice A34 (z33.Keep).length c34], slR A0 c0 T_api_File.rep x0, slR A2 c2 T_limnographlaw20_Act.rep x2, rdR b33 o33 [.int .i64 (z33.Kind), .int .i64 (z33.N), Str (z33.Name), Str (z33.B), .int .i64 (z33.Code), .slice A34 (z33.Keep).length c34], slR A34 c34 (intR .i64) z33.Keep, slR A99 c99 byteR z77, slR A125 c125 byteR z87, optR (some p79.2) (fun z => diskO 61 68 5 F127_p0 b15_0 z), T_limnographref18_Disk.obj F135_p0 b18_0 p89.2] := hm145
                    refine Rn.say (t := 8) (.pointer (some ⟨b18_0, 0, none⟩)) rfl (by rw [e136]; rfl) ?_
                    have hm147 := hm146.toSome (R := (fun z => T_limnographref18_Disk.obj F135_p0 b18_0 z)) 8 rfl
                    have hm148 : Hp Z0 No w w135 [boxR b38 44 [.int .i64 (z33.Kind), .int .i64 (z33.N), Str (z33.Name), Str (z33.B), .int .i64 (z33.Code), .slice A34 (z33.Keep).length c34], slR A0 c0 T_api_File.rep x0, slR A2 c2 T_limnographlaw20_Act.rep x2, rdR b33 o33 [.int .i64 (z33.Kind), .int .i64 (z33.N), Str (z33.Name), Str (z33.B), .int .i64 (z33.Code), .slice A34 (z33.Keep).length c34], slR A34 c34 (intR .i64) z33.Keep, slR A99 c99 byteR z77, slR A125 c125 byteR z87, optR (some p79.2) (fun z => diskO 61 68 5 F127_p0 b15_0 z), optR (some p89.2) (fun z => T_limnographref18_Disk.obj F135_p0 b18_0 z)] := hm147
                    exact hk5 ((decide (p79.1 ≠ p89.1)), (some p79.2), (some p89.2), F127_p0, F135_p0) _ _ (Sub.cons rfl (Sub.cons rfl (Sub.cons rfl (Sub.cons rfl (Sub.cons rfl (Sub.nil _)))))) (hm148.pick [1, 2, 3, 4, 0, 7, 8] rfl (by decide)) hM
                · have e149 := e87
                  refine RB.s2bH 12 hm76 e149 rfl rfl rfl Try.underlying9 Try.underlying22 Try.underlying5 rfl ?_
                  intro A149 c149 w149 hm149 e149
                  refine ⟨hm149.fr, ?_⟩
                  have e151 := e77
                  refine RH.s2bH 5 (by kernel_rfl) hm149 e151 rfl rfl rfl Try.underlying9 Try.underlying22 Try.underlying5 rfl ?_
                  intro A151 c151 w151 hm151 e151
                  refine ⟨hm151.fr, ?_⟩
                  have e154 := e80
                  have hm155 : Hp (Zo Z0 No w ([boxR b38 44 [.int .i64 (z33.Kind), .int .i64 (z33.N), Str (z33.Name), Str (z33.B), .int .i64 (z33.Code), .slice A34 (z33.Keep).length c34], slR A0 c0 T_api_File.rep x0, slR A2 c2 T_limnographlaw20_Act.rep x2, rdR b33 o33 [.int .i64 (z33.Kind), .int .i64 (z33.N), Str (z33.Name), Str (z33.B), .int .i64 (z33.Code), .slice A34 (z33.Keep).length c34], slR A34 c34 (intR .i64) z33.Keep] ++ [optR y29 (fun z => diskO 61 68 5 F29 b15_0 z), optR y30 (fun z => T_limnographref18_Disk.obj F30 b18_0 z), slR A0 c0 T_api_File.rep x0, slR A2 c2 T_limnographlaw20_Act.rep x2, rdR b33 o33 [.int .i64 (z33.Kind), .int .i64 (z33.N), Str (z33.Name), Str (z33.B), .int .i64 (z33.Code), .slice A34 (z33.Keep).length c34], slR A34 c34 (intR .i64) z33.Keep])) (LS [optR y29 (fun z => diskO 61 68 5 F29 b15_0 z), optR y30 (fun z => T_limnographref18_Disk.obj F30 b18_0 z), slR A0 c0 T_api_File.rep x0, slR A2 c2 T_limnographlaw20_Act.rep x2, rdR b33 o33 [.int .i64 (z33.Kind), .int .i64 (z33.N), Str (z33.Name), Str (z33.B), .int .i64 (z33.Code), .slice A34 (z33.Keep).length c34], slR A34 c34 (intR .i64) z33.Keep]) w76 w151 [diskO 61 68 5 F29 b15_0 z80, optR y30 (fun z => T_limnographref18_Disk.obj F30 b18_0 z), slR A0 c0 T_api_File.rep x0, slR A2 c2 T_limnographlaw20_Act.rep x2, rdR b33 o33 [.int .i64 (z33.Kind), .int .i64 (z33.N), Str (z33.Name), Str (z33.B), .int .i64 (z33.Code), .slice A34 (z33.Keep).length c34], slR A34 c34 (intR .i64) z33.Keep, slR A149 c149 byteR z87, slR A151 c151 byteR z77] := hm151.optSome 0 rfl e154
                  refine RH.say (t := 78) (.pointer (some ⟨b15_0, 0, none⟩)) rfl (by rw [e154]; rfl) ?_
                  have e153 := e79
                  have hm156 := hm155.dup 7 rfl (fun _ h => h)
                  have hm158 : Hp (Zo Z0 No w ([boxR b38 44 [.int .i64 (z33.Kind), .int .i64 (z33.N), Str (z33.Name), Str (z33.B), .int .i64 (z33.Code), .slice A34 (z33.Keep).length c34], slR A0 c0 T_api_File.rep x0, slR A2 c2 T_limnographlaw20_Act.rep x2, rdR b33 o33 [.int .i64 (z33.Kind), .int .i64 (z33.N), Str (z33.Name), Str (z33.B), .int .i64 (z33.Code), .slice A34 (z33.Keep).length c34], slR A34 c34 (intR .i64) z33.Keep] ++ [optR y29 (fun z => diskO 61 68 5 F29 b15_0 z), optR y30 (fun z => T_limnographref18_Disk.obj F30 b18_0 z), slR A0 c0 T_api_File.rep x0, slR A2 c2 T_limnographlaw20_Act.rep x2, rdR b33 o33 [.int .i64 (z33.Kind), .int .i64 (z33.N), Str (z33.Name), Str (z33.B), .int .i64 (z33.Code), .slice A34 (z33.Keep).length c34], slR A34 c34 (intR .i64) z33.Keep])) (LS [optR y29 (fun z => diskO 61 68 5 F29 b15_0 z), optR y30 (fun z => T_limnographref18_Disk.obj F30 b18_0 z), slR A0 c0 T_api_File.rep x0, slR A2 c2 T_limnographlaw20_Act.rep x2, rdR b33 o33 [.int .i64 (z33.Kind), .int .i64 (z33.N), Str (z33.Name), Str (z33.B), .int .i64 (z33.Code), .slice A34 (z33.Keep).length c34], slR A34 c34 (intR .i64) z33.Keep]) w76 w151 ([optR y30 (fun z => T_limnographref18_Disk.obj F30 b18_0 z), slR A0 c0 T_api_File.rep x0, slR A2 c2 T_limnographlaw20_Act.rep x2, rdR b33 o33 [.int .i64 (z33.Kind), .int .i64 (z33.N), Str (z33.Name), Str (z33.B), .int .i64 (z33.Code), .slice A34 (z33.Keep).length c34], slR A34 c34 (intR .i64) z33.Keep, slR A149 c149 byteR z87, slR A151 c151 byteR z77] ++ [diskO 61 68 5 F29 b15_0 z80, slR A151 c151 byteR z77]) := hm156.pick [1, 2, 3, 4, 5, 6, 7, 0, 8] rfl (by decide)
                  refine RH.cl ck7 6 (by kernel_rfl) rfl rfl rfl rfl (m_snap_Save_sim (Z0 := _) _ F29 b15_0 z80 z33.Name A151 c151 z77 hm158.lend e153) ?_
                  rintro _ w153 ⟨F153_p0, rfl, hq153⟩
                  have hm160 : Hp (Zo Z0 No w ([boxR b38 44 [.int .i64 (z33.Kind), .int .i64 (z33.N), Str (z33.Name), Str (z33.B), .int .i64 (z33.Code), .slice A34 (z33.Keep).length c34], slR A0 c0 T_api_File.rep x0, slR A2 c2 T_limnographlaw20_Act.rep x2, rdR b33 o33 [.int .i64 (z33.Kind), .int .i64 (z33.N), Str (z33.Name), Str (z33.B), .int .i64 (z33.Code), .slice A34 (z33.Keep).length c34], slR A34 c34 (intR .i64) z33.Keep] ++ [optR y29 (fun z => diskO 61 68 5 F29 b15_0 z), optR y30 (fun z => T_limnographref18_Disk.obj F30 b18_0 z), slR A0 c0 T_api_File.rep x0, slR A2 c2 T_limnographlaw20_Act.rep x2, rdR b33 o33 [.int .i64 (z33.Kind), .int .i64 (z33.N), Str (z33.Name), Str (z33.B), .int .i64 (z33.Code), .slice A34 (z33.Keep).length c34], slR A34 c34 (intR .i64) z33.Keep])) (LS [optR y29 (fun z => diskO 61 68 5 F29 b15_0 z), optR y30 (fun z => T_limnographref18_Disk.obj F30 b18_0 z), slR A0 c0 T_api_File.rep x0, slR A2 c2 T_limnographlaw20_Act.rep x2, rdR b33 o33 [.int .i64 (z33.Kind), .int .i64 (z33.N), Str (z33.Name), Str (z33.B), .int .i64 (z33.Code), .slice A34 (z33.Keep).length c34], slR A34 c34 (intR .i64) z33.Keep]) w76 w153 [optR y30 (fun z => T_limnographref18_Disk.obj F30 b18_0 z), slR A0 c0 T_api_File.rep x0, slR A2 c2 T_limnographlaw20_Act.rep x2, rdR b33 o33 [.int .i64 (z33.Kind), .int .i64 (z33.N), Str (z33.Name), Str (z33.B), .int .i64 (z33.Code), .slice A34 (z33.Keep).length c34], slR A34 c34 (intR .i64) z33.Keep, slR A149 c149 byteR z87, slR A151 c151 byteR z77, diskO 61 68 5 F153_p0 b15_0 p79.2] := hm158.callAZ hq153
                  refine ⟨_, rfl, hm160.fr, ?_⟩
                  have e162 := e90
                  have hm163 : Hp (Zo Z0 No w ([boxR b38 44 [.int .i64 (z33.Kind), .int .i64 (z33.N), Str (z33.Name), Str (z33.B), .int .i64 (z33.Code), .slice A34 (z33.Keep).length c34], slR A0 c0 T_api_File.rep x0, slR A2 c2 T_limnographlaw20_Act.rep x2, rdR b33 o33 [.int .i64 (z33.Kind), .int .i64 (z33.N), Str (z33.Name), Str (z33.B), .int .i64 (z33.Code), .slice A34 (z33.Keep).length c34], slR A34 c34 (intR .i64) z33.Keep] ++ [optR y29 (fun z => diskO 61 68 5 F29 b15_0 z), optR y30 (fun z => T_limnographref18_Disk.obj F30 b18_0 z), slR A0 c0 T_api_File.rep x0, slR A2 c2 T_limnographlaw20_Act.rep x2, rdR b33 o33 [.int .i64 (z33.Kind), .int .i64 (z33.N), Str (z33.Name), Str (z33.B), .int .i64 (z33.Code), .slice A34 (z33.Keep).length c34], slR A34 c34 (intR .i64) z33.Keep])) (LS [optR y29 (fun z => diskO 61 68 5 F29 b15_0 z), optR y30 (fun z => T_limnographref18_Disk.obj F30 b18_0 z), slR A0 c0 T_api_File.rep x0, slR A2 c2 T_limnographlaw20_Act.rep x2, rdR b33 o33 [.int .i64 (z33.Kind), .int .i64 (z33.N), Str (z33.Name), Str (z33.B), .int .i64 (z33.Code), .slice A34 (z33.Keep).length c34], slR A34 c34 (intR .i64) z33.Keep]) w76 w153 [T_limnographref18_Disk.obj F30 b18_0 z90, slR A0 c0 T_api_File.rep x0, slR A2 c2 T_limnographlaw20_Act.rep x2, rdR b33 o33 [.int .i64 (z33.Kind), .int .i64 (z33.N), Str (z33.Name), Str (z33.B), .int .i64 (z33.Code), .slice A34 (z33.Keep).length c34], slR A34 c34 (intR .i64) z33.Keep, slR A149 c149 byteR z87, slR A151 c151 byteR z77, diskO 61 68 5 F153_p0 b15_0 p79.2] := hm160.optSome 0 rfl e162
                  refine RH.say (t := 85) (.pointer (some ⟨b18_0, 0, none⟩)) rfl (by rw [e162]; rfl) ?_
                  have e161 := e89
                  have hm164 := hm163.dup 5 rfl (fun _ h => h)
                  have hm166 : Hp (Zo Z0 No w ([boxR b38 44 [.int .i64 (z33.Kind), .int .i64 (z33.N), Str (z33.Name), Str (z33.B), .int .i64 (z33.Code), .slice A34 (z33.Keep).length c34], slR A0 c0 T_api_File.rep x0, slR A2 c2 T_limnographlaw20_Act.rep x2, rdR b33 o33 [.int .i64 (z33.Kind), .int .i64 (z33.N), Str (z33.Name), Str (z33.B), .int .i64 (z33.Code), .slice A34 (z33.Keep).length c34], slR A34 c34 (intR .i64) z33.Keep] ++ [optR y29 (fun z => diskO 61 68 5 F29 b15_0 z), optR y30 (fun z => T_limnographref18_Disk.obj F30 b18_0 z), slR A0 c0 T_api_File.rep x0, slR A2 c2 T_limnographlaw20_Act.rep x2, rdR b33 o33 [.int .i64 (z33.Kind), .int .i64 (z33.N), Str (z33.Name), Str (z33.B), .int .i64 (z33.Code), .slice A34 (z33.Keep).length c34], slR A34 c34 (intR .i64) z33.Keep])) (LS [optR y29 (fun z => diskO 61 68 5 F29 b15_0 z), optR y30 (fun z => T_limnographref18_Disk.obj F30 b18_0 z), slR A0 c0 T_api_File.rep x0, slR A2 c2 T_limnographlaw20_Act.rep x2, rdR b33 o33 [.int .i64 (z33.Kind), .int .i64 (z33.N), Str (z33.Name), Str (z33.B), .int .i64 (z33.Code), .slice A34 (z33.Keep).length c34], slR A34 c34 (intR .i64) z33.Keep]) w76 w153 ([slR A0 c0 T_api_File.rep x0, slR A2 c2 T_limnographlaw20_Act.rep x2, rdR b33 o33 [.int .i64 (z33.Kind), .int .i64 (z33.N), Str (z33.Name), Str (z33.B), .int .i64 (z33.Code), .slice A34 (z33.Keep).length c34], slR A34 c34 (intR .i64) z33.Keep, slR A149 c149 byteR z87, slR A151 c151 byteR z77, diskO 61 68 5 F153_p0 b15_0 p79.2] ++ [T_limnographref18_Disk.obj F30 b18_0 z90, slR A149 c149 byteR z87]) := hm164.pick [1, 2, 3, 4, 5, 6, 7, 0, 8] rfl (by decide)
                  refine RH.cl ck17 13 (by kernel_rfl) rfl rfl rfl rfl (m_limnographref20_Save_sim (Z0 := _) _ F30 b18_0 z90 z33.Name A149 c149 z87 hm166.lend e161) ?_
                  rintro _ w161 ⟨F161_p0, rfl, hq161⟩
                  have hm168 : Hp (Zo Z0 No w ([boxR b38 44 [.int .i64 (z33.Kind), .int .i64 (z33.N), Str (z33.Name), Str (z33.B), .int .i64 (z33.Code), .slice A34 (z33.Keep).length c34], slR A0 c0 T_api_File.rep x0, slR A2 c2 T_limnographlaw20_Act.rep x2, rdR b33 o33 [.int .i64 (z33.Kind), .int .i64 (z33.N), Str (z33.Name), Str (z33.B), .int .i64 (z33.Code), .slice A34 (z33.Keep).length c34], slR A34 c34 (intR .i64) z33.Keep] ++ [optR y29 (fun z => diskO 61 68 5 F29 b15_0 z), optR y30 (fun z => T_limnographref18_Disk.obj F30 b18_0 z), slR A0 c0 T_api_File.rep x0, slR A2 c2 T_limnographlaw20_Act.rep x2, rdR b33 o33 [.int .i64 (z33.Kind), .int .i64 (z33.N), Str (z33.Name), Str (z33.B), .int .i64 (z33.Code), .slice A34 (z33.Keep).length c34], slR A34 c34 (intR .i64) z33.Keep])) (LS [optR y29 (fun z => diskO 61 68 5 F29 b15_0 z), optR y30 (fun z => T_limnographref18_Disk.obj F30 b18_0 z), slR A0 c0 T_api_File.rep x0, slR A2 c2 T_limnographlaw20_Act.rep x2, rdR b33 o33 [.int .i64 (z33.Kind), .int .i64 (z33.N), Str (z33.Name), Str (z33.B), .int .i64 (z33.Code), .slice A34 (z33.Keep).length c34], slR A34 c34 (intR .i64) z33.Keep]) w76 w161 [slR A0 c0 T_api_File.rep x0, slR A2 c2 T_limnographlaw20_Act.rep x2, rdR b33 o33 [.int .i64 (z33.Kind), .int .i64 (z33.N), Str (z33.Name), Str (z33.B), .int .i64 (z33.Code), .slice A34 (z33.Keep).length c34], slR A34 c34 (intR .i64) z33.Keep, slR A149 c149 byteR z87, slR A151 c151 byteR z77, diskO 61 68 5 F153_p0 b15_0 p79.2, T_limnographref18_Disk.obj F161_p0 b18_0 p89.2] := hm166.callAZ hq161
                  refine ⟨_, rfl, hm168.fr, ?_⟩
                  refine RH.here fun hS14 => RH.one 14 (by kernel_rfl) rfl rfl rfl rfl (V.neq rfl rfl) hS14 ?_
                  refine RH.doneP (by kernel_rfl) ?_
                  have hm169 := hmo76.callAZ hm168
                  have hm170 : Hp Z0 No w w161 [boxR b38 44 [.int .i64 (z33.Kind), .int .i64 (z33.N), Str (z33.Name), Str (z33.B), .int .i64 (z33.Code), .slice A34 (z33.Keep).length c34], slR A0 c0 T_api_File.rep x0, slR A2 c2 T_limnographlaw20_Act.rep x2, rdR b33 o33 [.int .i64 (z33.Kind), .int .i64 (z33.N), Str (z33.Name), Str (z33.B), .int .i64 (z33.Code), .slice A34 (z33.Keep).length c34], slR A34 c34 (intR .i64) z33.Keep, slR A149 c149 byteR z87, slR A151 c151 byteR z77, diskO 61 68 5 F153_p0 b15_0 p79.2, T_limnographref18_Disk.obj F161_p0 b18_0 p89.2] := hm169.pick [0, 5, 6, 7, 8, 9, 10, 11, 12] rfl (by decide)
                  refine Rn.say (t := 7) (.pointer (some ⟨b15_0, 0, none⟩)) rfl (by rw [e154]; rfl) ?_
                  have hm171 := hm170.toSome (R := (fun z => diskO 61 68 5 F153_p0 b15_0 z)) 7 rfl
                  have hm172 : Hp Z0 No w w161 [boxR b38 44 [.int .i64 (z33.Kind), .int .i64 (z33.N), Str (z33.Name), Str (z33.B), .int .i64 (z33.Code), .slice A34 (z33.Keep).length c34], slR A0 c0 T_api_File.rep x0, slR A2 c2 T_limnographlaw20_Act.rep x2, rdR b33 o33 [.int .i64 (z33.Kind), .int .i64 (z33.N), Str (z33.Name), Str (z33.B), .int .i64 (z33.Code), .slice A34 (z33.Keep).length c34], slR A34 c34 (intR .i64) z33.Keep, slR A149 c149 byteR z87, slR A151 c151 byteR z77, optR (some p79.2) (fun z => diskO 61 68 5 F153_p0 b15_0 z), T_limnographref18_Disk.obj F161_p0 b18_0 p89.2] := hm171
                  refine Rn.say (t := 8) (.pointer (some ⟨b18_0, 0, none⟩)) rfl (by rw [e162]; rfl) ?_
                  have hm173 := hm172.toSome (R := (fun z => T_limnographref18_Disk.obj F161_p0 b18_0 z)) 8 rfl
                  have hm174 : Hp Z0 No w w161 [boxR b38 44 [.int .i64 (z33.Kind), .int .i64 (z33.N), Str (z33.Name), Str (z33.B), .int .i64 (z33.Code), .slice A34 (z33.Keep).length c34], slR A0 c0 T_api_File.rep x0, slR A2 c2 T_limnographlaw20_Act.rep x2, rdR b33 o33 [.int .i64 (z33.Kind), .int .i64 (z33.N), Str (z33.Name), Str (z33.B), .int .i64 (z33.Code), .slice A34 (z33.Keep).length c34], slR A34 c34 (intR .i64) z33.Keep, slR A149 c149 byteR z87, slR A151 c151 byteR z77, optR (some p79.2) (fun z => diskO 61 68 5 F153_p0 b15_0 z), optR (some p89.2) (fun z => T_limnographref18_Disk.obj F161_p0 b18_0 z)] := hm173
                  exact hk5 ((decide (p79.1 ≠ p89.1)), (some p79.2), (some p89.2), F153_p0, F161_p0) _ _ (Sub.cons rfl (Sub.cons rfl (Sub.cons rfl (Sub.cons rfl (Sub.cons rfl (Sub.nil _)))))) (hm174.pick [1, 2, 3, 4, 0, 7, 8] rfl (by decide)) hM
              · replace hM := iteF h60 hM
                refine Rn.seq (Rn.reg (Rn.v rfl rfl rfl rfl (V.eql rfl rfl) (Rn.v rfl rfl rfl rfl (V.as rfl) (Rn.regEnd ?_))))
                refine Rn.condD rfl (fun h175 => ?_) (fun h175 => ?_)
                · replace hM := iteT h175 hM
                  refine Rn.seq (Rn.reg (Rn.v rfl rfl rfl rfl (V.mv rfl) (Rn.v rfl rfl rfl rfl (V.fa Try.underlying44 rfl Try.sizeOf9 rfl rfl) (Rn.v rfl rfl rfl rfl (V.ldB Try.isAgg9 rfl (hm40.get 6 rfl) rfl) ?_))))
                  obtain ⟨z177, e177, hM⟩ := bindE hM
                  have hm178 : Hp Z0 No w w38 [slR A0 c0 T_api_File.rep x0, slR A2 c2 T_limnographlaw20_Act.rep x2, diskO 61 68 5 F29 b15_0 z177, optR y30 (fun z => T_limnographref18_Disk.obj F30 b18_0 z), rdR b33 o33 [.int .i64 (z33.Kind), .int .i64 (z33.N), Str (z33.Name), Str (z33.B), .int .i64 (z33.Code), .slice A34 (z33.Keep).length c34], slR A34 c34 (intR .i64) z33.Keep, boxR b38 44 [.int .i64 (z33.Kind), .int .i64 (z33.N), Str (z33.Name), Str (z33.B), .int .i64 (z33.Code), .slice A34 (z33.Keep).length c34]] := hm40.optSome 2 rfl e177
                  refine Rn.say (t := 96) (.pointer (some ⟨b15_0, 0, none⟩)) rfl (by rw [e177]; rfl) ?_
                  obtain ⟨p176, e176, hM⟩ := bindE hM
                  have hm179 : Hp Z0 No w w38 ([slR A0 c0 T_api_File.rep x0, slR A2 c2 T_limnographlaw20_Act.rep x2, optR y30 (fun z => T_limnographref18_Disk.obj F30 b18_0 z), rdR b33 o33 [.int .i64 (z33.Kind), .int .i64 (z33.N), Str (z33.Name), Str (z33.B), .int .i64 (z33.Code), .slice A34 (z33.Keep).length c34], slR A34 c34 (intR .i64) z33.Keep, boxR b38 44 [.int .i64 (z33.Kind), .int .i64 (z33.N), Str (z33.Name), Str (z33.B), .int .i64 (z33.Code), .slice A34 (z33.Keep).length c34]] ++ [diskO 61 68 5 F29 b15_0 z177]) := hm178.pick [0, 1, 3, 4, 5, 6, 2] rfl (by decide)
                  refine Rn.cl ck13 rfl rfl rfl rfl (m_snap_Load_sim (Z0 := _) _ F29 b15_0 z177 z33.Name hm179.lend e176) ?_
                  rintro _ w176 ⟨A176_0_0, c176_0_0, F176_p0, rfl, hq176⟩
                  refine ⟨_, rfl, ?_⟩
                  have hm182 : Hp Z0 No w w176 [slR A0 c0 T_api_File.rep x0, slR A2 c2 T_limnographlaw20_Act.rep x2, optR y30 (fun z => T_limnographref18_Disk.obj F30 b18_0 z), rdR b33 o33 [.int .i64 (z33.Kind), .int .i64 (z33.N), Str (z33.Name), Str (z33.B), .int .i64 (z33.Code), .slice A34 (z33.Keep).length c34], slR A34 c34 (intR .i64) z33.Keep, boxR b38 44 [.int .i64 (z33.Kind), .int .i64 (z33.N), Str (z33.Name), Str (z33.B), .int .i64 (z33.Code), .slice A34 (z33.Keep).length c34], ownR 5 A176_0_0 c176_0_0 byteR p176.1, diskO 61 68 5 F176_p0 b15_0 p176.2.2.2] := hm179.callAZ hq176
                  refine Rn.v rfl rfl rfl rfl (V.mv rfl) (Rn.v rfl rfl rfl rfl (V.ext rfl rfl) (Rn.v rfl rfl rfl rfl (V.ext rfl rfl) (Rn.v rfl rfl rfl rfl (V.ext rfl rfl) (Rn.v rfl rfl rfl rfl (V.as rfl) (Rn.v rfl rfl rfl rfl (V.as rfl) (Rn.v rfl rfl rfl rfl (V.as rfl) (Rn.regEnd (Rn.seq (Rn.reg (Rn.v rfl rfl rfl rfl (V.mv rfl) (Rn.v rfl rfl rfl rfl (V.fa Try.underlying44 rfl Try.sizeOf9 rfl rfl) (Rn.v rfl rfl rfl rfl (V.ldB Try.isAgg9 rfl (hm182.get 5 rfl) rfl) ?_))))))))))))
                  obtain ⟨z184, e184, hM⟩ := bindE hM
                  have hm185 : Hp Z0 No w w176 [slR A0 c0 T_api_File.rep x0, slR A2 c2 T_limnographlaw20_Act.rep x2, T_limnographref18_Disk.obj F30 b18_0 z184, rdR b33 o33 [.int .i64 (z33.Kind), .int .i64 (z33.N), Str (z33.Name), Str (z33.B), .int .i64 (z33.Code), .slice A34 (z33.Keep).length c34], slR A34 c34 (intR .i64) z33.Keep, boxR b38 44 [.int .i64 (z33.Kind), .int .i64 (z33.N), Str (z33.Name), Str (z33.B), .int .i64 (z33.Code), .slice A34 (z33.Keep).length c34], ownR 5 A176_0_0 c176_0_0 byteR p176.1, diskO 61 68 5 F176_p0 b15_0 p176.2.2.2] := hm182.optSome 2 rfl e184
                  refine Rn.say (t := 103) (.pointer (some ⟨b18_0, 0, none⟩)) rfl (by rw [e184]; rfl) ?_
                  obtain ⟨p183, e183, hM⟩ := bindE hM
                  have hm186 : Hp Z0 No w w176 ([slR A0 c0 T_api_File.rep x0, slR A2 c2 T_limnographlaw20_Act.rep x2, rdR b33 o33 [.int .i64 (z33.Kind), .int .i64 (z33.N), Str (z33.Name), Str (z33.B), .int .i64 (z33.Code), .slice A34 (z33.Keep).length c34], slR A34 c34 (intR .i64) z33.Keep, boxR b38 44 [.int .i64 (z33.Kind), .int .i64 (z33.N), Str (z33.Name), Str (z33.B), .int .i64 (z33.Code), .slice A34 (z33.Keep).length c34], ownR 5 A176_0_0 c176_0_0 byteR p176.1, diskO 61 68 5 F176_p0 b15_0 p176.2.2.2] ++ [T_limnographref18_Disk.obj F30 b18_0 z184]) := hm185.pick [0, 1, 3, 4, 5, 6, 7, 2] rfl (by decide)
                  refine Rn.cl ck18 rfl rfl rfl rfl (m_limnographref20_Load_sim (Z0 := _) _ F30 b18_0 z184 z33.Name hm186.lend e183) ?_
                  rintro _ w183 ⟨A183_0_0, c183_0_0, F183_p0, rfl, hq183⟩
                  refine ⟨_, rfl, ?_⟩
                  have hm189 : Hp Z0 No w w183 [slR A0 c0 T_api_File.rep x0, slR A2 c2 T_limnographlaw20_Act.rep x2, rdR b33 o33 [.int .i64 (z33.Kind), .int .i64 (z33.N), Str (z33.Name), Str (z33.B), .int .i64 (z33.Code), .slice A34 (z33.Keep).length c34], slR A34 c34 (intR .i64) z33.Keep, boxR b38 44 [.int .i64 (z33.Kind), .int .i64 (z33.N), Str (z33.Name), Str (z33.B), .int .i64 (z33.Code), .slice A34 (z33.Keep).length c34], ownR 5 A176_0_0 c176_0_0 byteR p176.1, diskO 61 68 5 F176_p0 b15_0 p176.2.2.2, slR A183_0_0 c183_0_0 byteR p183.1.B, T_limnographref18_Disk.obj F183_p0 b18_0 p183.2] := hm186.callAZ hq183
                  refine Rn.als rfl rfl rfl Try.zeroValue47 rfl Try.sizeOf47 rfl rfl rfl rfl (by first | exact ones rfl | (simp [Value.oneCell']; done)) ?_
                  intro b190 w190 hb190 m190 e190
                  have hm192 : Hp Z0 No w w190 [slR A0 c0 T_api_File.rep x0, slR A2 c2 T_limnographlaw20_Act.rep x2, rdR b33 o33 [.int .i64 (z33.Kind), .int .i64 (z33.N), Str (z33.Name), Str (z33.B), .int .i64 (z33.Code), .slice A34 (z33.Keep).length c34], slR A34 c34 (intR .i64) z33.Keep, boxR b38 44 [.int .i64 (z33.Kind), .int .i64 (z33.N), Str (z33.Name), Str (z33.B), .int .i64 (z33.Code), .slice A34 (z33.Keep).length c34], ownR 5 A176_0_0 c176_0_0 byteR p176.1, diskO 61 68 5 F176_p0 b15_0 p176.2.2.2, slR A183_0_0 c183_0_0 byteR p183.1.B, T_limnographref18_Disk.obj F183_p0 b18_0 p183.2, boxR b190 47 [.slice A183_0_0 (p183.1.B).length c183_0_0, .bool (p183.1.Is), .int .i64 (p183.1.E)]] := hm189.addBox hb190 e190 m190
                  refine Rn.regEnd (Rn.seq (Rn.reg (Rn.v rfl rfl rfl rfl (V.mv rfl) (Rn.v rfl rfl rfl rfl (V.b2s Try.underlying22 Try.underlying9 Try.underlying5 rfl rfl (Own.sl (hm192.get 5 rfl))) (Rn.v rfl rfl rfl rfl (V.fa Try.underlying47 rfl Try.sizeOf22 rfl rfl) (Rn.v rfl rfl rfl rfl (V.ldB Try.isAgg22 rfl (hm192.get 9 rfl) rfl) (Rn.v rfl rfl rfl rfl (V.b2s Try.underlying22 Try.underlying9 Try.underlying5 rfl rfl (hm192.get 7 rfl).2.2) (Rn.v rfl rfl rfl rfl (V.neqS rfl rfl) (Rn.v rfl rfl rfl rfl (V.mv rfl) ?_)))))))))
                  refine Rn.cutR [12, 13, 14, 15, 16, 17] [(2, .slice A2 (x2).length c2), (7, .pointer (optP b15_0 y29)), (8, .pointer (optP b18_0 y30)), (9, .int .i64 (y28)), (13, .int .i64 (p176.2.2.1)), (14, .pointer (some ⟨b190, 0, none⟩)), (118, .bool (decide ((p176.1 ≠ p183.1.B) ∨ (p176.2.1 ≠ p183.1.Is))))] (fun hk193 => ?_) ?_
                  · refine Rn.partD (t := 113) rfl (fun h194 => ?_) (fun h194 => ?_)
                    · refine Rn.no rfl rfl rfl rfl (Rn.no rfl rfl rfl rfl (Rn.no rfl rfl rfl rfl (Rn.no rfl rfl rfl rfl (Rn.v rfl rfl rfl rfl (V.pkT rfl rfl) ?_))))
                      refine hk193 _ ?_
                      exact Sub.cons rfl (Sub.cons rfl (Sub.cons rfl (Sub.cons rfl (Sub.cons rfl (Sub.cons rfl (Sub.cons (lkv _ rfl (by first | exact andT h194 | exact andF h194 | exact orT h194 | exact orF h194 | exact nandF h194 | exact nandT h194 | exact norT h194 | exact norF h194 | (simp [h194]; done) | grind)) (Sub.nil _)))))))
                    · refine Rn.v rfl rfl rfl rfl (V.mv rfl) (Rn.v rfl rfl rfl rfl (V.fa Try.underlying47 rfl Try.sizeOf4 rfl rfl) (Rn.v rfl rfl rfl rfl (V.ldB Try.isAgg4 rfl (hm192.get 9 rfl) rfl) (Rn.v rfl rfl rfl rfl (V.neqB Try.underlying4 rfl rfl) (Rn.v rfl rfl rfl rfl (V.pkF rfl rfl) ?_))))
                      refine hk193 _ ?_
                      exact Sub.cons rfl (Sub.cons rfl (Sub.cons rfl (Sub.cons rfl (Sub.cons rfl (Sub.cons rfl (Sub.cons (lkv _ rfl (by first | exact andT h194 | exact andF h194 | exact orT h194 | exact orF h194 | exact nandF h194 | exact nandT h194 | exact norT h194 | exact norF h194 | (simp [h194]; done) | grind)) (Sub.nil _)))))))
                  refine Rn.v rfl rfl rfl rfl (V.mv rfl) ?_
                  refine Rn.cutR [] [(2, .slice A2 (x2).length c2), (7, .pointer (optP b15_0 y29)), (8, .pointer (optP b18_0 y30)), (9, .int .i64 (y28)), (124, .bool (decide (((p176.1 ≠ p183.1.B) ∨ (p176.2.1 ≠ p183.1.Is)) ∨ (p176.2.2.1 ≠ p183.1.E))))] (fun hk195 => ?_) ?_
                  · refine Rn.partD (t := 119) rfl (fun h196 => ?_) (fun h196 => ?_)
                    · refine Rn.no rfl rfl rfl rfl (Rn.no rfl rfl rfl rfl (Rn.no rfl rfl rfl rfl (Rn.no rfl rfl rfl rfl (Rn.v rfl rfl rfl rfl (V.pkT rfl rfl) ?_))))
                      refine hk195 _ ?_
                      exact Sub.cons rfl (Sub.cons rfl (Sub.cons rfl (Sub.cons rfl (Sub.cons (lkv _ rfl (by first | exact andT h196 | exact andF h196 | exact orT h196 | exact orF h196 | exact nandF h196 | exact nandT h196 | exact norT h196 | exact norF h196 | (simp [h196]; done) | grind)) (Sub.nil _)))))
                    · refine Rn.v rfl rfl rfl rfl (V.mv rfl) (Rn.v rfl rfl rfl rfl (V.fa Try.underlying47 rfl Try.sizeOf23 rfl rfl) (Rn.v rfl rfl rfl rfl (V.ldB Try.isAgg23 rfl (hm192.get 9 rfl) rfl) (Rn.v rfl rfl rfl rfl (V.neq rfl rfl) (Rn.v rfl rfl rfl rfl (V.pkF rfl rfl) ?_))))
                      refine hk195 _ ?_
                      exact Sub.cons rfl (Sub.cons rfl (Sub.cons rfl (Sub.cons rfl (Sub.cons (lkv _ rfl (by first | exact andT h196 | exact andF h196 | exact orT h196 | exact orF h196 | exact nandF h196 | exact nandT h196 | exact norT h196 | exact norF h196 | (simp [h196]; done) | grind)) (Sub.nil _)))))
                  refine Rn.regEnd ?_
                  refine Rn.condD rfl (fun h197 => ?_) (fun h197 => ?_)
                  · replace hM := iteT h197 hM
                    refine Rn.seq (Rn.reg (Rn.v rfl rfl rfl rfl (V.as rfl) (Rn.regEnd ?_)))
                    refine Rn.retG1 Try.func4 rfl (rvT rfl) ?_
                    obtain rfl := someE hM
                    exact ⟨rfl, hm192.pick [] rfl (by decide)⟩
                  · replace hM := iteF h197 hM
                    refine Rn.skip (Rn.inBlock ?_)
                    refine Rn.say (t := 7) (.pointer (some ⟨b15_0, 0, none⟩)) rfl (by rw [e177]; rfl) ?_
                    have hm198 := hm192.toSome (R := (fun z => diskO 61 68 5 F176_p0 b15_0 z)) 6 rfl
                    have hm199 : Hp Z0 No w w190 [slR A0 c0 T_api_File.rep x0, slR A2 c2 T_limnographlaw20_Act.rep x2, rdR b33 o33 [.int .i64 (z33.Kind), .int .i64 (z33.N), Str (z33.Name), Str (z33.B), .int .i64 (z33.Code), .slice A34 (z33.Keep).length c34], slR A34 c34 (intR .i64) z33.Keep, boxR b38 44 [.int .i64 (z33.Kind), .int .i64 (z33.N), Str (z33.Name), Str (z33.B), .int .i64 (z33.Code), .slice A34 (z33.Keep).length c34], ownR 5 A176_0_0 c176_0_0 byteR p176.1, optR (some p176.2.2.2) (fun z => diskO 61 68 5 F176_p0 b15_0 z), slR A183_0_0 c183_0_0 byteR p183.1.B, T_limnographref18_Disk.obj F183_p0 b18_0 p183.2, boxR b190 47 [.slice A183_0_0 (p183.1.B).length c183_0_0, .bool (p183.1.Is), .int .i64 (p183.1.E)]] := hm198
                    refine Rn.say (t := 8) (.pointer (some ⟨b18_0, 0, none⟩)) rfl (by rw [e184]; rfl) ?_
                    have hm200 := hm199.toSome (R := (fun z => T_limnographref18_Disk.obj F183_p0 b18_0 z)) 8 rfl
                    have hm201 : Hp Z0 No w w190 [slR A0 c0 T_api_File.rep x0, slR A2 c2 T_limnographlaw20_Act.rep x2, rdR b33 o33 [.int .i64 (z33.Kind), .int .i64 (z33.N), Str (z33.Name), Str (z33.B), .int .i64 (z33.Code), .slice A34 (z33.Keep).length c34], slR A34 c34 (intR .i64) z33.Keep, boxR b38 44 [.int .i64 (z33.Kind), .int .i64 (z33.N), Str (z33.Name), Str (z33.B), .int .i64 (z33.Code), .slice A34 (z33.Keep).length c34], ownR 5 A176_0_0 c176_0_0 byteR p176.1, optR (some p176.2.2.2) (fun z => diskO 61 68 5 F176_p0 b15_0 z), slR A183_0_0 c183_0_0 byteR p183.1.B, optR (some p183.2) (fun z => T_limnographref18_Disk.obj F183_p0 b18_0 z), boxR b190 47 [.slice A183_0_0 (p183.1.B).length c183_0_0, .bool (p183.1.Is), .int .i64 (p183.1.E)]] := hm200
                    exact hk4 ((some p176.2.2.2), (some p183.2), F176_p0, F183_p0) _ _ (Sub.cons rfl (Sub.cons rfl (Sub.cons rfl (Sub.cons rfl (Sub.nil _))))) (hm201.pick [0, 1, 2, 3, 4, 6, 8] rfl (by decide)) hM
                · replace hM := iteF h175 hM
                  refine Rn.seq (Rn.reg (Rn.v rfl rfl rfl rfl (V.eql rfl rfl) (Rn.v rfl rfl rfl rfl (V.as rfl) (Rn.regEnd ?_))))
                  refine Rn.condD rfl (fun h202 => ?_) (fun h202 => ?_)
                  · replace hM := iteT h202 hM
                    refine Rn.seq (Rn.reg (Rn.v rfl rfl rfl rfl (V.mv rfl) (Rn.v rfl rfl rfl rfl (V.fa Try.underlying44 rfl Try.sizeOf3 rfl rfl) (Rn.v rfl rfl rfl rfl (V.ldB Try.isAgg3 rfl (hm40.get 6 rfl) rfl) (Rn.v rfl rfl rfl rfl (V.fa Try.underlying44 rfl Try.sizeOf23 rfl rfl) (Rn.v rfl rfl rfl rfl (V.ldB Try.isAgg23 rfl (hm40.get 6 rfl) rfl) ?_))))))
                    obtain ⟨z204, e204, hM⟩ := bindE hM
                    have hm205 : Hp Z0 No w w38 [slR A0 c0 T_api_File.rep x0, slR A2 c2 T_limnographlaw20_Act.rep x2, diskO 61 68 5 F29 b15_0 z204, optR y30 (fun z => T_limnographref18_Disk.obj F30 b18_0 z), rdR b33 o33 [.int .i64 (z33.Kind), .int .i64 (z33.N), Str (z33.Name), Str (z33.B), .int .i64 (z33.Code), .slice A34 (z33.Keep).length c34], slR A34 c34 (intR .i64) z33.Keep, boxR b38 44 [.int .i64 (z33.Kind), .int .i64 (z33.N), Str (z33.Name), Str (z33.B), .int .i64 (z33.Code), .slice A34 (z33.Keep).length c34]] := hm40.optSome 2 rfl e204
                    refine Rn.say (t := 127) (.pointer (some ⟨b15_0, 0, none⟩)) rfl (by rw [e204]; rfl) ?_
                    obtain ⟨p203, e203, hM⟩ := bindE hM
                    have hm206 : Hp Z0 No w w38 ([slR A0 c0 T_api_File.rep x0, slR A2 c2 T_limnographlaw20_Act.rep x2, optR y30 (fun z => T_limnographref18_Disk.obj F30 b18_0 z), rdR b33 o33 [.int .i64 (z33.Kind), .int .i64 (z33.N), Str (z33.Name), Str (z33.B), .int .i64 (z33.Code), .slice A34 (z33.Keep).length c34], slR A34 c34 (intR .i64) z33.Keep, boxR b38 44 [.int .i64 (z33.Kind), .int .i64 (z33.N), Str (z33.Name), Str (z33.B), .int .i64 (z33.Code), .slice A34 (z33.Keep).length c34]] ++ [diskO 61 68 5 F29 b15_0 z204]) := hm205.pick [0, 1, 3, 4, 5, 6, 2] rfl (by decide)
                    refine Rn.cl ck9 rfl rfl rfl rfl (m_disk_Disk_Fail_sim (Z0 := _) _ F29 b15_0 z204 z33.N z33.Code hm206.lend e203) ?_
                    rintro _ w203 ⟨F203_p0, rfl, hq203⟩
                    refine ⟨_, rfl, ?_⟩
                    have hm208 : Hp Z0 No w w203 [slR A0 c0 T_api_File.rep x0, slR A2 c2 T_limnographlaw20_Act.rep x2, optR y30 (fun z => T_limnographref18_Disk.obj F30 b18_0 z), rdR b33 o33 [.int .i64 (z33.Kind), .int .i64 (z33.N), Str (z33.Name), Str (z33.B), .int .i64 (z33.Code), .slice A34 (z33.Keep).length c34], slR A34 c34 (intR .i64) z33.Keep, boxR b38 44 [.int .i64 (z33.Kind), .int .i64 (z33.N), Str (z33.Name), Str (z33.B), .int .i64 (z33.Code), .slice A34 (z33.Keep).length c34], diskO 61 68 5 F203_p0 b15_0 p203] := hm206.callAZ hq203
                    refine Rn.regEnd (Rn.seq (Rn.reg (Rn.v rfl rfl rfl rfl (V.mv rfl) (Rn.v rfl rfl rfl rfl (V.fa Try.underlying44 rfl Try.sizeOf3 rfl rfl) (Rn.v rfl rfl rfl rfl (V.ldB Try.isAgg3 rfl (hm208.get 5 rfl) rfl) (Rn.v rfl rfl rfl rfl (V.fa Try.underlying44 rfl Try.sizeOf23 rfl rfl) (Rn.v rfl rfl rfl rfl (V.ldB Try.isAgg23 rfl (hm208.get 5 rfl) rfl) ?_)))))))
                    obtain ⟨p209, e209, hM⟩ := bindE hM
                    refine Rn.cl ck19 rfl rfl rfl rfl (m_limnographref18_Arm_sim (Z0 := All) _ z33.N z33.Code  e209) ?_
                    rintro _ w209 ⟨rfl, hq209⟩
                    refine ⟨_, rfl, ?_⟩
                    have hm210 := hm208.call0 hq209
                    obtain ⟨z211, e211, hM⟩ := bindE hM
                    have hm212 : Hp Z0 No w w209 [slR A0 c0 T_api_File.rep x0, slR A2 c2 T_limnographlaw20_Act.rep x2, T_limnographref18_Disk.obj F30 b18_0 z211, rdR b33 o33 [.int .i64 (z33.Kind), .int .i64 (z33.N), Str (z33.Name), Str (z33.B), .int .i64 (z33.Code), .slice A34 (z33.Keep).length c34], slR A34 c34 (intR .i64) z33.Keep, boxR b38 44 [.int .i64 (z33.Kind), .int .i64 (z33.N), Str (z33.Name), Str (z33.B), .int .i64 (z33.Code), .slice A34 (z33.Keep).length c34], diskO 61 68 5 F203_p0 b15_0 p203] := hm210.optSome 2 rfl e211
                    refine Rn.say (t := 133) (.pointer (some ⟨b18_0, 0, none⟩)) rfl (by rw [e211]; rfl) ?_
                    refine Rn.v rfl rfl rfl rfl (V.nil rfl) (Rn.v rfl rfl rfl rfl (V.fa Try.underlying52 rfl Try.sizeOf3 rfl rfl) ?_)
                    obtain ⟨_, ⟨A213_0, c213_0, rfl⟩, hm213⟩ := hm212.unf 2 rfl
                    replace hm213 : Hp Z0 No w w209 [slR A0 c0 T_api_File.rep x0, slR A2 c2 T_limnographlaw20_Act.rep x2, rdR b33 o33 [.int .i64 (z33.Kind), .int .i64 (z33.N), Str (z33.Name), Str (z33.B), .int .i64 (z33.Code), .slice A34 (z33.Keep).length c34], slR A34 c34 (intR .i64) z33.Keep, boxR b38 44 [.int .i64 (z33.Kind), .int .i64 (z33.N), Str (z33.Name), Str (z33.B), .int .i64 (z33.Code), .slice A34 (z33.Keep).length c34], diskO 61 68 5 F203_p0 b15_0 p203, boxR b18_0 52 [.slice A213_0 (z211.L).length c213_0, .int .i64 (z211.Capacity), .bool (z211.Down), .int .i64 (z211.Calls), .int .i64 (z211.Fail), .int .i64 (z211.Crash), .int .i64 (z211.Err)], ownR 87 A213_0 c213_0 T_limnographref18_File.rep z211.L] := hm213
                    refine Rn.st rfl rfl Try.sizeOf3 rfl rfl rfl rfl (by first | exact ones rfl | (simp [Value.oneCell']; done)) (hm213.get 6 rfl) (by first | exact Nat.le_of_ble_eq_true rfl | (simp; done)) ?_
                    intro w215 m215 x215
                    have hm216 : Hp Z0 No w w215 [slR A0 c0 T_api_File.rep x0, slR A2 c2 T_limnographlaw20_Act.rep x2, rdR b33 o33 [.int .i64 (z33.Kind), .int .i64 (z33.N), Str (z33.Name), Str (z33.B), .int .i64 (z33.Code), .slice A34 (z33.Keep).length c34], slR A34 c34 (intR .i64) z33.Keep, boxR b38 44 [.int .i64 (z33.Kind), .int .i64 (z33.N), Str (z33.Name), Str (z33.B), .int .i64 (z33.Code), .slice A34 (z33.Keep).length c34], diskO 61 68 5 F203_p0 b15_0 p203, boxR b18_0 52 [.slice A213_0 (z211.L).length c213_0, .int .i64 (z211.Capacity), .bool (z211.Down), .int .i64 (z211.Calls), .int .i64 (p209), .int .i64 (z211.Crash), .int .i64 (z211.Err)], ownR 87 A213_0 c213_0 T_limnographref18_File.rep z211.L] := hm213.st 6 rfl x215 m215
                    refine Rn.regEnd (Rn.reg (Rn.v rfl rfl rfl rfl (V.mv rfl) (Rn.v rfl rfl rfl rfl (V.fa Try.underlying44 rfl Try.sizeOf23 rfl rfl) (Rn.v rfl rfl rfl rfl (V.ldB Try.isAgg23 rfl (hm216.get 4 rfl) rfl) ?_))))
                    refine Rn.say (t := 141) (.pointer (some ⟨b18_0, 0, none⟩)) rfl (by rw [e211]; rfl) ?_
                    refine Rn.v rfl rfl rfl rfl (V.nil rfl) (Rn.v rfl rfl rfl rfl (V.fa Try.underlying52 rfl Try.sizeOf23 rfl rfl) (Rn.st rfl rfl Try.sizeOf23 rfl rfl rfl rfl (by first | exact ones rfl | (simp [Value.oneCell']; done)) (hm216.get 6 rfl) (by first | exact Nat.le_of_ble_eq_true rfl | (simp; done)) ?_))
                    intro w217 m217 x217
                    have hm218 : Hp Z0 No w w217 [slR A0 c0 T_api_File.rep x0, slR A2 c2 T_limnographlaw20_Act.rep x2, rdR b33 o33 [.int .i64 (z33.Kind), .int .i64 (z33.N), Str (z33.Name), Str (z33.B), .int .i64 (z33.Code), .slice A34 (z33.Keep).length c34], slR A34 c34 (intR .i64) z33.Keep, boxR b38 44 [.int .i64 (z33.Kind), .int .i64 (z33.N), Str (z33.Name), Str (z33.B), .int .i64 (z33.Code), .slice A34 (z33.Keep).length c34], diskO 61 68 5 F203_p0 b15_0 p203, boxR b18_0 52 [.slice A213_0 (z211.L).length c213_0, .int .i64 (z211.Capacity), .bool (z211.Down), .int .i64 (z211.Calls), .int .i64 (p209), .int .i64 (z211.Crash), .int .i64 (z33.Code)], ownR 87 A213_0 c213_0 T_limnographref18_File.rep z211.L] := hm216.st 6 rfl x217 m217
                    refine Rn.regEnd (Rn.inBlock ?_)
                    refine Rn.say (t := 7) (.pointer (some ⟨b15_0, 0, none⟩)) rfl (by rw [e204]; rfl) ?_
                    have hm219 := hm218.toSome (R := (fun z => diskO 61 68 5 F203_p0 b15_0 z)) 5 rfl
                    have hm220 : Hp Z0 No w w217 [slR A0 c0 T_api_File.rep x0, slR A2 c2 T_limnographlaw20_Act.rep x2, rdR b33 o33 [.int .i64 (z33.Kind), .int .i64 (z33.N), Str (z33.Name), Str (z33.B), .int .i64 (z33.Code), .slice A34 (z33.Keep).length c34], slR A34 c34 (intR .i64) z33.Keep, boxR b38 44 [.int .i64 (z33.Kind), .int .i64 (z33.N), Str (z33.Name), Str (z33.B), .int .i64 (z33.Code), .slice A34 (z33.Keep).length c34], optR (some p203) (fun z => diskO 61 68 5 F203_p0 b15_0 z), boxR b18_0 52 [.slice A213_0 (z211.L).length c213_0, .int .i64 (z211.Capacity), .bool (z211.Down), .int .i64 (z211.Calls), .int .i64 (p209), .int .i64 (z211.Crash), .int .i64 (z33.Code)], ownR 87 A213_0 c213_0 T_limnographref18_File.rep z211.L] := hm219
                    refine Rn.say (t := 8) (.pointer (some ⟨b18_0, 0, none⟩)) rfl (by rw [e211]; rfl) ?_
                    have hm222 : Hp Z0 No w w217 ([slR A0 c0 T_api_File.rep x0, slR A2 c2 T_limnographlaw20_Act.rep x2, rdR b33 o33 [.int .i64 (z33.Kind), .int .i64 (z33.N), Str (z33.Name), Str (z33.B), .int .i64 (z33.Code), .slice A34 (z33.Keep).length c34], slR A34 c34 (intR .i64) z33.Keep, boxR b38 44 [.int .i64 (z33.Kind), .int .i64 (z33.N), Str (z33.Name), Str (z33.B), .int .i64 (z33.Code), .slice A34 (z33.Keep).length c34], optR (some p203) (fun z => diskO 61 68 5 F203_p0 b15_0 z)] ++ [boxR b18_0 52 [.slice A213_0 (z211.L).length c213_0, .int .i64 (z211.Capacity), .bool (z211.Down), .int .i64 (z211.Calls), .int .i64 (p209), .int .i64 (z211.Crash), .int .i64 (z33.Code)], ownR 87 A213_0 c213_0 T_limnographref18_File.rep z211.L]) := hm220.pick [0, 1, 2, 3, 4, 5, 6, 7] rfl (by decide)
                    obtain ⟨F221, hm221⟩ := hm222.fold (T_limnographref18_Disk.sh b18_0 ({ L := z211.L, Capacity := z211.Capacity, Down := z211.Down, Calls := z211.Calls, Fail := p209, Crash := z211.Crash, Err := z33.Code } : T_limnographref18_Disk)) ⟨A213_0, c213_0, rfl⟩
                    replace hm221 : Hp Z0 No w w217 [slR A0 c0 T_api_File.rep x0, slR A2 c2 T_limnographlaw20_Act.rep x2, rdR b33 o33 [.int .i64 (z33.Kind), .int .i64 (z33.N), Str (z33.Name), Str (z33.B), .int .i64 (z33.Code), .slice A34 (z33.Keep).length c34], slR A34 c34 (intR .i64) z33.Keep, boxR b38 44 [.int .i64 (z33.Kind), .int .i64 (z33.N), Str (z33.Name), Str (z33.B), .int .i64 (z33.Code), .slice A34 (z33.Keep).length c34], optR (some p203) (fun z => diskO 61 68 5 F203_p0 b15_0 z), T_limnographref18_Disk.obj F221 b18_0 ({ L := z211.L, Capacity := z211.Capacity, Down := z211.Down, Calls := z211.Calls, Fail := p209, Crash := z211.Crash, Err := z33.Code } : T_limnographref18_Disk)] := hm221
                    have hm223 := hm221.toSome (R := (fun z => T_limnographref18_Disk.obj F221 b18_0 z)) 6 rfl
                    have hm224 : Hp Z0 No w w217 [slR A0 c0 T_api_File.rep x0, slR A2 c2 T_limnographlaw20_Act.rep x2, rdR b33 o33 [.int .i64 (z33.Kind), .int .i64 (z33.N), Str (z33.Name), Str (z33.B), .int .i64 (z33.Code), .slice A34 (z33.Keep).length c34], slR A34 c34 (intR .i64) z33.Keep, boxR b38 44 [.int .i64 (z33.Kind), .int .i64 (z33.N), Str (z33.Name), Str (z33.B), .int .i64 (z33.Code), .slice A34 (z33.Keep).length c34], optR (some p203) (fun z => diskO 61 68 5 F203_p0 b15_0 z), optR (some ({ L := z211.L, Capacity := z211.Capacity, Down := z211.Down, Calls := z211.Calls, Fail := p209, Crash := z211.Crash, Err := z33.Code } : T_limnographref18_Disk)) (fun z => T_limnographref18_Disk.obj F221 b18_0 z)] := hm223
                    exact hk4 ((some p203), (some ({ L := z211.L, Capacity := z211.Capacity, Down := z211.Down, Calls := z211.Calls, Fail := p209, Crash := z211.Crash, Err := z33.Code } : T_limnographref18_Disk)), F203_p0, F221) _ _ (Sub.cons rfl (Sub.cons rfl (Sub.cons rfl (Sub.cons rfl (Sub.nil _))))) (hm224.pick [0, 1, 2, 3, 4, 5, 6] rfl (by decide)) hM
                  · replace hM := iteF h202 hM
                    refine Rn.seq (Rn.reg (Rn.v rfl rfl rfl rfl (V.eql rfl rfl) (Rn.v rfl rfl rfl rfl (V.as rfl) (Rn.regEnd ?_))))
                    refine Rn.condD rfl (fun h225 => ?_) (fun h225 => ?_)
                    · replace hM := iteT h225 hM
                      refine Rn.seq (Rn.reg (Rn.v rfl rfl rfl rfl (V.mv rfl) (Rn.v rfl rfl rfl rfl (V.fa Try.underlying44 rfl Try.sizeOf3 rfl rfl) (Rn.v rfl rfl rfl rfl (V.ldB Try.isAgg3 rfl (hm40.get 6 rfl) rfl) ?_))))
                      obtain ⟨z227, e227, hM⟩ := bindE hM
                      have hm228 : Hp Z0 No w w38 [slR A0 c0 T_api_File.rep x0, slR A2 c2 T_limnographlaw20_Act.rep x2, diskO 61 68 5 F29 b15_0 z227, optR y30 (fun z => T_limnographref18_Disk.obj F30 b18_0 z), rdR b33 o33 [.int .i64 (z33.Kind), .int .i64 (z33.N), Str (z33.Name), Str (z33.B), .int .i64 (z33.Code), .slice A34 (z33.Keep).length c34], slR A34 c34 (intR .i64) z33.Keep, boxR b38 44 [.int .i64 (z33.Kind), .int .i64 (z33.N), Str (z33.Name), Str (z33.B), .int .i64 (z33.Code), .slice A34 (z33.Keep).length c34]] := hm40.optSome 2 rfl e227
                      refine Rn.say (t := 148) (.pointer (some ⟨b15_0, 0, none⟩)) rfl (by rw [e227]; rfl) ?_
                      obtain ⟨p226, e226, hM⟩ := bindE hM
                      have hm229 : Hp Z0 No w w38 ([slR A0 c0 T_api_File.rep x0, slR A2 c2 T_limnographlaw20_Act.rep x2, optR y30 (fun z => T_limnographref18_Disk.obj F30 b18_0 z), rdR b33 o33 [.int .i64 (z33.Kind), .int .i64 (z33.N), Str (z33.Name), Str (z33.B), .int .i64 (z33.Code), .slice A34 (z33.Keep).length c34], slR A34 c34 (intR .i64) z33.Keep, boxR b38 44 [.int .i64 (z33.Kind), .int .i64 (z33.N), Str (z33.Name), Str (z33.B), .int .i64 (z33.Code), .slice A34 (z33.Keep).length c34]] ++ [diskO 61 68 5 F29 b15_0 z227]) := hm228.pick [0, 1, 3, 4, 5, 6, 2] rfl (by decide)
                      refine Rn.cl ck8 rfl rfl rfl rfl (m_disk_Disk_Crash_sim (Z0 := _) _ F29 b15_0 z227 z33.N hm229.lend e226) ?_
                      rintro _ w226 ⟨F226_p0, rfl, hq226⟩
                      refine ⟨_, rfl, ?_⟩
                      have hm231 : Hp Z0 No w w226 [slR A0 c0 T_api_File.rep x0, slR A2 c2 T_limnographlaw20_Act.rep x2, optR y30 (fun z => T_limnographref18_Disk.obj F30 b18_0 z), rdR b33 o33 [.int .i64 (z33.Kind), .int .i64 (z33.N), Str (z33.Name), Str (z33.B), .int .i64 (z33.Code), .slice A34 (z33.Keep).length c34], slR A34 c34 (intR .i64) z33.Keep, boxR b38 44 [.int .i64 (z33.Kind), .int .i64 (z33.N), Str (z33.Name), Str (z33.B), .int .i64 (z33.Code), .slice A34 (z33.Keep).length c34], diskO 61 68 5 F226_p0 b15_0 p226] := hm229.callAZ hq226
                      refine Rn.regEnd (Rn.reg (Rn.v rfl rfl rfl rfl (V.mv rfl) (Rn.v rfl rfl rfl rfl (V.fa Try.underlying44 rfl Try.sizeOf3 rfl rfl) (Rn.v rfl rfl rfl rfl (V.ldB Try.isAgg3 rfl (hm231.get 5 rfl) rfl) ?_))))
                      obtain ⟨p232, e232, hM⟩ := bindE hM
                      refine Rn.cl ck19 rfl rfl rfl rfl (m_limnographref18_Arm_sim (Z0 := All) _ z33.N 13  e232) ?_
                      rintro _ w232 ⟨rfl, hq232⟩
                      refine ⟨_, rfl, ?_⟩
                      have hm233 := hm231.call0 hq232
                      obtain ⟨z234, e234, hM⟩ := bindE hM
                      have hm235 : Hp Z0 No w w232 [slR A0 c0 T_api_File.rep x0, slR A2 c2 T_limnographlaw20_Act.rep x2, T_limnographref18_Disk.obj F30 b18_0 z234, rdR b33 o33 [.int .i64 (z33.Kind), .int .i64 (z33.N), Str (z33.Name), Str (z33.B), .int .i64 (z33.Code), .slice A34 (z33.Keep).length c34], slR A34 c34 (intR .i64) z33.Keep, boxR b38 44 [.int .i64 (z33.Kind), .int .i64 (z33.N), Str (z33.Name), Str (z33.B), .int .i64 (z33.Code), .slice A34 (z33.Keep).length c34], diskO 61 68 5 F226_p0 b15_0 p226] := hm233.optSome 2 rfl e234
                      refine Rn.say (t := 152) (.pointer (some ⟨b18_0, 0, none⟩)) rfl (by rw [e234]; rfl) ?_
                      refine Rn.v rfl rfl rfl rfl (V.nil rfl) (Rn.v rfl rfl rfl rfl (V.fa Try.underlying52 rfl Try.sizeOf3 rfl rfl) ?_)
                      obtain ⟨_, ⟨A236_0, c236_0, rfl⟩, hm236⟩ := hm235.unf 2 rfl
                      replace hm236 : Hp Z0 No w w232 [slR A0 c0 T_api_File.rep x0, slR A2 c2 T_limnographlaw20_Act.rep x2, rdR b33 o33 [.int .i64 (z33.Kind), .int .i64 (z33.N), Str (z33.Name), Str (z33.B), .int .i64 (z33.Code), .slice A34 (z33.Keep).length c34], slR A34 c34 (intR .i64) z33.Keep, boxR b38 44 [.int .i64 (z33.Kind), .int .i64 (z33.N), Str (z33.Name), Str (z33.B), .int .i64 (z33.Code), .slice A34 (z33.Keep).length c34], diskO 61 68 5 F226_p0 b15_0 p226, boxR b18_0 52 [.slice A236_0 (z234.L).length c236_0, .int .i64 (z234.Capacity), .bool (z234.Down), .int .i64 (z234.Calls), .int .i64 (z234.Fail), .int .i64 (z234.Crash), .int .i64 (z234.Err)], ownR 87 A236_0 c236_0 T_limnographref18_File.rep z234.L] := hm236
                      refine Rn.st rfl rfl Try.sizeOf3 rfl rfl rfl rfl (by first | exact ones rfl | (simp [Value.oneCell']; done)) (hm236.get 6 rfl) (by first | exact Nat.le_of_ble_eq_true rfl | (simp; done)) ?_
                      intro w238 m238 x238
                      have hm239 : Hp Z0 No w w238 [slR A0 c0 T_api_File.rep x0, slR A2 c2 T_limnographlaw20_Act.rep x2, rdR b33 o33 [.int .i64 (z33.Kind), .int .i64 (z33.N), Str (z33.Name), Str (z33.B), .int .i64 (z33.Code), .slice A34 (z33.Keep).length c34], slR A34 c34 (intR .i64) z33.Keep, boxR b38 44 [.int .i64 (z33.Kind), .int .i64 (z33.N), Str (z33.Name), Str (z33.B), .int .i64 (z33.Code), .slice A34 (z33.Keep).length c34], diskO 61 68 5 F226_p0 b15_0 p226, boxR b18_0 52 [.slice A236_0 (z234.L).length c236_0, .int .i64 (z234.Capacity), .bool (z234.Down), .int .i64 (z234.Calls), .int .i64 (z234.Fail), .int .i64 (p232), .int .i64 (z234.Err)], ownR 87 A236_0 c236_0 T_limnographref18_File.rep z234.L] := hm236.st 6 rfl x238 m238
                      refine Rn.regEnd (Rn.inBlock ?_)
                      refine Rn.say (t := 7) (.pointer (some ⟨b15_0, 0, none⟩)) rfl (by rw [e227]; rfl) ?_
                      have hm240 := hm239.toSome (R := (fun z => diskO 61 68 5 F226_p0 b15_0 z)) 5 rfl
                      have hm241 : Hp Z0 No w w238 [slR A0 c0 T_api_File.rep x0, slR A2 c2 T_limnographlaw20_Act.rep x2, rdR b33 o33 [.int .i64 (z33.Kind), .int .i64 (z33.N), Str (z33.Name), Str (z33.B), .int .i64 (z33.Code), .slice A34 (z33.Keep).length c34], slR A34 c34 (intR .i64) z33.Keep, boxR b38 44 [.int .i64 (z33.Kind), .int .i64 (z33.N), Str (z33.Name), Str (z33.B), .int .i64 (z33.Code), .slice A34 (z33.Keep).length c34], optR (some p226) (fun z => diskO 61 68 5 F226_p0 b15_0 z), boxR b18_0 52 [.slice A236_0 (z234.L).length c236_0, .int .i64 (z234.Capacity), .bool (z234.Down), .int .i64 (z234.Calls), .int .i64 (z234.Fail), .int .i64 (p232), .int .i64 (z234.Err)], ownR 87 A236_0 c236_0 T_limnographref18_File.rep z234.L] := hm240
                      refine Rn.say (t := 8) (.pointer (some ⟨b18_0, 0, none⟩)) rfl (by rw [e234]; rfl) ?_
                      have hm243 : Hp Z0 No w w238 ([slR A0 c0 T_api_File.rep x0, slR A2 c2 T_limnographlaw20_Act.rep x2, rdR b33 o33 [.int .i64 (z33.Kind), .int .i64 (z33.N), Str (z33.Name), Str (z33.B), .int .i64 (z33.Code), .slice A34 (z33.Keep).length c34], slR A34 c34 (intR .i64) z33.Keep, boxR b38 44 [.int .i64 (z33.Kind), .int .i64 (z33.N), Str (z33.Name), Str (z33.B), .int .i64 (z33.Code), .slice A34 (z33.Keep).length c34], optR (some p226) (fun z => diskO 61 68 5 F226_p0 b15_0 z)] ++ [boxR b18_0 52 [.slice A236_0 (z234.L).length c236_0, .int .i64 (z234.Capacity), .bool (z234.Down), .int .i64 (z234.Calls), .int .i64 (z234.Fail), .int .i64 (p232), .int .i64 (z234.Err)], ownR 87 A236_0 c236_0 T_limnographref18_File.rep z234.L]) := hm241.pick [0, 1, 2, 3, 4, 5, 6, 7] rfl (by decide)
                      obtain ⟨F242, hm242⟩ := hm243.fold (T_limnographref18_Disk.sh b18_0 ({ L := z234.L, Capacity := z234.Capacity, Down := z234.Down, Calls := z234.Calls, Fail := z234.Fail, Crash := p232, Err := z234.Err } : T_limnographref18_Disk)) ⟨A236_0, c236_0, rfl⟩
                      replace hm242 : Hp Z0 No w w238 [slR A0 c0 T_api_File.rep x0, slR A2 c2 T_limnographlaw20_Act.rep x2, rdR b33 o33 [.int .i64 (z33.Kind), .int .i64 (z33.N), Str (z33.Name), Str (z33.B), .int .i64 (z33.Code), .slice A34 (z33.Keep).length c34], slR A34 c34 (intR .i64) z33.Keep, boxR b38 44 [.int .i64 (z33.Kind), .int .i64 (z33.N), Str (z33.Name), Str (z33.B), .int .i64 (z33.Code), .slice A34 (z33.Keep).length c34], optR (some p226) (fun z => diskO 61 68 5 F226_p0 b15_0 z), T_limnographref18_Disk.obj F242 b18_0 ({ L := z234.L, Capacity := z234.Capacity, Down := z234.Down, Calls := z234.Calls, Fail := z234.Fail, Crash := p232, Err := z234.Err } : T_limnographref18_Disk)] := hm242
                      have hm244 := hm242.toSome (R := (fun z => T_limnographref18_Disk.obj F242 b18_0 z)) 6 rfl
                      have hm245 : Hp Z0 No w w238 [slR A0 c0 T_api_File.rep x0, slR A2 c2 T_limnographlaw20_Act.rep x2, rdR b33 o33 [.int .i64 (z33.Kind), .int .i64 (z33.N), Str (z33.Name), Str (z33.B), .int .i64 (z33.Code), .slice A34 (z33.Keep).length c34], slR A34 c34 (intR .i64) z33.Keep, boxR b38 44 [.int .i64 (z33.Kind), .int .i64 (z33.N), Str (z33.Name), Str (z33.B), .int .i64 (z33.Code), .slice A34 (z33.Keep).length c34], optR (some p226) (fun z => diskO 61 68 5 F226_p0 b15_0 z), optR (some ({ L := z234.L, Capacity := z234.Capacity, Down := z234.Down, Calls := z234.Calls, Fail := z234.Fail, Crash := p232, Err := z234.Err } : T_limnographref18_Disk)) (fun z => T_limnographref18_Disk.obj F242 b18_0 z)] := hm244
                      exact hk4 ((some p226), (some ({ L := z234.L, Capacity := z234.Capacity, Down := z234.Down, Calls := z234.Calls, Fail := z234.Fail, Crash := p232, Err := z234.Err } : T_limnographref18_Disk)), F226_p0, F242) _ _ (Sub.cons rfl (Sub.cons rfl (Sub.cons rfl (Sub.cons rfl (Sub.nil _))))) (hm245.pick [0, 1, 2, 3, 4, 5, 6] rfl (by decide)) hM
                    · replace hM := iteF h225 hM
                      refine Rn.seq (Rn.reg (Rn.v rfl rfl rfl rfl (V.eql rfl rfl) (Rn.v rfl rfl rfl rfl (V.as rfl) (Rn.regEnd ?_))))
                      refine Rn.condD rfl (fun h246 => ?_) (fun h246 => ?_)
                      · replace hM := iteT h246 hM
                        refine Rn.seq ?_
                        have hm248 := hm40.dup 0 rfl (fun _ h => h)
                        have hm250 := hm248.dup 1 rfl (fun _ h => h)
                        have hm252 := hm250.dup 4 rfl (fun _ h => h)
                        have hm254 := hm252.dup 5 rfl (fun _ h => h)
                        have hm256 : Hp Z0 No w w38 ([boxR b38 44 [.int .i64 (z33.Kind), .int .i64 (z33.N), Str (z33.Name), Str (z33.B), .int .i64 (z33.Code), .slice A34 (z33.Keep).length c34], slR A0 c0 T_api_File.rep x0, slR A2 c2 T_limnographlaw20_Act.rep x2, rdR b33 o33 [.int .i64 (z33.Kind), .int .i64 (z33.N), Str (z33.Name), Str (z33.B), .int .i64 (z33.Code), .slice A34 (z33.Keep).length c34], slR A34 c34 (intR .i64) z33.Keep] ++ [optR y29 (fun z => diskO 61 68 5 F29 b15_0 z), optR y30 (fun z => T_limnographref18_Disk.obj F30 b18_0 z), slR A0 c0 T_api_File.rep x0, slR A2 c2 T_limnographlaw20_Act.rep x2, rdR b33 o33 [.int .i64 (z33.Kind), .int .i64 (z33.N), Str (z33.Name), Str (z33.B), .int .i64 (z33.Code), .slice A34 (z33.Keep).length c34], slR A34 c34 (intR .i64) z33.Keep]) := hm254.pick [6, 7, 8, 9, 10, 2, 3, 0, 1, 4, 5] rfl (by decide)
                        refine Rn.drawF rfl hm256 ?_
                        intro w257 hmo257 hm257
                        refine RH.take 0 (by kernel_rfl) rfl rfl rfl rfl (fun w' hDr => V.mv rfl) ?_
                        refine RH.take 1 (by kernel_rfl) rfl rfl rfl rfl (fun w' hDr => V.fa Try.underlying44 rfl Try.sizeOf24 rfl rfl) ?_
                        refine RH.take 2 (by kernel_rfl) rfl rfl rfl rfl (fun w' hDr => V.ldB Try.isAgg24 rfl ((hmo257.awayK hDr).get 0 rfl) rfl) ?_
                        refine RH.take 4 (by kernel_rfl) rfl rfl rfl rfl (fun w' hDr => V.mv rfl) ?_
                        refine RH.take 5 (by kernel_rfl) rfl rfl rfl rfl (fun w' hDr => V.fa Try.underlying44 rfl Try.sizeOf24 rfl rfl) ?_
                        refine RH.take 6 (by kernel_rfl) rfl rfl rfl rfl (fun w' hDr => V.ldB Try.isAgg24 rfl ((hmo257.awayK hDr).get 0 rfl) rfl) ?_
                        obtain ⟨z259, e259, hM⟩ := bindE hM
                        have hm260 : Hp (Zo Z0 No w ([boxR b38 44 [.int .i64 (z33.Kind), .int .i64 (z33.N), Str (z33.Name), Str (z33.B), .int .i64 (z33.Code), .slice A34 (z33.Keep).length c34], slR A0 c0 T_api_File.rep x0, slR A2 c2 T_limnographlaw20_Act.rep x2, rdR b33 o33 [.int .i64 (z33.Kind), .int .i64 (z33.N), Str (z33.Name), Str (z33.B), .int .i64 (z33.Code), .slice A34 (z33.Keep).length c34], slR A34 c34 (intR .i64) z33.Keep] ++ [optR y29 (fun z => diskO 61 68 5 F29 b15_0 z), optR y30 (fun z => T_limnographref18_Disk.obj F30 b18_0 z), slR A0 c0 T_api_File.rep x0, slR A2 c2 T_limnographlaw20_Act.rep x2, rdR b33 o33 [.int .i64 (z33.Kind), .int .i64 (z33.N), Str (z33.Name), Str (z33.B), .int .i64 (z33.Code), .slice A34 (z33.Keep).length c34], slR A34 c34 (intR .i64) z33.Keep])) (LS [optR y29 (fun z => diskO 61 68 5 F29 b15_0 z), optR y30 (fun z => T_limnographref18_Disk.obj F30 b18_0 z), slR A0 c0 T_api_File.rep x0, slR A2 c2 T_limnographlaw20_Act.rep x2, rdR b33 o33 [.int .i64 (z33.Kind), .int .i64 (z33.N), Str (z33.Name), Str (z33.B), .int .i64 (z33.Code), .slice A34 (z33.Keep).length c34], slR A34 c34 (intR .i64) z33.Keep]) w257 w257 [diskO 61 68 5 F29 b15_0 z259, optR y30 (fun z => T_limnographref18_Disk.obj F30 b18_0 z), slR A0 c0 T_api_File.rep x0, slR A2 c2 T_limnographlaw20_Act.rep x2, rdR b33 o33 [.int .i64 (z33.Kind), .int .i64 (z33.N), Str (z33.Name), Str (z33.B), .int .i64 (z33.Code), .slice A34 (z33.Keep).length c34], slR A34 c34 (intR .i64) z33.Keep] := hm257.optSome 0 rfl e259
                        refine RH.say (t := 160) (.pointer (some ⟨b15_0, 0, none⟩)) rfl (by rw [e259]; rfl) ?_
                        obtain ⟨p258, e258, hM⟩ := bindE hM
                        have hm261 := hm260.dup 5 rfl (fun _ h => h)
                        have hm263 : Hp (Zo Z0 No w ([boxR b38 44 [.int .i64 (z33.Kind), .int .i64 (z33.N), Str (z33.Name), Str (z33.B), .int .i64 (z33.Code), .slice A34 (z33.Keep).length c34], slR A0 c0 T_api_File.rep x0, slR A2 c2 T_limnographlaw20_Act.rep x2, rdR b33 o33 [.int .i64 (z33.Kind), .int .i64 (z33.N), Str (z33.Name), Str (z33.B), .int .i64 (z33.Code), .slice A34 (z33.Keep).length c34], slR A34 c34 (intR .i64) z33.Keep] ++ [optR y29 (fun z => diskO 61 68 5 F29 b15_0 z), optR y30 (fun z => T_limnographref18_Disk.obj F30 b18_0 z), slR A0 c0 T_api_File.rep x0, slR A2 c2 T_limnographlaw20_Act.rep x2, rdR b33 o33 [.int .i64 (z33.Kind), .int .i64 (z33.N), Str (z33.Name), Str (z33.B), .int .i64 (z33.Code), .slice A34 (z33.Keep).length c34], slR A34 c34 (intR .i64) z33.Keep])) (LS [optR y29 (fun z => diskO 61 68 5 F29 b15_0 z), optR y30 (fun z => T_limnographref18_Disk.obj F30 b18_0 z), slR A0 c0 T_api_File.rep x0, slR A2 c2 T_limnographlaw20_Act.rep x2, rdR b33 o33 [.int .i64 (z33.Kind), .int .i64 (z33.N), Str (z33.Name), Str (z33.B), .int .i64 (z33.Code), .slice A34 (z33.Keep).length c34], slR A34 c34 (intR .i64) z33.Keep]) w257 w257 ([optR y30 (fun z => T_limnographref18_Disk.obj F30 b18_0 z), slR A0 c0 T_api_File.rep x0, slR A2 c2 T_limnographlaw20_Act.rep x2, rdR b33 o33 [.int .i64 (z33.Kind), .int .i64 (z33.N), Str (z33.Name), Str (z33.B), .int .i64 (z33.Code), .slice A34 (z33.Keep).length c34], slR A34 c34 (intR .i64) z33.Keep] ++ [diskO 61 68 5 F29 b15_0 z259, slR A34 c34 (intR .i64) z33.Keep]) := hm261.pick [1, 2, 3, 4, 5, 0, 6] rfl (by decide)
                        refine RH.cl ck12 3 (by kernel_rfl) rfl rfl rfl rfl (m_disk_Disk_Boot_sim (Z0 := _) _ F29 b15_0 z259 A34 c34 z33.Keep hm263.lend e258) ?_
                        rintro _ w258 ⟨F258_p0, rfl, hq258⟩
                        have hm265 : Hp (Zo Z0 No w ([boxR b38 44 [.int .i64 (z33.Kind), .int .i64 (z33.N), Str (z33.Name), Str (z33.B), .int .i64 (z33.Code), .slice A34 (z33.Keep).length c34], slR A0 c0 T_api_File.rep x0, slR A2 c2 T_limnographlaw20_Act.rep x2, rdR b33 o33 [.int .i64 (z33.Kind), .int .i64 (z33.N), Str (z33.Name), Str (z33.B), .int .i64 (z33.Code), .slice A34 (z33.Keep).length c34], slR A34 c34 (intR .i64) z33.Keep] ++ [optR y29 (fun z => diskO 61 68 5 F29 b15_0 z), optR y30 (fun z => T_limnographref18_Disk.obj F30 b18_0 z), slR A0 c0 T_api_File.rep x0, slR A2 c2 T_limnographlaw20_Act.rep x2, rdR b33 o33 [.int .i64 (z33.Kind), .int .i64 (z33.N), Str (z33.Name), Str (z33.B), .int .i64 (z33.Code), .slice A34 (z33.Keep).length c34], slR A34 c34 (intR .i64) z33.Keep])) (LS [optR y29 (fun z => diskO 61 68 5 F29 b15_0 z), optR y30 (fun z => T_limnographref18_Disk.obj F30 b18_0 z), slR A0 c0 T_api_File.rep x0, slR A2 c2 T_limnographlaw20_Act.rep x2, rdR b33 o33 [.int .i64 (z33.Kind), .int .i64 (z33.N), Str (z33.Name), Str (z33.B), .int .i64 (z33.Code), .slice A34 (z33.Keep).length c34], slR A34 c34 (intR .i64) z33.Keep]) w257 w258 [optR y30 (fun z => T_limnographref18_Disk.obj F30 b18_0 z), slR A0 c0 T_api_File.rep x0, slR A2 c2 T_limnographlaw20_Act.rep x2, rdR b33 o33 [.int .i64 (z33.Kind), .int .i64 (z33.N), Str (z33.Name), Str (z33.B), .int .i64 (z33.Code), .slice A34 (z33.Keep).length c34], slR A34 c34 (intR .i64) z33.Keep, diskO 61 68 5 F258_p0 b15_0 p258.2] := hm263.callAZ hq258
                        refine ⟨_, rfl, hm265.fr, ?_⟩
                        obtain ⟨z267, e267, hM⟩ := bindE hM
                        have hm268 : Hp (Zo Z0 No w ([boxR b38 44 [.int .i64 (z33.Kind), .int .i64 (z33.N), Str (z33.Name), Str (z33.B), .int .i64 (z33.Code), .slice A34 (z33.Keep).length c34], slR A0 c0 T_api_File.rep x0, slR A2 c2 T_limnographlaw20_Act.rep x2, rdR b33 o33 [.int .i64 (z33.Kind), .int .i64 (z33.N), Str (z33.Name), Str (z33.B), .int .i64 (z33.Code), .slice A34 (z33.Keep).length c34], slR A34 c34 (intR .i64) z33.Keep] ++ [optR y29 (fun z => diskO 61 68 5 F29 b15_0 z), optR y30 (fun z => T_limnographref18_Disk.obj F30 b18_0 z), slR A0 c0 T_api_File.rep x0, slR A2 c2 T_limnographlaw20_Act.rep x2, rdR b33 o33 [.int .i64 (z33.Kind), .int .i64 (z33.N), Str (z33.Name), Str (z33.B), .int .i64 (z33.Code), .slice A34 (z33.Keep).length c34], slR A34 c34 (intR .i64) z33.Keep])) (LS [optR y29 (fun z => diskO 61 68 5 F29 b15_0 z), optR y30 (fun z => T_limnographref18_Disk.obj F30 b18_0 z), slR A0 c0 T_api_File.rep x0, slR A2 c2 T_limnographlaw20_Act.rep x2, rdR b33 o33 [.int .i64 (z33.Kind), .int .i64 (z33.N), Str (z33.Name), Str (z33.B), .int .i64 (z33.Code), .slice A34 (z33.Keep).length c34], slR A34 c34 (intR .i64) z33.Keep]) w257 w258 [T_limnographref18_Disk.obj F30 b18_0 z267, slR A0 c0 T_api_File.rep x0, slR A2 c2 T_limnographlaw20_Act.rep x2, rdR b33 o33 [.int .i64 (z33.Kind), .int .i64 (z33.N), Str (z33.Name), Str (z33.B), .int .i64 (z33.Code), .slice A34 (z33.Keep).length c34], slR A34 c34 (intR .i64) z33.Keep, diskO 61 68 5 F258_p0 b15_0 p258.2] := hm265.optSome 0 rfl e267
                        refine RH.say (t := 164) (.pointer (some ⟨b18_0, 0, none⟩)) rfl (by rw [e267]; rfl) ?_
                        obtain ⟨p266, e266, hM⟩ := bindE hM
                        have hm269 := hm268.dup 4 rfl (fun _ h => h)
                        have hm271 : Hp (Zo Z0 No w ([boxR b38 44 [.int .i64 (z33.Kind), .int .i64 (z33.N), Str (z33.Name), Str (z33.B), .int .i64 (z33.Code), .slice A34 (z33.Keep).length c34], slR A0 c0 T_api_File.rep x0, slR A2 c2 T_limnographlaw20_Act.rep x2, rdR b33 o33 [.int .i64 (z33.Kind), .int .i64 (z33.N), Str (z33.Name), Str (z33.B), .int .i64 (z33.Code), .slice A34 (z33.Keep).length c34], slR A34 c34 (intR .i64) z33.Keep] ++ [optR y29 (fun z => diskO 61 68 5 F29 b15_0 z), optR y30 (fun z => T_limnographref18_Disk.obj F30 b18_0 z), slR A0 c0 T_api_File.rep x0, slR A2 c2 T_limnographlaw20_Act.rep x2, rdR b33 o33 [.int .i64 (z33.Kind), .int .i64 (z33.N), Str (z33.Name), Str (z33.B), .int .i64 (z33.Code), .slice A34 (z33.Keep).length c34], slR A34 c34 (intR .i64) z33.Keep])) (LS [optR y29 (fun z => diskO 61 68 5 F29 b15_0 z), optR y30 (fun z => T_limnographref18_Disk.obj F30 b18_0 z), slR A0 c0 T_api_File.rep x0, slR A2 c2 T_limnographlaw20_Act.rep x2, rdR b33 o33 [.int .i64 (z33.Kind), .int .i64 (z33.N), Str (z33.Name), Str (z33.B), .int .i64 (z33.Code), .slice A34 (z33.Keep).length c34], slR A34 c34 (intR .i64) z33.Keep]) w257 w258 ([slR A0 c0 T_api_File.rep x0, slR A2 c2 T_limnographlaw20_Act.rep x2, rdR b33 o33 [.int .i64 (z33.Kind), .int .i64 (z33.N), Str (z33.Name), Str (z33.B), .int .i64 (z33.Code), .slice A34 (z33.Keep).length c34], slR A34 c34 (intR .i64) z33.Keep, diskO 61 68 5 F258_p0 b15_0 p258.2] ++ [T_limnographref18_Disk.obj F30 b18_0 z267, slR A34 c34 (intR .i64) z33.Keep]) := hm269.pick [1, 2, 3, 4, 5, 0, 6] rfl (by decide)
                        refine RH.cl ck20 7 (by kernel_rfl) rfl rfl rfl rfl (m_limnographref18_Disk_Boot_sim (Z0 := _) _ F30 b18_0 z267 A34 c34 z33.Keep hm271.lend e266) ?_
                        rintro _ w266 ⟨F266_p0, rfl, hq266⟩
                        have hm273 : Hp (Zo Z0 No w ([boxR b38 44 [.int .i64 (z33.Kind), .int .i64 (z33.N), Str (z33.Name), Str (z33.B), .int .i64 (z33.Code), .slice A34 (z33.Keep).length c34], slR A0 c0 T_api_File.rep x0, slR A2 c2 T_limnographlaw20_Act.rep x2, rdR b33 o33 [.int .i64 (z33.Kind), .int .i64 (z33.N), Str (z33.Name), Str (z33.B), .int .i64 (z33.Code), .slice A34 (z33.Keep).length c34], slR A34 c34 (intR .i64) z33.Keep] ++ [optR y29 (fun z => diskO 61 68 5 F29 b15_0 z), optR y30 (fun z => T_limnographref18_Disk.obj F30 b18_0 z), slR A0 c0 T_api_File.rep x0, slR A2 c2 T_limnographlaw20_Act.rep x2, rdR b33 o33 [.int .i64 (z33.Kind), .int .i64 (z33.N), Str (z33.Name), Str (z33.B), .int .i64 (z33.Code), .slice A34 (z33.Keep).length c34], slR A34 c34 (intR .i64) z33.Keep])) (LS [optR y29 (fun z => diskO 61 68 5 F29 b15_0 z), optR y30 (fun z => T_limnographref18_Disk.obj F30 b18_0 z), slR A0 c0 T_api_File.rep x0, slR A2 c2 T_limnographlaw20_Act.rep x2, rdR b33 o33 [.int .i64 (z33.Kind), .int .i64 (z33.N), Str (z33.Name), Str (z33.B), .int .i64 (z33.Code), .slice A34 (z33.Keep).length c34], slR A34 c34 (intR .i64) z33.Keep]) w257 w266 [slR A0 c0 T_api_File.rep x0, slR A2 c2 T_limnographlaw20_Act.rep x2, rdR b33 o33 [.int .i64 (z33.Kind), .int .i64 (z33.N), Str (z33.Name), Str (z33.B), .int .i64 (z33.Code), .slice A34 (z33.Keep).length c34], slR A34 c34 (intR .i64) z33.Keep, diskO 61 68 5 F258_p0 b15_0 p258.2, T_limnographref18_Disk.obj F266_p0 b18_0 p266.2] := hm271.callAZ hq266
                        refine ⟨_, rfl, hm273.fr, ?_⟩
                        refine RH.here fun hS8 => RH.one 8 (by kernel_rfl) rfl rfl rfl rfl (V.neq rfl rfl) hS8 ?_
                        refine RH.doneP (by kernel_rfl) ?_
                        have hm274 := hmo257.callAZ hm273
                        have hm275 : Hp Z0 No w w266 [boxR b38 44 [.int .i64 (z33.Kind), .int .i64 (z33.N), Str (z33.Name), Str (z33.B), .int .i64 (z33.Code), .slice A34 (z33.Keep).length c34], slR A0 c0 T_api_File.rep x0, slR A2 c2 T_limnographlaw20_Act.rep x2, rdR b33 o33 [.int .i64 (z33.Kind), .int .i64 (z33.N), Str (z33.Name), Str (z33.B), .int .i64 (z33.Code), .slice A34 (z33.Keep).length c34], slR A34 c34 (intR .i64) z33.Keep, diskO 61 68 5 F258_p0 b15_0 p258.2, T_limnographref18_Disk.obj F266_p0 b18_0 p266.2] := hm274.pick [0, 5, 6, 7, 8, 9, 10] rfl (by decide)
                        refine Rn.condD rfl (fun h276 => ?_) (fun h276 => ?_)
                        · replace hM := iteT h276 hM
                          refine Rn.seq (Rn.reg (Rn.v rfl rfl rfl rfl (V.as rfl) (Rn.regEnd ?_)))
                          refine Rn.retG1 Try.func4 rfl (rvT rfl) ?_
                          obtain rfl := someE hM
                          exact ⟨rfl, hm275.pick [] rfl (by decide)⟩
                        · replace hM := iteF h276 hM
                          refine Rn.skip (Rn.inBlock ?_)
                          refine Rn.say (t := 7) (.pointer (some ⟨b15_0, 0, none⟩)) rfl (by rw [e259]; rfl) ?_
                          have hm277 := hm275.toSome (R := (fun z => diskO 61 68 5 F258_p0 b15_0 z)) 5 rfl
                          have hm278 : Hp Z0 No w w266 [boxR b38 44 [.int .i64 (z33.Kind), .int .i64 (z33.N), Str (z33.Name), Str (z33.B), .int .i64 (z33.Code), .slice A34 (z33.Keep).length c34], slR A0 c0 T_api_File.rep x0, slR A2 c2 T_limnographlaw20_Act.rep x2, rdR b33 o33 [.int .i64 (z33.Kind), .int .i64 (z33.N), Str (z33.Name), Str (z33.B), .int .i64 (z33.Code), .slice A34 (z33.Keep).length c34], slR A34 c34 (intR .i64) z33.Keep, optR (some p258.2) (fun z => diskO 61 68 5 F258_p0 b15_0 z), T_limnographref18_Disk.obj F266_p0 b18_0 p266.2] := hm277
                          refine Rn.say (t := 8) (.pointer (some ⟨b18_0, 0, none⟩)) rfl (by rw [e267]; rfl) ?_
                          have hm279 := hm278.toSome (R := (fun z => T_limnographref18_Disk.obj F266_p0 b18_0 z)) 6 rfl
                          have hm280 : Hp Z0 No w w266 [boxR b38 44 [.int .i64 (z33.Kind), .int .i64 (z33.N), Str (z33.Name), Str (z33.B), .int .i64 (z33.Code), .slice A34 (z33.Keep).length c34], slR A0 c0 T_api_File.rep x0, slR A2 c2 T_limnographlaw20_Act.rep x2, rdR b33 o33 [.int .i64 (z33.Kind), .int .i64 (z33.N), Str (z33.Name), Str (z33.B), .int .i64 (z33.Code), .slice A34 (z33.Keep).length c34], slR A34 c34 (intR .i64) z33.Keep, optR (some p258.2) (fun z => diskO 61 68 5 F258_p0 b15_0 z), optR (some p266.2) (fun z => T_limnographref18_Disk.obj F266_p0 b18_0 z)] := hm279
                          exact hk4 ((some p258.2), (some p266.2), F258_p0, F266_p0) _ _ (Sub.cons rfl (Sub.cons rfl (Sub.cons rfl (Sub.cons rfl (Sub.nil _))))) (hm280.pick [1, 2, 3, 4, 0, 5, 6] rfl (by decide)) hM
                      · replace hM := iteF h246 hM
                        refine Rn.skip (Rn.inBlock ?_)
                        exact hk4 (y29, y30, F29, F30) _ _ (Sub.cons rfl (Sub.cons rfl (Sub.cons rfl (Sub.cons rfl (Sub.nil _))))) (hm40.pick [0, 1, 4, 5, 6, 2, 3] rfl (by decide)) hM
          · replace hM := iteF h32 hM
            refine Rn.exit rfl ?_
            exact hk3 () _ _ (Sub.nil _) (hm31.pick [0, 1] rfl (by decide)) hM
      intro hk1
      clear hj1
      refine Rn.part (t := 38) rfl (fun h281 => ?_) (fun h281 => ?_)
      · replace hM := iteT h281 hM
        refine Rn.no rfl rfl rfl rfl (Rn.no rfl rfl rfl rfl (Rn.v rfl rfl rfl rfl (V.pkT rfl rfl) ?_))
        exact hk1 true _ _ (Sub.cons rfl (Sub.cons rfl (Sub.cons rfl (Sub.cons rfl (Sub.nil _))))) (hm20.pick [0, 1, 2, 3] rfl (by decide)) hM
      · replace hM := iteF (by rw [h281]; exact Bool.false_ne_true) hM
        refine Rn.v rfl rfl rfl rfl (V.mv rfl) (Rn.v rfl rfl rfl rfl (V.eqlO Try.underlying41 rfl rfl) (Rn.v rfl rfl rfl rfl (V.pkF rfl rfl) ?_))
        exact hk1 ((p18).isNone) _ _ (Sub.cons rfl (Sub.cons rfl (Sub.cons rfl (Sub.cons rfl (Sub.nil _))))) (hm20.pick [0, 1, 2, 3] rfl (by decide)) hM

set_option maxRecDepth 20000 in
theorem m_limnographlaw20_SnapWhole_sim {Z0 : Nat → Prop} (w : World) (A0 : Option Addr) (c0 : Nat) (x0 : (List UInt8)) (A1 : Option Addr) (c1 : Nat) (x1 : (List UInt8)) (x2 : Int) (x3 : Int) (x4 : Int) (x5 : Int) (A6 : Option Addr) (c6 : Nat) (x6 : (List Int)) {r : Bool} (f0 : (slR A0 c0 byteR x0).H Z0 w) (f1 : (slR A1 c1 byteR x1).H Z0 w) (f2 : (slR A6 c6 (intR .i64) x6).H Z0 w) (hM : m_limnographlaw20_SnapWhole x0 x1 x2 x3 x4 x5 x6 = some r) :
    Calls Try.prog 3 #[.slice A0 (x0).length c0, .slice A1 (x1).length c1, .int .i64 (x2), .int .i64 (x3), .int .i64 (x4), .int .i64 (x5), .slice A6 (x6).length c6] w fun x w' => x = .returned (.bool (r)) ∧ Hp Z0 No w w' [] := by
  have hm0 := Hp.nil Z0 No w
  have hc0 := Calm.nil
  have hm4 := hm0.know (slR A0 c0 byteR x0) (fun _ h => h) (hm0.in0 hc0 f0)
  replace hc0 := hc0.snoc (r := slR A0 c0 byteR x0) (fun _ h => h)
  have hm5 := hm4.know (slR A1 c1 byteR x1) (fun _ h => h) (hm4.in0 hc0 f1)
  replace hc0 := hc0.snoc (r := slR A1 c1 byteR x1) (fun _ h => h)
  have hm6 := hm5.know (slR A6 c6 (intR .i64) x6) (fun _ h => h) (hm5.in0 hc0 f2)
  replace hc0 := hc0.snoc (r := slR A6 c6 (intR .i64) x6) (fun _ h => h)
  refine Rn.enter Try.func3 rfl rfl (Nat.le_of_ble_eq_true rfl) ?_
  refine Rn.seq (Rn.reg (Rn.v rfl rfl rfl rfl (V.as rfl) (Rn.regEnd (Rn.seq (Rn.seq (Rn.reg ?_))))))
  obtain ⟨p7, e7, hM⟩ := bindE hM
  refine Rn.cl ck5 rfl rfl rfl rfl (m_limnographlaw20_awake_sim (Z0 := All) _   e7) ?_
  rintro _ w7 ⟨rfl, hq7⟩
  refine ⟨_, rfl, ?_⟩
  have hm8 := hm6.call0 hq7
  refine Rn.v rfl rfl rfl rfl (V.notB rfl) (Rn.regEnd ?_)
  refine Rn.condS rfl (fun h9 => ?_) (fun h9 => ?_)
  · replace hM := iteT h9 hM
    refine Rn.seq (Rn.reg (Rn.v rfl rfl rfl rfl (V.as rfl) (Rn.regEnd ?_)))
    refine Rn.retG1 Try.func3 rfl (rvT rfl) ?_
    obtain rfl := someE hM
    exact ⟨rfl, hm8.pick [] rfl (by decide)⟩
  · replace hM := iteF (by rw [h9]; exact Bool.false_ne_true) hM
    refine Rn.skip (Rn.seq (Rn.seq (Rn.reg (Rn.v rfl rfl rfl rfl (V.mv rfl) (Rn.v rfl rfl rfl rfl (V.lenV Try.underlying22 rfl) (Rn.v rfl rfl rfl rfl (V.gtr rfl rfl) (Rn.v rfl rfl rfl rfl (V.mv rfl) ?_)))))))
    refine Rn.cutR [8, 9, 10, 11, 12, 13, 14, 15, 16] [(0, .slice A0 (x0).length c0), (1, .slice A1 (x1).length c1), (2, .int .i64 (x2)), (3, .int .i64 (x3)), (4, .int .i64 (x4)), (5, .int .i64 (x5)), (6, .slice A6 (x6).length c6), (29, .bool (decide (((x0.length : Int) > 1000) ∨ ((x1.length : Int) > 1000))))] (fun hk10 => ?_) ?_
    · refine Rn.partD (t := 25) rfl (fun h11 => ?_) (fun h11 => ?_)
      · refine Rn.no rfl rfl rfl rfl (Rn.no rfl rfl rfl rfl (Rn.no rfl rfl rfl rfl (Rn.v rfl rfl rfl rfl (V.pkT rfl rfl) ?_)))
        refine hk10 _ ?_
        exact Sub.cons rfl (Sub.cons rfl (Sub.cons rfl (Sub.cons rfl (Sub.cons rfl (Sub.cons rfl (Sub.cons rfl (Sub.cons (lkv _ rfl (by first | exact andT h11 | exact andF h11 | exact orT h11 | exact orF h11 | exact nandF h11 | exact nandT h11 | exact norT h11 | exact norF h11 | (simp [h11]; done) | grind)) (Sub.nil _))))))))
      · refine Rn.v rfl rfl rfl rfl (V.mv rfl) (Rn.v rfl rfl rfl rfl (V.lenV Try.underlying22 rfl) (Rn.v rfl rfl rfl rfl (V.gtr rfl rfl) (Rn.v rfl rfl rfl rfl (V.pkF rfl rfl) ?_)))
        refine hk10 _ ?_
        exact Sub.cons rfl (Sub.cons rfl (Sub.cons rfl (Sub.cons rfl (Sub.cons rfl (Sub.cons rfl (Sub.cons rfl (Sub.cons (lkv _ rfl (by first | exact andT h11 | exact andF h11 | exact orT h11 | exact orF h11 | exact nandF h11 | exact nandT h11 | exact norT h11 | exact norF h11 | (simp [h11]; done) | grind)) (Sub.nil _))))))))
    refine Rn.v rfl rfl rfl rfl (V.mv rfl) ?_
    refine Rn.cutR [13, 14, 15, 16] [(0, .slice A0 (x0).length c0), (1, .slice A1 (x1).length c1), (2, .int .i64 (x2)), (3, .int .i64 (x3)), (4, .int .i64 (x4)), (5, .int .i64 (x5)), (6, .slice A6 (x6).length c6), (34, .bool (decide ((((x0.length : Int) > 1000) ∨ ((x1.length : Int) > 1000)) ∨ ((x6.length : Int) > 20))))] (fun hk12 => ?_) ?_
    · refine Rn.partD (t := 30) rfl (fun h13 => ?_) (fun h13 => ?_)
      · refine Rn.no rfl rfl rfl rfl (Rn.no rfl rfl rfl rfl (Rn.no rfl rfl rfl rfl (Rn.v rfl rfl rfl rfl (V.pkT rfl rfl) ?_)))
        refine hk12 _ ?_
        exact Sub.cons rfl (Sub.cons rfl (Sub.cons rfl (Sub.cons rfl (Sub.cons rfl (Sub.cons rfl (Sub.cons rfl (Sub.cons (lkv _ rfl (by first | exact andT h13 | exact andF h13 | exact orT h13 | exact orF h13 | exact nandF h13 | exact nandT h13 | exact norT h13 | exact norF h13 | (simp [h13]; done) | grind)) (Sub.nil _))))))))
      · refine Rn.v rfl rfl rfl rfl (V.mv rfl) (Rn.v rfl rfl rfl rfl (V.lenV Try.underlying24 rfl) (Rn.v rfl rfl rfl rfl (V.gtr rfl rfl) (Rn.v rfl rfl rfl rfl (V.pkF rfl rfl) ?_)))
        refine hk12 _ ?_
        exact Sub.cons rfl (Sub.cons rfl (Sub.cons rfl (Sub.cons rfl (Sub.cons rfl (Sub.cons rfl (Sub.cons rfl (Sub.cons (lkv _ rfl (by first | exact andT h13 | exact andF h13 | exact orT h13 | exact orF h13 | exact nandF h13 | exact nandT h13 | exact norT h13 | exact norF h13 | (simp [h13]; done) | grind)) (Sub.nil _))))))))
    refine Rn.v rfl rfl rfl rfl (V.mv rfl) ?_
    refine Rn.cutR [] [(0, .slice A0 (x0).length c0), (1, .slice A1 (x1).length c1), (2, .int .i64 (x2)), (3, .int .i64 (x3)), (4, .int .i64 (x4)), (5, .int .i64 (x5)), (6, .slice A6 (x6).length c6), (38, .bool (decide (((((x0.length : Int) > 1000) ∨ ((x1.length : Int) > 1000)) ∨ ((x6.length : Int) > 20)) ∨ (x5 = 13))))] (fun hk14 => ?_) ?_
    · refine Rn.partD (t := 35) rfl (fun h15 => ?_) (fun h15 => ?_)
      · refine Rn.no rfl rfl rfl rfl (Rn.no rfl rfl rfl rfl (Rn.v rfl rfl rfl rfl (V.pkT rfl rfl) ?_))
        refine hk14 _ ?_
        exact Sub.cons rfl (Sub.cons rfl (Sub.cons rfl (Sub.cons rfl (Sub.cons rfl (Sub.cons rfl (Sub.cons rfl (Sub.cons (lkv _ rfl (by first | exact andT h15 | exact andF h15 | exact orT h15 | exact orF h15 | exact nandF h15 | exact nandT h15 | exact norT h15 | exact norF h15 | (simp [h15]; done) | grind)) (Sub.nil _))))))))
      · refine Rn.v rfl rfl rfl rfl (V.mv rfl) (Rn.v rfl rfl rfl rfl (V.eql rfl rfl) (Rn.v rfl rfl rfl rfl (V.pkF rfl rfl) ?_))
        refine hk14 _ ?_
        exact Sub.cons rfl (Sub.cons rfl (Sub.cons rfl (Sub.cons rfl (Sub.cons rfl (Sub.cons rfl (Sub.cons rfl (Sub.cons (lkv _ rfl (by first | exact andT h15 | exact andF h15 | exact orT h15 | exact orF h15 | exact nandF h15 | exact nandT h15 | exact norT h15 | exact norF h15 | (simp [h15]; done) | grind)) (Sub.nil _))))))))
    refine Rn.regEnd ?_
    refine Rn.condD rfl (fun h16 => ?_) (fun h16 => ?_)
    · replace hM := iteT h16 hM
      refine Rn.seq (Rn.reg (Rn.v rfl rfl rfl rfl (V.as rfl) (Rn.regEnd ?_)))
      refine Rn.retG1 Try.func3 rfl (rvT rfl) ?_
      obtain rfl := someE hM
      exact ⟨rfl, hm8.pick [] rfl (by decide)⟩
    · replace hM := iteF h16 hM
      refine Rn.skip (Rn.seq (Rn.reg (Rn.v rfl rfl rfl rfl (V.mv rfl) ?_)))
      have hm18 := hm8.addNil 63 T_api_File.rep
      obtain ⟨p17, e17, hM⟩ := bindE hM
      refine Rn.cl ck6 rfl rfl rfl rfl (m_disk_New_sim (Z0 := All) _ none 0 ([] : List T_api_File) x2 (own_slR (hm18.get 3 rfl)) e17) ?_
      rintro _ w17 ⟨F17_0, b17_0, rfl, hq17⟩
      refine ⟨_, rfl, ?_⟩
      have hm21 : Hp Z0 No w w17 [slR A0 c0 byteR x0, slR A1 c1 byteR x1, slR A6 c6 (intR .i64) x6, ownR 63 none 0 T_api_File.rep ([] : List T_api_File), optR p17 (fun z => diskO 61 68 5 F17_0 b17_0 z)] := hm18.callF (flC (optR_flat fun _ => diskO_flat _ _ _ _ _ _) fl0) hq17
      refine Rn.v rfl rfl rfl rfl (V.as rfl) (Rn.regEnd (Rn.seq (Rn.seq (Rn.reg (Rn.v rfl rfl rfl rfl (V.mv rfl) (Rn.v rfl rfl rfl rfl (V.eqlO Try.underlying26 rfl rfl) (Rn.v rfl rfl rfl rfl (V.mv rfl) ?_)))))))
      obtain ⟨j1, hj1, hM⟩ := jnE hM
      refine Rn.joinR (r := r) (G := Bool × (Option PD) × (Nat → Prop)) [] (fun g => [(0, .slice A0 (x0).length c0), (1, .slice A1 (x1).length c1), (2, .int .i64 (x2)), (3, .int .i64 (x3)), (4, .int .i64 (x4)), (5, .int .i64 (x5)), (6, .slice A6 (x6).length c6), (15, .pointer (optP b17_0 (g.2.1))), (48, .bool ((g.1)))]) (fun g w' => Hp Z0 No w w' [slR A0 c0 byteR x0, slR A1 c1 byteR x1, slR A6 c6 (intR .i64) x6, ownR 63 none 0 T_api_File.rep ([] : List T_api_File), optR (g.2.1) (fun z => diskO 61 68 5 (g.2.2) b17_0 z)]) (fun g => j1 g.1 g.2.1) ?_ ?_
      · subst hj1
        clear hM
        rintro ⟨y22, y23, F23⟩ w24 hm24 hM
        replace hm24 : Hp Z0 No w w24 [slR A0 c0 byteR x0, slR A1 c1 byteR x1, slR A6 c6 (intR .i64) x6, ownR 63 none 0 T_api_File.rep ([] : List T_api_File), optR y23 (fun z => diskO 61 68 5 F23 b17_0 z)] := hm24
        show Rn _ _ _ _ _ [(0, .slice A0 (x0).length c0), (1, .slice A1 (x1).length c1), (2, .int .i64 (x2)), (3, .int .i64 (x3)), (4, .int .i64 (x4)), (5, .int .i64 (x5)), (6, .slice A6 (x6).length c6), (15, .pointer (optP b17_0 y23)), (48, .bool (y22))] _
        try dsimp only at hM
        refine Rn.regEnd ?_
        refine Rn.condS rfl (fun h25 => ?_) (fun h25 => ?_)
        · replace hM := iteT h25 hM
          refine Rn.seq (Rn.reg (Rn.v rfl rfl rfl rfl (V.mv rfl) (Rn.v rfl rfl rfl rfl (V.eqlO Try.underlying26 rfl rfl) (Rn.v rfl rfl rfl rfl (V.mv rfl) ?_))))
          obtain ⟨j2, hj2, hM⟩ := jnE hM
          refine Rn.joinR (r := r) (G := Bool) [9] (fun g => [(57, .bool (g))]) (fun g w' => Hp Z0 No w w' [slR A0 c0 byteR x0, slR A1 c1 byteR x1, slR A6 c6 (intR .i64) x6, ownR 63 none 0 T_api_File.rep ([] : List T_api_File), optR y23 (fun z => diskO 61 68 5 F23 b17_0 z)]) (fun g => j2 g) ?_ ?_
          · subst hj2
            clear hM
            rintro y26 w27 hm27 hM
            replace hm27 : Hp Z0 No w w27 [slR A0 c0 byteR x0, slR A1 c1 byteR x1, slR A6 c6 (intR .i64) x6, ownR 63 none 0 T_api_File.rep ([] : List T_api_File), optR y23 (fun z => diskO 61 68 5 F23 b17_0 z)] := hm27
            show Rn _ _ _ _ _ [(57, .bool (y26))] _
            try dsimp only at hM
            refine Rn.v rfl rfl rfl rfl (V.as rfl) (Rn.regEnd ?_)
            refine Rn.retG1 Try.func3 rfl (rvT rfl) ?_
            obtain rfl := someE hM
            exact ⟨rfl, hm27.pick [] rfl (by decide)⟩
          intro hk2
          clear hj2
          refine Rn.part (t := 51) rfl (fun h28 => ?_) (fun h28 => ?_)
          · replace hM := iteT h28 hM
            refine Rn.no rfl rfl rfl rfl (Rn.no rfl rfl rfl rfl (Rn.no rfl rfl rfl rfl (Rn.no rfl rfl rfl rfl (Rn.no rfl rfl rfl rfl (Rn.v rfl rfl rfl rfl (V.pkT rfl rfl) ?_)))))
            exact hk2 true _ _ (Sub.cons rfl (Sub.nil _)) (hm24.pick [0, 1, 2, 3, 4] rfl (by decide)) hM
          · replace hM := iteF (by rw [h28]; exact Bool.false_ne_true) hM
            refine Rn.v rfl rfl rfl rfl (V.mv rfl) (Rn.v rfl rfl rfl rfl (V.mv rfl) (Rn.v rfl rfl rfl rfl (V.lenV Try.underlying22 rfl) (Rn.v rfl rfl rfl rfl (V.addW rfl rfl) (Rn.v rfl rfl rfl rfl (V.lss rfl rfl) (Rn.v rfl rfl rfl rfl (V.pkF rfl rfl) ?_)))))
            exact hk2 (decide (x2 < W64 (9 + (x0.length : Int)))) _ _ (Sub.cons rfl (Sub.nil _)) (hm24.pick [0, 1, 2, 3, 4] rfl (by decide)) hM
        · replace hM := iteF (by rw [h25]; exact Bool.false_ne_true) hM
          refine Rn.skip (Rn.seq (Rn.reg (Rn.v rfl rfl rfl rfl (V.mv rfl) (Rn.v rfl rfl rfl rfl (V.mv rfl) ?_))))
          obtain ⟨z30, e30, hM⟩ := bindE hM
          have hm31 : Hp Z0 No w w24 [slR A0 c0 byteR x0, slR A1 c1 byteR x1, slR A6 c6 (intR .i64) x6, ownR 63 none 0 T_api_File.rep ([] : List T_api_File), diskO 61 68 5 F23 b17_0 z30] := hm24.optSome 4 rfl e30
          refine Rn.say (t := 58) (.pointer (some ⟨b17_0, 0, none⟩)) rfl (by rw [e30]; rfl) ?_
          obtain ⟨p29, e29, hM⟩ := bindE hM
          have hm32 : Hp Z0 No w w24 ([slR A0 c0 byteR x0, slR A1 c1 byteR x1, slR A6 c6 (intR .i64) x6, ownR 63 none 0 T_api_File.rep ([] : List T_api_File)] ++ [diskO 61 68 5 F23 b17_0 z30]) := hm31.pick [0, 1, 2, 3, 4] rfl (by decide)
          refine Rn.cl ck8 rfl rfl rfl rfl (m_disk_Disk_Crash_sim (Z0 := _) _ F23 b17_0 z30 x3 hm32.lend e29) ?_
          rintro _ w29 ⟨F29_p0, rfl, hq29⟩
          refine ⟨_, rfl, ?_⟩
          have hm34 : Hp Z0 No w w29 [slR A0 c0 byteR x0, slR A1 c1 byteR x1, slR A6 c6 (intR .i64) x6, ownR 63 none 0 T_api_File.rep ([] : List T_api_File), diskO 61 68 5 F29_p0 b17_0 p29] := hm32.callAZ hq29
          refine Rn.regEnd (Rn.seq (Rn.reg (Rn.v rfl rfl rfl rfl (V.mv rfl) (Rn.v rfl rfl rfl rfl (V.mv rfl) (Rn.v rfl rfl rfl rfl (V.mv rfl) ?_)))))
          refine Rn.say (t := 61) (.pointer (some ⟨b17_0, 0, none⟩)) rfl (by rw [e30]; rfl) ?_
          obtain ⟨p35, e35, hM⟩ := bindE hM
          have hm36 : Hp Z0 No w w29 ([slR A0 c0 byteR x0, slR A1 c1 byteR x1, slR A6 c6 (intR .i64) x6, ownR 63 none 0 T_api_File.rep ([] : List T_api_File)] ++ [diskO 61 68 5 F29_p0 b17_0 p29]) := hm34.pick [0, 1, 2, 3, 4] rfl (by decide)
          refine Rn.cl ck9 rfl rfl rfl rfl (m_disk_Disk_Fail_sim (Z0 := _) _ F29_p0 b17_0 p29 x4 x5 hm36.lend e35) ?_
          rintro _ w35 ⟨F35_p0, rfl, hq35⟩
          refine ⟨_, rfl, ?_⟩
          have hm38 : Hp Z0 No w w35 [slR A0 c0 byteR x0, slR A1 c1 byteR x1, slR A6 c6 (intR .i64) x6, ownR 63 none 0 T_api_File.rep ([] : List T_api_File), diskO 61 68 5 F35_p0 b17_0 p35] := hm36.callAZ hq35
          refine Rn.regEnd (Rn.seq (Rn.reg (Rn.v rfl rfl rfl rfl (V.mv rfl) (Rn.v rfl rfl rfl rfl (V.mv rfl) ?_))))
          refine Rn.say (t := 65) (.pointer (some ⟨b17_0, 0, none⟩)) rfl (by rw [e30]; rfl) ?_
          obtain ⟨p39, e39, hM⟩ := bindE hM
          have hm40 := hm38.dup 1 rfl (fun _ h => h)
          have hm42 : Hp Z0 No w w35 ([slR A0 c0 byteR x0, slR A1 c1 byteR x1, slR A6 c6 (intR .i64) x6, ownR 63 none 0 T_api_File.rep ([] : List T_api_File)] ++ [diskO 61 68 5 F35_p0 b17_0 p35, slR A1 c1 byteR x1]) := hm40.pick [0, 1, 2, 3, 4, 5] rfl (by decide)
          refine Rn.cl ck7 rfl rfl rfl rfl (m_snap_Save_sim (Z0 := _) _ F35_p0 b17_0 p35 ([115] : List UInt8) A1 c1 x1 hm42.lend e39) ?_
          rintro _ w39 ⟨F39_p0, rfl, hq39⟩
          refine ⟨_, rfl, ?_⟩
          have hm44 : Hp Z0 No w w39 [slR A0 c0 byteR x0, slR A1 c1 byteR x1, slR A6 c6 (intR .i64) x6, ownR 63 none 0 T_api_File.rep ([] : List T_api_File), diskO 61 68 5 F39_p0 b17_0 p39.2] := hm42.callAZ hq39
          refine Rn.v rfl rfl rfl rfl (V.as rfl) (Rn.regEnd (Rn.seq (Rn.seq (Rn.reg (Rn.v rfl rfl rfl rfl (V.mv rfl) (Rn.v rfl rfl rfl rfl (V.eql rfl rfl) (Rn.v rfl rfl rfl rfl (V.mv rfl) ?_)))))))
          obtain ⟨j3, hj3, hM⟩ := jnE hM
          refine Rn.joinR (r := r) (G := Bool × (Nat → Prop)) [] (fun g => [(0, .slice A0 (x0).length c0), (1, .slice A1 (x1).length c1), (6, .slice A6 (x6).length c6), (15, .pointer (optP b17_0 y23)), (16, .int .i64 (p39.1)), (74, .bool ((g.1)))]) (fun g w' => Hp Z0 No w w' [slR A0 c0 byteR x0, slR A1 c1 byteR x1, slR A6 c6 (intR .i64) x6, ownR 63 none 0 T_api_File.rep ([] : List T_api_File), diskO 61 68 5 (g.2) b17_0 p39.2]) (fun g => j3 g.1) ?_ ?_
          · subst hj3
            clear hM
            rintro ⟨y46, F45⟩ w47 hm47 hM
            replace hm47 : Hp Z0 No w w47 [slR A0 c0 byteR x0, slR A1 c1 byteR x1, slR A6 c6 (intR .i64) x6, ownR 63 none 0 T_api_File.rep ([] : List T_api_File), diskO 61 68 5 F45 b17_0 p39.2] := hm47
            show Rn _ _ _ _ _ [(0, .slice A0 (x0).length c0), (1, .slice A1 (x1).length c1), (6, .slice A6 (x6).length c6), (15, .pointer (optP b17_0 y23)), (16, .int .i64 (p39.1)), (74, .bool (y46))] _
            try dsimp only at hM
            refine Rn.regEnd ?_
            refine Rn.condS rfl (fun h48 => ?_) (fun h48 => ?_)
            · replace hM := iteT h48 hM
              refine Rn.seq (Rn.reg (Rn.v rfl rfl rfl rfl (V.as rfl) (Rn.regEnd ?_)))
              refine Rn.retG1 Try.func3 rfl (rvT rfl) ?_
              obtain rfl := someE hM
              exact ⟨rfl, hm47.pick [] rfl (by decide)⟩
            · replace hM := iteF (by rw [h48]; exact Bool.false_ne_true) hM
              refine Rn.skip (Rn.seq (Rn.seq (Rn.reg (Rn.v rfl rfl rfl rfl (V.mv rfl) ?_))))
              refine Rn.say (t := 75) (.pointer (some ⟨b17_0, 0, none⟩)) rfl (by rw [e30]; rfl) ?_
              obtain ⟨p49, e49, hM⟩ := bindE hM
              refine Rn.cl ck10 rfl rfl rfl rfl (m_disk_Disk_Down_sim (Z0 := All) _ F45 b17_0 p39.2 (fz_all (hm47.get 4 rfl)) e49) ?_
              rintro _ w49 ⟨rfl, hq49⟩
              refine ⟨_, rfl, ?_⟩
              have hm50 := hm47.call0 hq49
              refine Rn.v rfl rfl rfl rfl (V.notB rfl) (Rn.regEnd ?_)
              obtain ⟨j4, hj4, hM⟩ := jnE hM
              refine Rn.joinG (r := r) (G := PD × (Nat → Prop)) (fun g => [(0, .slice A0 (x0).length c0), (1, .slice A1 (x1).length c1), (6, .slice A6 (x6).length c6), (15, .pointer (optP b17_0 y23)), (16, .int .i64 (p39.1))]) (fun g w' => Hp Z0 No w w' [slR A0 c0 byteR x0, slR A1 c1 byteR x1, slR A6 c6 (intR .i64) x6, ownR 63 none 0 T_api_File.rep ([] : List T_api_File), diskO 61 68 5 (g.2) b17_0 (g.1)]) (fun g => j4 g.1) ?_ ?_
              · subst hj4
                clear hM
                rintro ⟨y51, F51⟩ w52 hm52 hM
                replace hm52 : Hp Z0 No w w52 [slR A0 c0 byteR x0, slR A1 c1 byteR x1, slR A6 c6 (intR .i64) x6, ownR 63 none 0 T_api_File.rep ([] : List T_api_File), diskO 61 68 5 F51 b17_0 y51] := hm52
                show Rn _ _ _ _ _ [(0, .slice A0 (x0).length c0), (1, .slice A1 (x1).length c1), (6, .slice A6 (x6).length c6), (15, .pointer (optP b17_0 y23)), (16, .int .i64 (p39.1))] _
                try dsimp only at hM
                refine Rn.seq (Rn.seq (Rn.reg (Rn.v rfl rfl rfl rfl (V.mv rfl) (Rn.v rfl rfl rfl rfl (V.mv rfl) ?_))))
                refine Rn.say (t := 82) (.pointer (some ⟨b17_0, 0, none⟩)) rfl (by rw [e30]; rfl) ?_
                obtain ⟨p53, e53, hM⟩ := bindE hM
                have hm54 := hm52.dup 2 rfl (fun _ h => h)
                have hm56 : Hp Z0 No w w52 ([slR A0 c0 byteR x0, slR A1 c1 byteR x1, slR A6 c6 (intR .i64) x6, ownR 63 none 0 T_api_File.rep ([] : List T_api_File)] ++ [diskO 61 68 5 F51 b17_0 y51, slR A6 c6 (intR .i64) x6]) := hm54.pick [0, 1, 2, 3, 4, 5] rfl (by decide)
                refine Rn.cl ck12 rfl rfl rfl rfl (m_disk_Disk_Boot_sim (Z0 := _) _ F51 b17_0 y51 A6 c6 x6 hm56.lend e53) ?_
                rintro _ w53 ⟨F53_p0, rfl, hq53⟩
                refine ⟨_, rfl, ?_⟩
                have hm58 : Hp Z0 No w w53 [slR A0 c0 byteR x0, slR A1 c1 byteR x1, slR A6 c6 (intR .i64) x6, ownR 63 none 0 T_api_File.rep ([] : List T_api_File), diskO 61 68 5 F53_p0 b17_0 p53.2] := hm56.callAZ hq53
                refine Rn.v rfl rfl rfl rfl (V.neq rfl rfl) (Rn.regEnd ?_)
                refine Rn.condD rfl (fun h59 => ?_) (fun h59 => ?_)
                · replace hM := iteT h59 hM
                  refine Rn.seq (Rn.reg (Rn.v rfl rfl rfl rfl (V.as rfl) (Rn.regEnd ?_)))
                  refine Rn.retG1 Try.func3 rfl (rvT rfl) ?_
                  obtain rfl := someE hM
                  exact ⟨rfl, hm58.pick [] rfl (by decide)⟩
                · replace hM := iteF h59 hM
                  refine Rn.skip (Rn.seq (Rn.reg (Rn.v rfl rfl rfl rfl (V.mv rfl) ?_)))
                  refine Rn.say (t := 87) (.pointer (some ⟨b17_0, 0, none⟩)) rfl (by rw [e30]; rfl) ?_
                  obtain ⟨p60, e60, hM⟩ := bindE hM
                  have hm61 : Hp Z0 No w w53 ([slR A0 c0 byteR x0, slR A1 c1 byteR x1, slR A6 c6 (intR .i64) x6, ownR 63 none 0 T_api_File.rep ([] : List T_api_File)] ++ [diskO 61 68 5 F53_p0 b17_0 p53.2]) := hm58.pick [0, 1, 2, 3, 4] rfl (by decide)
                  refine Rn.cl ck13 rfl rfl rfl rfl (m_snap_Load_sim (Z0 := _) _ F53_p0 b17_0 p53.2 ([115] : List UInt8) hm61.lend e60) ?_
                  rintro _ w60 ⟨A60_0_0, c60_0_0, F60_p0, rfl, hq60⟩
                  refine ⟨_, rfl, ?_⟩
                  have hm64 : Hp Z0 No w w60 [slR A0 c0 byteR x0, slR A1 c1 byteR x1, slR A6 c6 (intR .i64) x6, ownR 63 none 0 T_api_File.rep ([] : List T_api_File), ownR 5 A60_0_0 c60_0_0 byteR p60.1, diskO 61 68 5 F60_p0 b17_0 p60.2.2.2] := hm61.callAZ hq60
                  refine Rn.v rfl rfl rfl rfl (V.mv rfl) (Rn.v rfl rfl rfl rfl (V.ext rfl rfl) (Rn.v rfl rfl rfl rfl (V.ext rfl rfl) (Rn.v rfl rfl rfl rfl (V.ext rfl rfl) (Rn.v rfl rfl rfl rfl (V.as rfl) (Rn.v rfl rfl rfl rfl (V.as rfl) (Rn.v rfl rfl rfl rfl (V.as rfl) (Rn.regEnd (Rn.seq (Rn.seq (Rn.reg (Rn.v rfl rfl rfl rfl (V.mv rfl) (Rn.v rfl rfl rfl rfl (V.notB rfl) (Rn.v rfl rfl rfl rfl (V.mv rfl) ?_)))))))))))))
                  refine Rn.cutR [6, 7, 8, 9, 10, 11] [(0, .slice A0 (x0).length c0), (1, .slice A1 (x1).length c1), (15, .pointer (optP b17_0 y23)), (16, .int .i64 (p39.1)), (17, .slice A60_0_0 (p60.1).length c60_0_0), (97, .bool (decide (((!p60.2.1) = true) ∨ (p60.2.2.1 ≠ 0))))] (fun hk65 => ?_) ?_
                  · refine Rn.part (t := 94) rfl (fun h66 => ?_) (fun h66 => ?_)
                    · refine Rn.no rfl rfl rfl rfl (Rn.no rfl rfl rfl rfl (Rn.v rfl rfl rfl rfl (V.pkT rfl rfl) ?_))
                      refine hk65 _ ?_
                      exact Sub.cons rfl (Sub.cons rfl (Sub.cons rfl (Sub.cons rfl (Sub.cons rfl (Sub.cons (lkv _ rfl (by first | exact andT h66 | exact andF h66 | exact orT h66 | exact orF h66 | exact nandF h66 | exact nandT h66 | exact norT h66 | exact norF h66 | (simp [h66]; done) | grind)) (Sub.nil _))))))
                    · refine Rn.v rfl rfl rfl rfl (V.mv rfl) (Rn.v rfl rfl rfl rfl (V.neq rfl rfl) (Rn.v rfl rfl rfl rfl (V.pkF rfl rfl) ?_))
                      refine hk65 _ ?_
                      exact Sub.cons rfl (Sub.cons rfl (Sub.cons rfl (Sub.cons rfl (Sub.cons rfl (Sub.cons (lkv _ rfl (by first | exact andT h66 | exact andF h66 | exact orT h66 | exact orF h66 | exact nandF h66 | exact nandT h66 | exact norT h66 | exact norF h66 | (simp [h66]; done) | grind)) (Sub.nil _))))))
                  refine Rn.v rfl rfl rfl rfl (V.mv rfl) ?_
                  obtain ⟨j5, hj5, hM⟩ := jnE hM
                  refine Rn.joinR (r := r) (G := Bool × (Nat → Prop)) [] (fun g => [(0, .slice A0 (x0).length c0), (1, .slice A1 (x1).length c1), (16, .int .i64 (p39.1)), (17, .slice A60_0_0 (p60.1).length c60_0_0), (103, .bool ((g.1)))]) (fun g w' => Hp Z0 No w w' [slR A0 c0 byteR x0, slR A1 c1 byteR x1, slR A6 c6 (intR .i64) x6, ownR 63 none 0 T_api_File.rep ([] : List T_api_File), ownR 5 A60_0_0 c60_0_0 byteR p60.1, diskO 61 68 5 (g.2) b17_0 p60.2.2.2]) (fun g => j5 g.1) ?_ ?_
                  · subst hj5
                    clear hM
                    rintro ⟨y68, F67⟩ w69 hm69 hM
                    replace hm69 : Hp Z0 No w w69 [slR A0 c0 byteR x0, slR A1 c1 byteR x1, slR A6 c6 (intR .i64) x6, ownR 63 none 0 T_api_File.rep ([] : List T_api_File), ownR 5 A60_0_0 c60_0_0 byteR p60.1, diskO 61 68 5 F67 b17_0 p60.2.2.2] := hm69
                    show Rn _ _ _ _ _ [(0, .slice A0 (x0).length c0), (1, .slice A1 (x1).length c1), (16, .int .i64 (p39.1)), (17, .slice A60_0_0 (p60.1).length c60_0_0), (103, .bool (y68))] _
                    try dsimp only at hM
                    refine Rn.regEnd ?_
                    refine Rn.condS rfl (fun h70 => ?_) (fun h70 => ?_)
                    · replace hM := iteT h70 hM
                      refine Rn.seq (Rn.reg (Rn.v rfl rfl rfl rfl (V.as rfl) (Rn.regEnd ?_)))
                      refine Rn.retG1 Try.func3 rfl (rvT rfl) ?_
                      obtain rfl := someE hM
                      exact ⟨rfl, hm69.pick [] rfl (by decide)⟩
                    · replace hM := iteF (by rw [h70]; exact Bool.false_ne_true) hM
                      refine Rn.skip (Rn.seq (Rn.seq (Rn.reg (Rn.v rfl rfl rfl rfl (V.mv rfl) (Rn.regEnd (Rn.block (Rn.seq (Rn.reg (Rn.v rfl rfl rfl rfl (V.eql rfl rfl) (Rn.v rfl rfl rfl rfl (V.as rfl) (Rn.regEnd ?_)))))))))))
                      refine Rn.condD rfl (fun h71 => ?_) (fun h71 => ?_)
                      · replace hM := iteT h71 hM
                        refine Rn.seq (Rn.reg (Rn.v rfl rfl rfl rfl (V.mv rfl) (Rn.v rfl rfl rfl rfl (V.b2s Try.underlying22 Try.underlying9 Try.underlying5 rfl rfl (Own.sl (hm69.get 4 rfl))) (Rn.v rfl rfl rfl rfl (V.mv rfl) (Rn.v rfl rfl rfl rfl (V.b2s Try.underlying22 Try.underlying9 Try.underlying5 rfl rfl (hm69.get 1 rfl).2.2) (Rn.v rfl rfl rfl rfl (V.eqlS rfl rfl) (Rn.v rfl rfl rfl rfl (V.as rfl) (Rn.regEnd ?_))))))))
                        refine Rn.retG1 Try.func3 rfl (rvT rfl) ?_
                        obtain rfl := someE hM
                        exact ⟨rfl, hm69.pick [] rfl (by decide)⟩
                      · replace hM := iteF h71 hM
                        refine Rn.seq (Rn.reg (Rn.v rfl rfl rfl rfl (V.eql rfl rfl) (Rn.v rfl rfl rfl rfl (V.as rfl) (Rn.regEnd ?_))))
                        refine Rn.condD rfl (fun h72 => ?_) (fun h72 => ?_)
                        · replace hM := iteT h72 hM
                          refine Rn.seq (Rn.reg (Rn.v rfl rfl rfl rfl (V.mv rfl) (Rn.v rfl rfl rfl rfl (V.b2s Try.underlying22 Try.underlying9 Try.underlying5 rfl rfl (Own.sl (hm69.get 4 rfl))) (Rn.v rfl rfl rfl rfl (V.mv rfl) (Rn.v rfl rfl rfl rfl (V.b2s Try.underlying22 Try.underlying9 Try.underlying5 rfl rfl (hm69.get 1 rfl).2.2) (Rn.v rfl rfl rfl rfl (V.eqlS rfl rfl) (Rn.v rfl rfl rfl rfl (V.mv rfl) ?_)))))))
                          obtain ⟨j6, hj6, hM⟩ := jnE hM
                          refine Rn.joinR (r := r) (G := Bool × (Nat → Prop)) [12] (fun g => [(125, .bool ((g.1)))]) (fun g w' => Hp Z0 No w w' [slR A0 c0 byteR x0, slR A1 c1 byteR x1, slR A6 c6 (intR .i64) x6, ownR 63 none 0 T_api_File.rep ([] : List T_api_File), ownR 5 A60_0_0 c60_0_0 byteR p60.1, diskO 61 68 5 (g.2) b17_0 p60.2.2.2]) (fun g => j6 g.1) ?_ ?_
                          · subst hj6
                            clear hM
                            rintro ⟨y74, F73⟩ w75 hm75 hM
                            replace hm75 : Hp Z0 No w w75 [slR A0 c0 byteR x0, slR A1 c1 byteR x1, slR A6 c6 (intR .i64) x6, ownR 63 none 0 T_api_File.rep ([] : List T_api_File), ownR 5 A60_0_0 c60_0_0 byteR p60.1, diskO 61 68 5 F73 b17_0 p60.2.2.2] := hm75
                            show Rn _ _ _ _ _ [(125, .bool (y74))] _
                            try dsimp only at hM
                            refine Rn.v rfl rfl rfl rfl (V.as rfl) (Rn.regEnd ?_)
                            refine Rn.retG1 Try.func3 rfl (rvT rfl) ?_
                            obtain rfl := someE hM
                            exact ⟨rfl, hm75.pick [] rfl (by decide)⟩
                          intro hk6
                          clear hj6
                          refine Rn.partD (t := 119) rfl (fun h76 => ?_) (fun h76 => ?_)
                          · replace hM := iteT h76 hM
                            refine Rn.no rfl rfl rfl rfl (Rn.no rfl rfl rfl rfl (Rn.no rfl rfl rfl rfl (Rn.no rfl rfl rfl rfl (Rn.no rfl rfl rfl rfl (Rn.v rfl rfl rfl rfl (V.pkT rfl rfl) ?_)))))
                            exact hk6 (true, F67) _ _ (Sub.cons rfl (Sub.nil _)) (hm69.pick [0, 1, 2, 3, 4, 5] rfl (by decide)) hM
                          · replace hM := iteF h76 hM
                            refine Rn.v rfl rfl rfl rfl (V.mv rfl) (Rn.v rfl rfl rfl rfl (V.b2s Try.underlying22 Try.underlying9 Try.underlying5 rfl rfl (Own.sl (hm69.get 4 rfl))) (Rn.v rfl rfl rfl rfl (V.mv rfl) (Rn.v rfl rfl rfl rfl (V.b2s Try.underlying22 Try.underlying9 Try.underlying5 rfl rfl (hm69.get 0 rfl).2.2) (Rn.v rfl rfl rfl rfl (V.eqlS rfl rfl) (Rn.v rfl rfl rfl rfl (V.pkF rfl rfl) ?_)))))
                            exact hk6 ((decide (p60.1 = x0)), F67) _ _ (Sub.cons rfl (Sub.nil _)) (hm69.pick [0, 1, 2, 3, 4, 5] rfl (by decide)) hM
                        · replace hM := iteF h72 hM
                          refine Rn.skip (Rn.inBlock (Rn.seq (Rn.reg (Rn.v rfl rfl rfl rfl (V.mv rfl) (Rn.v rfl rfl rfl rfl (V.b2s Try.underlying22 Try.underlying9 Try.underlying5 rfl rfl (Own.sl (hm69.get 4 rfl))) (Rn.v rfl rfl rfl rfl (V.mv rfl) (Rn.v rfl rfl rfl rfl (V.b2s Try.underlying22 Try.underlying9 Try.underlying5 rfl rfl (hm69.get 0 rfl).2.2) (Rn.v rfl rfl rfl rfl (V.eqlS rfl rfl) (Rn.v rfl rfl rfl rfl (V.as rfl) (Rn.regEnd ?_))))))))))
                          refine Rn.retG1 Try.func3 rfl (rvT rfl) ?_
                          obtain rfl := someE hM
                          exact ⟨rfl, hm69.pick [] rfl (by decide)⟩
                  intro hk5
                  clear hj5
                  refine Rn.partD (t := 98) rfl (fun h77 => ?_) (fun h77 => ?_)
                  · replace hM := iteT h77 hM
                    refine Rn.no rfl rfl rfl rfl (Rn.no rfl rfl rfl rfl (Rn.no rfl rfl rfl rfl (Rn.no rfl rfl rfl rfl (Rn.v rfl rfl rfl rfl (V.pkT rfl rfl) ?_))))
                    exact hk5 (true, F60_p0) _ _ (Sub.cons rfl (Sub.cons rfl (Sub.cons rfl (Sub.cons rfl (Sub.cons rfl (Sub.nil _)))))) (hm64.pick [0, 1, 2, 3, 4, 5] rfl (by decide)) hM
                  · replace hM := iteF h77 hM
                    refine Rn.v rfl rfl rfl rfl (V.mv rfl) ?_
                    refine Rn.say (t := 99) (.pointer (some ⟨b17_0, 0, none⟩)) rfl (by rw [e30]; rfl) ?_
                    obtain ⟨p78, e78, hM⟩ := bindE hM
                    refine Rn.cl ck14 rfl rfl rfl rfl (m_disk_Disk_Names_sim (Z0 := All) _ F60_p0 b17_0 p60.2.2.2 (fz_all (hm64.get 5 rfl)) e78) ?_
                    rintro _ w78 ⟨A78_0_0, c78_0_0, rfl, hq78⟩
                    refine ⟨_, rfl, ?_⟩
                    have hm80 : Hp Z0 No w w78 [slR A0 c0 byteR x0, slR A1 c1 byteR x1, slR A6 c6 (intR .i64) x6, ownR 63 none 0 T_api_File.rep ([] : List T_api_File), ownR 5 A60_0_0 c60_0_0 byteR p60.1, diskO 61 68 5 F60_p0 b17_0 p60.2.2.2, ownR 9 A78_0_0 c78_0_0 textR p78] := hm64.callF (flC (ownR_flat text_flat _ _ _ _) fl0) hq78
                    refine Rn.v rfl rfl rfl rfl (V.lenV Try.underlying35 rfl) (Rn.v rfl rfl rfl rfl (V.neq rfl rfl) (Rn.v rfl rfl rfl rfl (V.pkF rfl rfl) ?_))
                    exact hk5 ((decide ((p78.length : Int) ≠ 1)), F60_p0) _ _ (Sub.cons rfl (Sub.cons rfl (Sub.cons rfl (Sub.cons rfl (Sub.cons rfl (Sub.nil _)))))) (hm80.pick [0, 1, 2, 3, 4, 5] rfl (by decide)) hM
              intro hk4
              clear hj4
              refine Rn.condS rfl (fun h81 => ?_) (fun h81 => ?_)
              · replace hM := iteT h81 hM
                refine Rn.seq (Rn.reg (Rn.v rfl rfl rfl rfl (V.mv rfl) ?_))
                refine Rn.say (t := 78) (.pointer (some ⟨b17_0, 0, none⟩)) rfl (by rw [e30]; rfl) ?_
                obtain ⟨p82, e82, hM⟩ := bindE hM
                have hm83 : Hp Z0 No w w49 ([slR A0 c0 byteR x0, slR A1 c1 byteR x1, slR A6 c6 (intR .i64) x6, ownR 63 none 0 T_api_File.rep ([] : List T_api_File)] ++ [diskO 61 68 5 F45 b17_0 p39.2]) := hm50.pick [0, 1, 2, 3, 4] rfl (by decide)
                refine Rn.cl ck8 rfl rfl rfl rfl (m_disk_Disk_Crash_sim (Z0 := _) _ F45 b17_0 p39.2 0 hm83.lend e82) ?_
                rintro _ w82 ⟨F82_p0, rfl, hq82⟩
                refine ⟨_, rfl, ?_⟩
                have hm85 : Hp Z0 No w w82 [slR A0 c0 byteR x0, slR A1 c1 byteR x1, slR A6 c6 (intR .i64) x6, ownR 63 none 0 T_api_File.rep ([] : List T_api_File), diskO 61 68 5 F82_p0 b17_0 p82] := hm83.callAZ hq82
                refine Rn.regEnd (Rn.reg (Rn.v rfl rfl rfl rfl (V.mv rfl) ?_))
                refine Rn.say (t := 80) (.pointer (some ⟨b17_0, 0, none⟩)) rfl (by rw [e30]; rfl) ?_
                obtain ⟨p86, e86, hM⟩ := bindE hM
                have hm87 : Hp Z0 No w w82 ([slR A0 c0 byteR x0, slR A1 c1 byteR x1, slR A6 c6 (intR .i64) x6, ownR 63 none 0 T_api_File.rep ([] : List T_api_File)] ++ [diskO 61 68 5 F82_p0 b17_0 p82]) := hm85.pick [0, 1, 2, 3, 4] rfl (by decide)
                refine Rn.cl ck11 rfl rfl rfl rfl (m_disk_Disk_Sync_sim (Z0 := _) _ F82_p0 b17_0 p82 ([115] : List UInt8) hm87.lend e86) ?_
                rintro _ w86 ⟨F86_p0, rfl, hq86⟩
                refine ⟨_, rfl, ?_⟩
                have hm89 : Hp Z0 No w w86 [slR A0 c0 byteR x0, slR A1 c1 byteR x1, slR A6 c6 (intR .i64) x6, ownR 63 none 0 T_api_File.rep ([] : List T_api_File), diskO 61 68 5 F86_p0 b17_0 p86.2] := hm87.callAZ hq86
                refine Rn.regEnd ?_
                exact hk4 (p86.2, F86_p0) _ _ (Sub.cons rfl (Sub.cons rfl (Sub.cons rfl (Sub.cons rfl (Sub.cons rfl (Sub.nil _)))))) (hm89.pick [0, 1, 2, 3, 4] rfl (by decide)) hM
              · replace hM := iteF (by rw [h81]; exact Bool.false_ne_true) hM
                refine Rn.skip ?_
                exact hk4 (p39.2, F45) _ _ (Sub.cons rfl (Sub.cons rfl (Sub.cons rfl (Sub.cons rfl (Sub.cons rfl (Sub.nil _)))))) (hm50.pick [0, 1, 2, 3, 4] rfl (by decide)) hM
          intro hk3
          clear hj3
          refine Rn.partD (t := 70) rfl (fun h90 => ?_) (fun h90 => ?_)
          · replace hM := iteT h90 hM
            refine Rn.v rfl rfl rfl rfl (V.mv rfl) ?_
            refine Rn.say (t := 71) (.pointer (some ⟨b17_0, 0, none⟩)) rfl (by rw [e30]; rfl) ?_
            obtain ⟨p91, e91, hM⟩ := bindE hM
            refine Rn.cl ck10 rfl rfl rfl rfl (m_disk_Disk_Down_sim (Z0 := All) _ F39_p0 b17_0 p39.2 (fz_all (hm44.get 4 rfl)) e91) ?_
            rintro _ w91 ⟨rfl, hq91⟩
            refine ⟨_, rfl, ?_⟩
            have hm92 := hm44.call0 hq91
            refine Rn.v rfl rfl rfl rfl (V.notB rfl) (Rn.v rfl rfl rfl rfl (V.pkT rfl rfl) ?_)
            exact hk3 ((!p91), F39_p0) _ _ (Sub.cons rfl (Sub.cons rfl (Sub.cons rfl (Sub.cons rfl (Sub.cons rfl (Sub.cons rfl (Sub.nil _))))))) (hm92.pick [0, 1, 2, 3, 4] rfl (by decide)) hM
          · replace hM := iteF h90 hM
            refine Rn.no rfl rfl rfl rfl (Rn.no rfl rfl rfl rfl (Rn.no rfl rfl rfl rfl (Rn.v rfl rfl rfl rfl (V.pkF rfl rfl) ?_)))
            exact hk3 (false, F39_p0) _ _ (Sub.cons rfl (Sub.cons rfl (Sub.cons rfl (Sub.cons rfl (Sub.cons rfl (Sub.cons rfl (Sub.nil _))))))) (hm44.pick [0, 1, 2, 3, 4] rfl (by decide)) hM
      intro hk1
      clear hj1
      refine Rn.part (t := 43) rfl (fun h93 => ?_) (fun h93 => ?_)
      · replace hM := iteT h93 hM
        refine Rn.no rfl rfl rfl rfl (Rn.no rfl rfl rfl rfl (Rn.no rfl rfl rfl rfl (Rn.no rfl rfl rfl rfl (Rn.v rfl rfl rfl rfl (V.pkT rfl rfl) ?_))))
        exact hk1 (true, p17, F17_0) _ _ (Sub.cons rfl (Sub.cons rfl (Sub.cons rfl (Sub.cons rfl (Sub.cons rfl (Sub.cons rfl (Sub.cons rfl (Sub.cons rfl (Sub.cons rfl (Sub.nil _)))))))))) (hm21.pick [0, 1, 2, 3, 4] rfl (by decide)) hM
      · replace hM := iteF (by rw [h93]; exact Bool.false_ne_true) hM
        refine Rn.v rfl rfl rfl rfl (V.mv rfl) (Rn.v rfl rfl rfl rfl (V.mv rfl) ?_)
        obtain ⟨z95, e95, hM⟩ := bindE hM
        have hm96 : Hp Z0 No w w17 [slR A0 c0 byteR x0, slR A1 c1 byteR x1, slR A6 c6 (intR .i64) x6, ownR 63 none 0 T_api_File.rep ([] : List T_api_File), diskO 61 68 5 F17_0 b17_0 z95] := hm21.optSome 4 rfl e95
        refine Rn.say (t := 44) (.pointer (some ⟨b17_0, 0, none⟩)) rfl (by rw [e95]; rfl) ?_
        obtain ⟨p94, e94, hM⟩ := bindE hM
        have hm97 := hm96.dup 0 rfl (fun _ h => h)
        have hm99 : Hp Z0 No w w17 ([slR A0 c0 byteR x0, slR A1 c1 byteR x1, slR A6 c6 (intR .i64) x6, ownR 63 none 0 T_api_File.rep ([] : List T_api_File)] ++ [diskO 61 68 5 F17_0 b17_0 z95, slR A0 c0 byteR x0]) := hm97.pick [0, 1, 2, 3, 4, 5] rfl (by decide)
        refine Rn.cl ck7 rfl rfl rfl rfl (m_snap_Save_sim (Z0 := _) _ F17_0 b17_0 z95 ([115] : List UInt8) A0 c0 x0 hm99.lend e94) ?_
        rintro _ w94 ⟨F94_p0, rfl, hq94⟩
        refine ⟨_, rfl, ?_⟩
        have hm101 : Hp Z0 No w w94 [slR A0 c0 byteR x0, slR A1 c1 byteR x1, slR A6 c6 (intR .i64) x6, ownR 63 none 0 T_api_File.rep ([] : List T_api_File), diskO 61 68 5 F94_p0 b17_0 p94.2] := hm99.callAZ hq94
        refine Rn.v rfl rfl rfl rfl (V.neq rfl rfl) (Rn.v rfl rfl rfl rfl (V.pkF rfl rfl) ?_)
        refine Rn.say (t := 15) (.pointer (some ⟨b17_0, 0, none⟩)) rfl (by rw [e95]; rfl) ?_
        have hm102 := hm101.toSome (R := (fun z => diskO 61 68 5 F94_p0 b17_0 z)) 4 rfl
        have hm103 : Hp Z0 No w w94 [slR A0 c0 byteR x0, slR A1 c1 byteR x1, slR A6 c6 (intR .i64) x6, ownR 63 none 0 T_api_File.rep ([] : List T_api_File), optR (some p94.2) (fun z => diskO 61 68 5 F94_p0 b17_0 z)] := hm102
        exact hk1 ((decide (p94.1 ≠ 0)), (some p94.2), F94_p0) _ _ (Sub.cons rfl (Sub.cons rfl (Sub.cons rfl (Sub.cons rfl (Sub.cons rfl (Sub.cons rfl (Sub.cons rfl (Sub.cons rfl (Sub.cons rfl (Sub.nil _)))))))))) (hm103.pick [0, 1, 2, 3, 4] rfl (by decide)) hM

end Go.Proofs.Ytknenggmdnpimaa
