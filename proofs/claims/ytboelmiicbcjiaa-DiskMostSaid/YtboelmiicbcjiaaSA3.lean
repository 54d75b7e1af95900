/-
  The calls of functions of the program answer as their plain forms say, part 3. Printed by a program.
-/
import Derived.Test.YtboelmiicbcjiaaRows
import Derived.Test.YtboelmiicbcjiaaSA2
import Derived.Test.YtboelmiicbcjiaaK1
import Derived.Test.YtboelmiicbcjiaaWv
import Derived.Test.YtboelmiicbcjiaaIt
namespace Go.Proofs.Ytboelmiicbcjiaa
open Go Go.RowKit Go.Wk
set_option maxRecDepth 20000 in
theorem m_limnographlaw18_DiskSure_sim {Z0 : Nat → Prop} (w : World) (A0 : Option Addr) (c0 : Nat) (x0 : (List UInt8)) (A1 : Option Addr) (c1 : Nat) (x1 : (List UInt8)) (A2 : Option Addr) (c2 : Nat) (x2 : (List T_limnographlaw18_Act)) (A3 : Option Addr) (c3 : Nat) (x3 : (List Int)) {r : Bool} (f0 : (slR A0 c0 byteR x0).H Z0 w) (f1 : (slR A1 c1 byteR x1).H Z0 w) (f2 : (slR A2 c2 T_limnographlaw18_Act.rep x2).H Z0 w) (f3 : (slR A3 c3 (intR .i64) x3).H Z0 w) (hM : m_limnographlaw18_DiskSure x0 x1 x2 x3 = some r) :
    Calls Try.prog 4 #[.slice A0 (x0).length c0, .slice A1 (x1).length c1, .slice A2 (x2).length c2, .slice A3 (x3).length c3] w fun x w' => x = .returned (.bool (r)) ∧ Hp Z0 No w w' [] := by
  have hm0 := Hp.nil Z0 No w
  have hc0 := Calm.nil
  have hm5 := hm0.know (slR A0 c0 byteR x0) (fun _ h => h) (hm0.in0 hc0 f0)
  replace hc0 := hc0.snoc (r := slR A0 c0 byteR x0) (fun _ h => h)
  have hm6 := hm5.know (slR A1 c1 byteR x1) (fun _ h => h) (hm5.in0 hc0 f1)
  replace hc0 := hc0.snoc (r := slR A1 c1 byteR x1) (fun _ h => h)
  have hm7 := hm6.know (slR A2 c2 T_limnographlaw18_Act.rep x2) (fun _ h => h) (hm6.in0 hc0 f2)
  replace hc0 := hc0.snoc (r := slR A2 c2 T_limnographlaw18_Act.rep x2) (fun _ h => h)
  have hm8 := hm7.know (slR A3 c3 (intR .i64) x3) (fun _ h => h) (hm7.in0 hc0 f3)
  replace hc0 := hc0.snoc (r := slR A3 c3 (intR .i64) x3) (fun _ h => h)
  refine Rn.enter Try.func4 rfl rfl (Nat.le_of_ble_eq_true rfl) ?_
  refine Rn.seq (Rn.reg (Rn.v rfl rfl rfl rfl (V.as rfl) (Rn.regEnd (Rn.seq (Rn.seq (Rn.reg ?_))))))
  obtain ⟨p9, e9, hM⟩ := bindE hM
  refine Rn.cl ck6 rfl rfl rfl rfl (m_limnographlaw18_awake_sim (Z0 := All) _   e9) ?_
  rintro _ w9 ⟨rfl, hq9⟩
  refine ⟨_, rfl, ?_⟩
  have hm10 := hm8.call0 hq9
  refine Rn.v rfl rfl rfl rfl (V.notB rfl) (Rn.regEnd ?_)
  refine Rn.condS rfl (fun h11 => ?_) (fun h11 => ?_)
  · replace hM := iteT h11 hM
    refine Rn.seq (Rn.reg (Rn.v rfl rfl rfl rfl (V.as rfl) (Rn.regEnd ?_)))
    refine Rn.retG1 Try.func4 rfl (rvT rfl) ?_
    obtain rfl := someE hM
    exact ⟨rfl, hm10.pick [] rfl (by decide)⟩
  · replace hM := iteF (by rw [h11]; exact Bool.false_ne_true) hM
    refine Rn.skip (Rn.seq (Rn.seq (Rn.reg (Rn.v rfl rfl rfl rfl (V.mv rfl) (Rn.v rfl rfl rfl rfl (V.lenV Try.underlying24 rfl) (Rn.v rfl rfl rfl rfl (V.gtr rfl rfl) (Rn.v rfl rfl rfl rfl (V.mv rfl) ?_)))))))
    refine Rn.cutR [8, 9, 10, 11, 12] [(0, .slice A0 (x0).length c0), (1, .slice A1 (x1).length c1), (2, .slice A2 (x2).length c2), (3, .slice A3 (x3).length c3), (28, .bool (decide (((x0.length : Int) > 1000) ∨ ((x1.length : Int) > 1000))))] (fun hk12 => ?_) ?_
    · refine Rn.partD (t := 24) rfl (fun h13 => ?_) (fun h13 => ?_)
      · refine Rn.no rfl rfl rfl rfl (Rn.no rfl rfl rfl rfl (Rn.no rfl rfl rfl rfl (Rn.v rfl rfl rfl rfl (V.pkT rfl rfl) ?_)))
        refine hk12 _ ?_
        exact Sub.cons rfl (Sub.cons rfl (Sub.cons rfl (Sub.cons rfl (Sub.cons (lkv _ rfl (by first | exact andT h13 | exact andF h13 | exact orT h13 | exact orF h13 | exact nandF h13 | exact nandT h13 | exact norT h13 | exact norF h13 | (simp [h13]; done) | grind)) (Sub.nil _)))))
      · refine Rn.v rfl rfl rfl rfl (V.mv rfl) (Rn.v rfl rfl rfl rfl (V.lenV Try.underlying24 rfl) (Rn.v rfl rfl rfl rfl (V.gtr rfl rfl) (Rn.v rfl rfl rfl rfl (V.pkF rfl rfl) ?_)))
        refine hk12 _ ?_
        exact Sub.cons rfl (Sub.cons rfl (Sub.cons rfl (Sub.cons rfl (Sub.cons (lkv _ rfl (by first | exact andT h13 | exact andF h13 | exact orT h13 | exact orF h13 | exact nandF h13 | exact nandT h13 | exact norT h13 | exact norF h13 | (simp [h13]; done) | grind)) (Sub.nil _)))))
    refine Rn.v rfl rfl rfl rfl (V.mv rfl) ?_
    obtain ⟨j1, hj1, hM⟩ := jnE hM
    refine Rn.joinR (r := r) (G := Bool) [] (fun g => [(0, .slice A0 (x0).length c0), (1, .slice A1 (x1).length c1), (2, .slice A2 (x2).length c2), (3, .slice A3 (x3).length c3), (33, .bool (g))]) (fun g w' => Hp Z0 No w w' [slR A0 c0 byteR x0, slR A1 c1 byteR x1, slR A2 c2 T_limnographlaw18_Act.rep x2, slR A3 c3 (intR .i64) x3]) (fun g => j1 g) ?_ ?_
    · subst hj1
      clear hM
      rintro y14 w15 hm15 hM
      replace hm15 : Hp Z0 No w w15 [slR A0 c0 byteR x0, slR A1 c1 byteR x1, slR A2 c2 T_limnographlaw18_Act.rep x2, slR A3 c3 (intR .i64) x3] := hm15
      show Rn _ _ _ _ _ [(0, .slice A0 (x0).length c0), (1, .slice A1 (x1).length c1), (2, .slice A2 (x2).length c2), (3, .slice A3 (x3).length c3), (33, .bool (y14))] _
      try dsimp only at hM
      refine Rn.regEnd ?_
      refine Rn.condS rfl (fun h16 => ?_) (fun h16 => ?_)
      · replace hM := iteT h16 hM
        refine Rn.seq (Rn.reg (Rn.v rfl rfl rfl rfl (V.as rfl) (Rn.regEnd ?_)))
        refine Rn.retG1 Try.func4 rfl (rvT rfl) ?_
        obtain rfl := someE hM
        exact ⟨rfl, hm15.pick [] rfl (by decide)⟩
      · replace hM := iteF (by rw [h16]; exact Bool.false_ne_true) hM
        refine Rn.skip (Rn.seq (Rn.reg ?_))
        have hm18 := hm15.addNil 26 T_api_File.rep
        obtain ⟨p17, e17, hM⟩ := bindE hM
        refine Rn.cl ck7 rfl rfl rfl rfl (m_disk_New_sim (Z0 := All) _ none 0 ([] : List T_api_File) 1048576 (own_slR (hm18.get 4 rfl)) e17) ?_
        rintro _ w17 ⟨F17_0, b17_0, rfl, hq17⟩
        refine ⟨_, rfl, ?_⟩
        have hm21 : Hp Z0 No w w17 [slR A0 c0 byteR x0, slR A1 c1 byteR x1, slR A2 c2 T_limnographlaw18_Act.rep x2, slR A3 c3 (intR .i64) x3, ownR 26 none 0 T_api_File.rep ([] : List T_api_File), optR p17 (fun z => diskO 59 64 5 F17_0 b17_0 z)] := hm18.callF (flC (optR_flat fun _ => diskO_flat _ _ _ _ _ _) fl0) hq17
        refine Rn.v rfl rfl rfl rfl (V.as rfl) (Rn.regEnd (Rn.seq (Rn.seq (Rn.reg (Rn.v rfl rfl rfl rfl (V.mv rfl) (Rn.v rfl rfl rfl rfl (V.eqlO Try.underlying27 rfl rfl) (Rn.v rfl rfl rfl rfl (V.mv rfl) ?_)))))))
        obtain ⟨j2, hj2, hM⟩ := jnE hM
        refine Rn.joinR (r := r) (G := Bool × (Option PD) × (Nat → Prop)) [7, 8, 9, 10, 11, 12, 13, 14, 15, 16, 17, 18, 19, 20, 21, 22, 23] (fun g => [(0, .slice A0 (x0).length c0), (1, .slice A1 (x1).length c1), (2, .slice A2 (x2).length c2), (3, .slice A3 (x3).length c3), (9, .pointer (optP b17_0 (g.2.1))), (41, .bool ((g.1)))]) (fun g w' => Hp Z0 No w w' [slR A0 c0 byteR x0, slR A1 c1 byteR x1, slR A2 c2 T_limnographlaw18_Act.rep x2, slR A3 c3 (intR .i64) x3, ownR 26 none 0 T_api_File.rep ([] : List T_api_File), optR (g.2.1) (fun z => diskO 59 64 5 (g.2.2) b17_0 z)]) (fun g => j2 g.1 g.2.1) ?_ ?_
        · subst hj2
          clear hM
          rintro ⟨y22, y23, F23⟩ w24 hm24 hM
          replace hm24 : Hp Z0 No w w24 [slR A0 c0 byteR x0, slR A1 c1 byteR x1, slR A2 c2 T_limnographlaw18_Act.rep x2, slR A3 c3 (intR .i64) x3, ownR 26 none 0 T_api_File.rep ([] : List T_api_File), optR y23 (fun z => diskO 59 64 5 F23 b17_0 z)] := hm24
          show Rn _ _ _ _ _ [(0, .slice A0 (x0).length c0), (1, .slice A1 (x1).length c1), (2, .slice A2 (x2).length c2), (3, .slice A3 (x3).length c3), (9, .pointer (optP b17_0 y23)), (41, .bool (y22))] _
          try dsimp only at hM
          refine Rn.v rfl rfl rfl rfl (V.mv rfl) ?_
          obtain ⟨j3, hj3, hM⟩ := jnE hM
          refine Rn.joinR (r := r) (G := Bool × (Option PD) × (Nat → Prop)) [13, 14, 15, 16, 17, 18, 19, 20, 21, 22, 23] (fun g => [(0, .slice A0 (x0).length c0), (1, .slice A1 (x1).length c1), (2, .slice A2 (x2).length c2), (3, .slice A3 (x3).length c3), (9, .pointer (optP b17_0 (g.2.1))), (47, .bool ((g.1)))]) (fun g w' => Hp Z0 No w w' [slR A0 c0 byteR x0, slR A1 c1 byteR x1, slR A2 c2 T_limnographlaw18_Act.rep x2, slR A3 c3 (intR .i64) x3, ownR 26 none 0 T_api_File.rep ([] : List T_api_File), optR (g.2.1) (fun z => diskO 59 64 5 (g.2.2) b17_0 z)]) (fun g => j3 g.1 g.2.1) ?_ ?_
          · subst hj3
            clear hM
            rintro ⟨y25, y26, F26⟩ w27 hm27 hM
            replace hm27 : Hp Z0 No w w27 [slR A0 c0 byteR x0, slR A1 c1 byteR x1, slR A2 c2 T_limnographlaw18_Act.rep x2, slR A3 c3 (intR .i64) x3, ownR 26 none 0 T_api_File.rep ([] : List T_api_File), optR y26 (fun z => diskO 59 64 5 F26 b17_0 z)] := hm27
            show Rn _ _ _ _ _ [(0, .slice A0 (x0).length c0), (1, .slice A1 (x1).length c1), (2, .slice A2 (x2).length c2), (3, .slice A3 (x3).length c3), (9, .pointer (optP b17_0 y26)), (47, .bool (y25))] _
            try dsimp only at hM
            refine Rn.v rfl rfl rfl rfl (V.mv rfl) ?_
            obtain ⟨j4, hj4, hM⟩ := jnE hM
            refine Rn.joinR (r := r) (G := Bool × (Option PD) × (Nat → Prop)) [18, 19, 20, 21, 22, 23] (fun g => [(0, .slice A0 (x0).length c0), (1, .slice A1 (x1).length c1), (2, .slice A2 (x2).length c2), (3, .slice A3 (x3).length c3), (9, .pointer (optP b17_0 (g.2.1))), (52, .bool ((g.1)))]) (fun g w' => Hp Z0 No w w' [slR A0 c0 byteR x0, slR A1 c1 byteR x1, slR A2 c2 T_limnographlaw18_Act.rep x2, slR A3 c3 (intR .i64) x3, ownR 26 none 0 T_api_File.rep ([] : List T_api_File), optR (g.2.1) (fun z => diskO 59 64 5 (g.2.2) b17_0 z)]) (fun g => j4 g.1 g.2.1) ?_ ?_
            · subst hj4
              clear hM
              rintro ⟨y28, y29, F29⟩ w30 hm30 hM
              replace hm30 : Hp Z0 No w w30 [slR A0 c0 byteR x0, slR A1 c1 byteR x1, slR A2 c2 T_limnographlaw18_Act.rep x2, slR A3 c3 (intR .i64) x3, ownR 26 none 0 T_api_File.rep ([] : List T_api_File), optR y29 (fun z => diskO 59 64 5 F29 b17_0 z)] := hm30
              show Rn _ _ _ _ _ [(0, .slice A0 (x0).length c0), (1, .slice A1 (x1).length c1), (2, .slice A2 (x2).length c2), (3, .slice A3 (x3).length c3), (9, .pointer (optP b17_0 y29)), (52, .bool (y28))] _
              try dsimp only at hM
              refine Rn.v rfl rfl rfl rfl (V.mv rfl) ?_
              obtain ⟨j5, hj5, hM⟩ := jnE hM
              refine Rn.joinR (r := r) (G := Bool × (Option PD) × (Nat → Prop)) [] (fun g => [(0, .slice A0 (x0).length c0), (1, .slice A1 (x1).length c1), (2, .slice A2 (x2).length c2), (3, .slice A3 (x3).length c3), (9, .pointer (optP b17_0 (g.2.1))), (58, .bool ((g.1)))]) (fun g w' => Hp Z0 No w w' [slR A0 c0 byteR x0, slR A1 c1 byteR x1, slR A2 c2 T_limnographlaw18_Act.rep x2, slR A3 c3 (intR .i64) x3, ownR 26 none 0 T_api_File.rep ([] : List T_api_File), optR (g.2.1) (fun z => diskO 59 64 5 (g.2.2) b17_0 z)]) (fun g => j5 g.1 g.2.1) ?_ ?_
              · subst hj5
                clear hM
                rintro ⟨y31, y32, F32⟩ w33 hm33 hM
                replace hm33 : Hp Z0 No w w33 [slR A0 c0 byteR x0, slR A1 c1 byteR x1, slR A2 c2 T_limnographlaw18_Act.rep x2, slR A3 c3 (intR .i64) x3, ownR 26 none 0 T_api_File.rep ([] : List T_api_File), optR y32 (fun z => diskO 59 64 5 F32 b17_0 z)] := hm33
                show Rn _ _ _ _ _ [(0, .slice A0 (x0).length c0), (1, .slice A1 (x1).length c1), (2, .slice A2 (x2).length c2), (3, .slice A3 (x3).length c3), (9, .pointer (optP b17_0 y32)), (58, .bool (y31))] _
                try dsimp only at hM
                refine Rn.regEnd ?_
                refine Rn.condS rfl (fun h34 => ?_) (fun h34 => ?_)
                · replace hM := iteT h34 hM
                  refine Rn.seq (Rn.reg (Rn.v rfl rfl rfl rfl (V.as rfl) (Rn.regEnd ?_)))
                  refine Rn.retG1 Try.func4 rfl (rvT rfl) ?_
                  obtain rfl := someE hM
                  exact ⟨rfl, hm33.pick [] rfl (by decide)⟩
                · replace hM := iteF (by rw [h34]; exact Bool.false_ne_true) hM
                  refine Rn.skip (Rn.seq (Rn.reg ?_))
                  have hm36 := hm33.addNil 26 T_api_File.rep
                  have hm39 := hm36.freeze 6 rfl
                  obtain ⟨p35, e35, hM⟩ := bindE hM
                  refine Rn.cl ck13 rfl rfl rfl rfl (m_limnographref18_New_sim (Z0 := Zo Z0 No w [slR A0 c0 byteR x0, slR A1 c1 byteR x1, slR A2 c2 T_limnographlaw18_Act.rep x2, slR A3 c3 (intR .i64) x3, ownR 26 none 0 T_api_File.rep ([] : List T_api_File), optR y32 (fun z => diskO 59 64 5 F32 b17_0 z), slR none 0 T_api_File.rep ([] : List T_api_File)]) _ none 0 ([] : List T_api_File) 1048576 (hm39.get 6 rfl) e35) ?_
                  rintro _ w35 ⟨F35_0, b35_0, rfl, hq35⟩
                  refine ⟨_, rfl, ?_⟩
                  have hm41 : Hp Z0 No w w35 [slR A0 c0 byteR x0, slR A1 c1 byteR x1, slR A2 c2 T_limnographlaw18_Act.rep x2, slR A3 c3 (intR .i64) x3, ownR 26 none 0 T_api_File.rep ([] : List T_api_File), optR y32 (fun z => diskO 59 64 5 F32 b17_0 z), slR none 0 T_api_File.rep ([] : List T_api_File), optR p35 (fun z => T_limnographref18_Disk.obj F35_0 b35_0 z)] := hm39.callZ hq35
                  refine Rn.v rfl rfl rfl rfl (V.as rfl) (Rn.regEnd (Rn.seq (Rn.seq (Rn.reg (Rn.v rfl rfl rfl rfl (V.as rfl) (Rn.regEnd ?_))))))
                  obtain ⟨j6, hj6, hM⟩ := jnE hM
                  refine Rn.joinG (r := r) (G := (Option PD) × (Nat → Prop)) (fun g => [(0, .slice A0 (x0).length c0), (1, .slice A1 (x1).length c1), (3, .slice A3 (x3).length c3), (9, .pointer (optP b17_0 (g.1)))]) (fun g w' => Hp Z0 No w w' [slR A0 c0 byteR x0, slR A1 c1 byteR x1, slR A2 c2 T_limnographlaw18_Act.rep x2, slR A3 c3 (intR .i64) x3, ownR 26 none 0 T_api_File.rep ([] : List T_api_File), slR none 0 T_api_File.rep ([] : List T_api_File), optR (g.1) (fun z => diskO 59 64 5 (g.2) b17_0 z)]) (fun g => j6 g.1) ?_ ?_
                  · subst hj6
                    clear hM
                    rintro ⟨y42, F42⟩ w43 hm43 hM
                    replace hm43 : Hp Z0 No w w43 [slR A0 c0 byteR x0, slR A1 c1 byteR x1, slR A2 c2 T_limnographlaw18_Act.rep x2, slR A3 c3 (intR .i64) x3, ownR 26 none 0 T_api_File.rep ([] : List T_api_File), slR none 0 T_api_File.rep ([] : List T_api_File), optR y42 (fun z => diskO 59 64 5 F42 b17_0 z)] := hm43
                    show Rn _ _ _ _ _ [(0, .slice A0 (x0).length c0), (1, .slice A1 (x1).length c1), (3, .slice A3 (x3).length c3), (9, .pointer (optP b17_0 y42))] _
                    try dsimp only at hM
                    refine Rn.seq (Rn.reg (Rn.v rfl rfl rfl rfl (V.mv rfl) ?_))
                    obtain ⟨z45, e45, hM⟩ := bindE hM
                    have hm46 : Hp Z0 No w w43 [slR A0 c0 byteR x0, slR A1 c1 byteR x1, slR A2 c2 T_limnographlaw18_Act.rep x2, slR A3 c3 (intR .i64) x3, ownR 26 none 0 T_api_File.rep ([] : List T_api_File), slR none 0 T_api_File.rep ([] : List T_api_File), diskO 59 64 5 F42 b17_0 z45] := hm43.optSome 6 rfl e45
                    refine Rn.say (t := 87) (.pointer (some ⟨b17_0, 0, none⟩)) rfl (by rw [e45]; rfl) ?_
                    obtain ⟨p44, e44, hM⟩ := bindE hM
                    have hm47 : Hp Z0 No w w43 ([slR A0 c0 byteR x0, slR A1 c1 byteR x1, slR A2 c2 T_limnographlaw18_Act.rep x2, slR A3 c3 (intR .i64) x3, ownR 26 none 0 T_api_File.rep ([] : List T_api_File), slR none 0 T_api_File.rep ([] : List T_api_File)] ++ [diskO 59 64 5 F42 b17_0 z45]) := hm46.pick [0, 1, 2, 3, 4, 5, 6] rfl (by decide)
                    refine Rn.cl ck15 rfl rfl rfl rfl (m_disk_Disk_Crash_sim (Z0 := _) _ F42 b17_0 z45 0 hm47.lend e44) ?_
                    rintro _ w44 ⟨F44_p0, rfl, hq44⟩
                    refine ⟨_, rfl, ?_⟩
                    have hm49 : Hp Z0 No w w44 [slR A0 c0 byteR x0, slR A1 c1 byteR x1, slR A2 c2 T_limnographlaw18_Act.rep x2, slR A3 c3 (intR .i64) x3, ownR 26 none 0 T_api_File.rep ([] : List T_api_File), slR none 0 T_api_File.rep ([] : List T_api_File), diskO 59 64 5 F44_p0 b17_0 p44] := hm47.callAZ hq44
                    refine Rn.regEnd (Rn.seq (Rn.reg (Rn.v rfl rfl rfl rfl (V.mv rfl) ?_)))
                    refine Rn.say (t := 89) (.pointer (some ⟨b17_0, 0, none⟩)) rfl (by rw [e45]; rfl) ?_
                    obtain ⟨p50, e50, hM⟩ := bindE hM
                    have hm51 : Hp Z0 No w w44 ([slR A0 c0 byteR x0, slR A1 c1 byteR x1, slR A2 c2 T_limnographlaw18_Act.rep x2, slR A3 c3 (intR .i64) x3, ownR 26 none 0 T_api_File.rep ([] : List T_api_File), slR none 0 T_api_File.rep ([] : List T_api_File)] ++ [diskO 59 64 5 F44_p0 b17_0 p44]) := hm49.pick [0, 1, 2, 3, 4, 5, 6] rfl (by decide)
                    refine Rn.cl ck12 rfl rfl rfl rfl (m_disk_Disk_Sync_sim (Z0 := _) _ F44_p0 b17_0 p44 ([110, 111, 110, 101] : List UInt8) hm51.lend e50) ?_
                    rintro _ w50 ⟨F50_p0, rfl, hq50⟩
                    refine ⟨_, rfl, ?_⟩
                    have hm53 : Hp Z0 No w w50 [slR A0 c0 byteR x0, slR A1 c1 byteR x1, slR A2 c2 T_limnographlaw18_Act.rep x2, slR A3 c3 (intR .i64) x3, ownR 26 none 0 T_api_File.rep ([] : List T_api_File), slR none 0 T_api_File.rep ([] : List T_api_File), diskO 59 64 5 F50_p0 b17_0 p50.2] := hm51.callAZ hq50
                    refine Rn.regEnd (Rn.seq (Rn.seq (Rn.reg (Rn.v rfl rfl rfl rfl (V.mv rfl) ?_))))
                    refine Rn.say (t := 91) (.pointer (some ⟨b17_0, 0, none⟩)) rfl (by rw [e45]; rfl) ?_
                    obtain ⟨p54, e54, hM⟩ := bindE hM
                    refine Rn.cl ck16 rfl rfl rfl rfl (m_disk_Disk_Down_sim (Z0 := All) _ F50_p0 b17_0 p50.2 (fz_all (hm53.get 6 rfl)) e54) ?_
                    rintro _ w54 ⟨rfl, hq54⟩
                    refine ⟨_, rfl, ?_⟩
                    have hm55 := hm53.call0 hq54
                    refine Rn.v rfl rfl rfl rfl (V.notB rfl) (Rn.v rfl rfl rfl rfl (V.mv rfl) ?_)
                    obtain ⟨j7, hj7, hM⟩ := jnE hM
                    refine Rn.joinR (r := r) (G := Bool × PD × (Nat → Prop)) [] (fun g => [(0, .slice A0 (x0).length c0), (1, .slice A1 (x1).length c1), (9, .pointer (optP b17_0 y42)), (99, .bool ((g.1)))]) (fun g w' => Hp Z0 No w w' [slR A0 c0 byteR x0, slR A1 c1 byteR x1, slR A2 c2 T_limnographlaw18_Act.rep x2, slR A3 c3 (intR .i64) x3, ownR 26 none 0 T_api_File.rep ([] : List T_api_File), slR none 0 T_api_File.rep ([] : List T_api_File), diskO 59 64 5 (g.2.2) b17_0 (g.2.1)]) (fun g => j7 g.1 g.2.1) ?_ ?_
                    · subst hj7
                      clear hM
                      rintro ⟨y56, y57, F57⟩ w58 hm58 hM
                      replace hm58 : Hp Z0 No w w58 [slR A0 c0 byteR x0, slR A1 c1 byteR x1, slR A2 c2 T_limnographlaw18_Act.rep x2, slR A3 c3 (intR .i64) x3, ownR 26 none 0 T_api_File.rep ([] : List T_api_File), slR none 0 T_api_File.rep ([] : List T_api_File), diskO 59 64 5 F57 b17_0 y57] := hm58
                      show Rn _ _ _ _ _ [(0, .slice A0 (x0).length c0), (1, .slice A1 (x1).length c1), (9, .pointer (optP b17_0 y42)), (99, .bool (y56))] _
                      try dsimp only at hM
                      refine Rn.regEnd ?_
                      refine Rn.condS rfl (fun h59 => ?_) (fun h59 => ?_)
                      · replace hM := iteT h59 hM
                        refine Rn.seq (Rn.reg (Rn.v rfl rfl rfl rfl (V.as rfl) (Rn.regEnd ?_)))
                        refine Rn.retG1 Try.func4 rfl (rvT rfl) ?_
                        obtain rfl := someE hM
                        exact ⟨rfl, hm58.pick [] rfl (by decide)⟩
                      · replace hM := iteF (by rw [h59]; exact Bool.false_ne_true) hM
                        refine Rn.skip (Rn.seq (Rn.reg (Rn.v rfl rfl rfl rfl (V.mv rfl) ?_)))
                        refine Rn.say (t := 101) (.pointer (some ⟨b17_0, 0, none⟩)) rfl (by rw [e45]; rfl) ?_
                        obtain ⟨p60, e60, hM⟩ := bindE hM
                        refine Rn.cl ck18 rfl rfl rfl rfl (m_disk_Disk_Read_sim (Z0 := All) _ F57 b17_0 y57 ([115] : List UInt8) (fz_all (hm58.get 6 rfl)) e60) ?_
                        rintro _ w60 ⟨A60_0_0, c60_0_0, rfl, hq60⟩
                        refine ⟨_, rfl, ?_⟩
                        have hm62 : Hp Z0 No w w60 [slR A0 c0 byteR x0, slR A1 c1 byteR x1, slR A2 c2 T_limnographlaw18_Act.rep x2, slR A3 c3 (intR .i64) x3, ownR 26 none 0 T_api_File.rep ([] : List T_api_File), slR none 0 T_api_File.rep ([] : List T_api_File), diskO 59 64 5 F57 b17_0 y57, ownR 5 A60_0_0 c60_0_0 byteR p60.1] := hm58.callF (flC (ownR_flat byte_flat _ _ _ _) fl0) hq60
                        refine Rn.v rfl rfl rfl rfl (V.mv rfl) (Rn.v rfl rfl rfl rfl (V.ext rfl rfl) (Rn.v rfl rfl rfl rfl (V.ext rfl rfl) (Rn.v rfl rfl rfl rfl (V.as rfl) (Rn.v rfl rfl rfl rfl (V.as rfl) (Rn.regEnd (Rn.seq (Rn.reg (Rn.v rfl rfl rfl rfl (V.mv rfl) ?_))))))))
                        refine Rn.say (t := 106) (.pointer (some ⟨b17_0, 0, none⟩)) rfl (by rw [e45]; rfl) ?_
                        obtain ⟨p63, e63, hM⟩ := bindE hM
                        refine Rn.cl ck19 rfl rfl rfl rfl (m_disk_Disk_Size_sim (Z0 := All) _ F57 b17_0 y57 ([115] : List UInt8) (fz_all (hm62.get 6 rfl)) e63) ?_
                        rintro _ w63 ⟨rfl, hq63⟩
                        refine ⟨_, rfl, ?_⟩
                        have hm64 := hm62.call0 hq63
                        refine Rn.v rfl rfl rfl rfl (V.mv rfl) (Rn.v rfl rfl rfl rfl (V.ext rfl rfl) (Rn.v rfl rfl rfl rfl (V.ext rfl rfl) (Rn.v rfl rfl rfl rfl (V.ext rfl rfl) (Rn.v rfl rfl rfl rfl (V.as rfl) (Rn.v rfl rfl rfl rfl (V.as rfl) (Rn.v rfl rfl rfl rfl (V.as rfl) (Rn.regEnd (Rn.seq (Rn.reg (Rn.v rfl rfl rfl rfl (V.mv rfl) (Rn.v rfl rfl rfl rfl (V.b2s Try.underlying24 Try.underlying9 Try.underlying5 rfl rfl (hm64.get 0 rfl).2.2) (Rn.v rfl rfl rfl rfl (V.mv rfl) (Rn.v rfl rfl rfl rfl (V.b2s Try.underlying24 Try.underlying9 Try.underlying5 rfl rfl (hm64.get 1 rfl).2.2) ?_)))))))))))))
                        obtain ⟨z65, e65, hM⟩ := bindE hM
                        refine Rn.v rfl rfl rfl rfl (V.catZ rfl rfl e65) (Rn.v rfl rfl rfl rfl (V.as rfl) (Rn.regEnd (Rn.seq ?_)))
                        refine Rn.drawP rfl hm64 ?_
                        intro w66 hm66
                        refine RH.takeP 0 (by kernel_rfl) rfl rfl rfl rfl (V.mv rfl) ?_
                        refine RH.takeP 1 (by kernel_rfl) rfl rfl rfl rfl (V.eql rfl rfl) ?_
                        refine RH.takeP 2 (by kernel_rfl) rfl rfl rfl rfl (V.mv rfl) ?_
                        refine RH.partD (t := 118) rfl (fun h67 => ?_) (fun h67 => ?_)
                        · replace hM := iteT h67 hM
                          refine RH.takeP 3 (by kernel_rfl) rfl rfl rfl rfl (V.mv rfl) ?_
                          refine RH.takeP 4 (by kernel_rfl) rfl rfl rfl rfl (V.mv rfl) ?_
                          refine RH.takeP 5 (by kernel_rfl) rfl rfl rfl rfl (V.lenV Try.underlying24 rfl) ?_
                          refine RH.takeP 6 (by kernel_rfl) rfl rfl rfl rfl (V.eql rfl rfl) ?_
                          refine RH.takeP 7 (by kernel_rfl) rfl rfl rfl rfl (V.pkT rfl rfl) ?_
                          refine RH.takeP 8 (by kernel_rfl) rfl rfl rfl rfl (V.mv rfl) ?_
                          refine RH.partD (t := 124) rfl (fun h68 => ?_) (fun h68 => ?_)
                          · replace hM := iteT h68 hM
                            refine RH.takeP 9 (by kernel_rfl) rfl rfl rfl rfl (V.mv rfl) ?_
                            refine RH.takeP 10 (by kernel_rfl) rfl rfl rfl rfl (V.mv rfl) ?_
                            refine RH.takeP 11 (by kernel_rfl) rfl rfl rfl rfl (V.eql rfl rfl) ?_
                            refine RH.takeP 12 (by kernel_rfl) rfl rfl rfl rfl (V.pkT rfl rfl) ?_
                            refine RH.takeP 13 (by kernel_rfl) rfl rfl rfl rfl (V.mv rfl) ?_
                            refine RH.partD (t := 129) rfl (fun h69 => ?_) (fun h69 => ?_)
                            · replace hM := iteT h69 hM
                              refine RH.takeP 14 (by kernel_rfl) rfl rfl rfl rfl (V.mv rfl) ?_
                              refine RH.takeP 15 (by kernel_rfl) rfl rfl rfl rfl (V.lenV Try.underlying24 rfl) ?_
                              refine RH.takeP 16 (by kernel_rfl) rfl rfl rfl rfl (V.mv rfl) ?_
                              refine RH.takeP 17 (by kernel_rfl) rfl rfl rfl rfl (V.lenV Try.underlying24 rfl) ?_
                              refine RH.takeP 18 (by kernel_rfl) rfl rfl rfl rfl (V.geq rfl rfl) ?_
                              refine RH.takeP 19 (by kernel_rfl) rfl rfl rfl rfl (V.pkT rfl rfl) ?_
                              refine RH.takeP 20 (by kernel_rfl) rfl rfl rfl rfl (V.mv rfl) ?_
                              refine RH.partD (t := 136) rfl (fun h70 => ?_) (fun h70 => ?_)
                              · replace hM := iteT h70 hM
                                refine RH.takeP 21 (by kernel_rfl) rfl rfl rfl rfl (V.mv rfl) ?_
                                refine RH.takeP 22 (by kernel_rfl) rfl rfl rfl rfl (V.lenV Try.underlying24 rfl) ?_
                                refine RH.takeP 23 (by kernel_rfl) rfl rfl rfl rfl (V.mv rfl) ?_
                                refine RH.takeP 24 (by kernel_rfl) rfl rfl rfl rfl (V.lenS Try.underlying9 rfl) ?_
                                refine RH.takeP 25 (by kernel_rfl) rfl rfl rfl rfl (V.leq rfl rfl) ?_
                                refine RH.takeP 26 (by kernel_rfl) rfl rfl rfl rfl (V.pkT rfl rfl) ?_
                                refine RH.takeP 27 (by kernel_rfl) rfl rfl rfl rfl (V.mv rfl) ?_
                                refine RH.partD (t := 143) rfl (fun h71 => ?_) (fun h71 => ?_)
                                · replace hM := iteT h71 hM
                                  refine RH.takeP 28 (by kernel_rfl) rfl rfl rfl rfl (V.mv rfl) ?_
                                  refine RH.takeP 29 (by kernel_rfl) rfl rfl rfl rfl (V.b2s Try.underlying24 Try.underlying9 Try.underlying5 rfl rfl (Own.sl (hm66.get 7 rfl))) ?_
                                  refine RH.takeP 30 (by kernel_rfl) rfl rfl rfl rfl (V.mv rfl) ?_
                                  refine RH.takeP 31 (by kernel_rfl) rfl rfl rfl rfl (V.mv rfl) ?_
                                  refine RH.takeP 32 (by kernel_rfl) rfl rfl rfl rfl (V.lenV Try.underlying24 rfl) ?_
                                  obtain ⟨z72, e72, hM⟩ := bindE hM
                                  refine RH.takeP 33 (by kernel_rfl) rfl rfl rfl rfl (V.cutSZ Try.underlying9 rfl e72 rfl rfl) ?_
                                  refine RH.takeP 34 (by kernel_rfl) rfl rfl rfl rfl (V.eqlS rfl rfl) ?_
                                  refine RH.takeP 35 (by kernel_rfl) rfl rfl rfl rfl (V.pkT rfl rfl) ?_
                                  refine RH.takeP 36 (by kernel_rfl) rfl rfl rfl rfl (V.as rfl) ?_
                                  refine RH.doneP (by kernel_rfl) ?_
                                  refine Rn.retG1 Try.func4 rfl (rvT rfl) ?_
                                  obtain rfl := someE hM
                                  exact ⟨rfl, hm66.pick [] rfl (by decide)⟩
                                · replace hM := iteF h71 hM
                                  refine RH.no 28 (by kernel_rfl) rfl rfl rfl rfl ?_
                                  refine RH.no 29 (by kernel_rfl) rfl rfl rfl rfl ?_
                                  refine RH.no 30 (by kernel_rfl) rfl rfl rfl rfl ?_
                                  refine RH.no 31 (by kernel_rfl) rfl rfl rfl rfl ?_
                                  refine RH.no 32 (by kernel_rfl) rfl rfl rfl rfl ?_
                                  refine RH.no 33 (by kernel_rfl) rfl rfl rfl rfl ?_
                                  refine RH.no 34 (by kernel_rfl) rfl rfl rfl rfl ?_
                                  refine RH.takeP 35 (by kernel_rfl) rfl rfl rfl rfl (V.pkF rfl rfl) ?_
                                  refine RH.takeP 36 (by kernel_rfl) rfl rfl rfl rfl (V.as rfl) ?_
                                  refine RH.doneP (by kernel_rfl) ?_
                                  refine Rn.retG1 Try.func4 rfl (rvT rfl) ?_
                                  obtain rfl := someE hM
                                  exact ⟨rfl, hm66.pick [] rfl (by decide)⟩
                              · replace hM := iteF h70 hM
                                refine RH.no 21 (by kernel_rfl) rfl rfl rfl rfl ?_
                                refine RH.no 22 (by kernel_rfl) rfl rfl rfl rfl ?_
                                refine RH.no 23 (by kernel_rfl) rfl rfl rfl rfl ?_
                                refine RH.no 24 (by kernel_rfl) rfl rfl rfl rfl ?_
                                refine RH.no 25 (by kernel_rfl) rfl rfl rfl rfl ?_
                                refine RH.takeP 26 (by kernel_rfl) rfl rfl rfl rfl (V.pkF rfl rfl) ?_
                                refine RH.takeP 27 (by kernel_rfl) rfl rfl rfl rfl (V.mv rfl) ?_
                                refine RH.no 28 (by kernel_rfl) rfl rfl rfl rfl ?_
                                refine RH.no 29 (by kernel_rfl) rfl rfl rfl rfl ?_
                                refine RH.no 30 (by kernel_rfl) rfl rfl rfl rfl ?_
                                refine RH.no 31 (by kernel_rfl) rfl rfl rfl rfl ?_
                                refine RH.no 32 (by kernel_rfl) rfl rfl rfl rfl ?_
                                refine RH.no 33 (by kernel_rfl) rfl rfl rfl rfl ?_
                                refine RH.no 34 (by kernel_rfl) rfl rfl rfl rfl ?_
                                refine RH.takeP 35 (by kernel_rfl) rfl rfl rfl rfl (V.pkF rfl rfl) ?_
                                refine RH.takeP 36 (by kernel_rfl) rfl rfl rfl rfl (V.as rfl) ?_
                                refine RH.doneP (by kernel_rfl) ?_
                                refine Rn.retG1 Try.func4 rfl (rvT rfl) ?_
                                obtain rfl := someE hM
                                exact ⟨rfl, hm66.pick [] rfl (by decide)⟩
                            · replace hM := iteF h69 hM
                              refine RH.no 14 (by kernel_rfl) rfl rfl rfl rfl ?_
                              refine RH.no 15 (by kernel_rfl) rfl rfl rfl rfl ?_
                              refine RH.no 16 (by kernel_rfl) rfl rfl rfl rfl ?_
                              refine RH.no 17 (by kernel_rfl) rfl rfl rfl rfl ?_
                              refine RH.no 18 (by kernel_rfl) rfl rfl rfl rfl ?_
                              refine RH.takeP 19 (by kernel_rfl) rfl rfl rfl rfl (V.pkF rfl rfl) ?_
                              refine RH.takeP 20 (by kernel_rfl) rfl rfl rfl rfl (V.mv rfl) ?_
                              refine RH.no 21 (by kernel_rfl) rfl rfl rfl rfl ?_
                              refine RH.no 22 (by kernel_rfl) rfl rfl rfl rfl ?_
                              refine RH.no 23 (by kernel_rfl) rfl rfl rfl rfl ?_
                              refine RH.no 24 (by kernel_rfl) rfl rfl rfl rfl ?_
                              refine RH.no 25 (by kernel_rfl) rfl rfl rfl rfl ?_
                              refine RH.takeP 26 (by kernel_rfl) rfl rfl rfl rfl (V.pkF rfl rfl) ?_
                              refine RH.takeP 27 (by kernel_rfl) rfl rfl rfl rfl (V.mv rfl) ?_
                              refine RH.no 28 (by kernel_rfl) rfl rfl rfl rfl ?_
                              refine RH.no 29 (by kernel_rfl) rfl rfl rfl rfl ?_
                              refine RH.no 30 (by kernel_rfl) rfl rfl rfl rfl ?_
                              refine RH.no 31 (by kernel_rfl) rfl rfl rfl rfl ?_
                              refine RH.no 32 (by kernel_rfl) rfl rfl rfl rfl ?_
                              refine RH.no 33 (by kernel_rfl) rfl rfl rfl rfl ?_
                              refine RH.no 34 (by kernel_rfl) rfl rfl rfl rfl ?_
                              refine RH.takeP 35 (by kernel_rfl) rfl rfl rfl rfl (V.pkF rfl rfl) ?_
                              refine RH.takeP 36 (by kernel_rfl) rfl rfl rfl rfl (V.as rfl) ?_
                              refine RH.doneP (by kernel_rfl) ?_
                              refine Rn.retG1 Try.func4 rfl (rvT rfl) ?_
                              obtain rfl := someE hM
                              exact ⟨rfl, hm66.pick [] rfl (by decide)⟩
                          · replace hM := iteF h68 hM
                            refine RH.no 9 (by kernel_rfl) rfl rfl rfl rfl ?_
                            refine RH.no 10 (by kernel_rfl) rfl rfl rfl rfl ?_
                            refine RH.no 11 (by kernel_rfl) rfl rfl rfl rfl ?_
                            refine RH.takeP 12 (by kernel_rfl) rfl rfl rfl rfl (V.pkF rfl rfl) ?_
                            refine RH.takeP 13 (by kernel_rfl) rfl rfl rfl rfl (V.mv rfl) ?_
                            refine RH.no 14 (by kernel_rfl) rfl rfl rfl rfl ?_
                            refine RH.no 15 (by kernel_rfl) rfl rfl rfl rfl ?_
                            refine RH.no 16 (by kernel_rfl) rfl rfl rfl rfl ?_
                            refine RH.no 17 (by kernel_rfl) rfl rfl rfl rfl ?_
                            refine RH.no 18 (by kernel_rfl) rfl rfl rfl rfl ?_
                            refine RH.takeP 19 (by kernel_rfl) rfl rfl rfl rfl (V.pkF rfl rfl) ?_
                            refine RH.takeP 20 (by kernel_rfl) rfl rfl rfl rfl (V.mv rfl) ?_
                            refine RH.no 21 (by kernel_rfl) rfl rfl rfl rfl ?_
                            refine RH.no 22 (by kernel_rfl) rfl rfl rfl rfl ?_
                            refine RH.no 23 (by kernel_rfl) rfl rfl rfl rfl ?_
                            refine RH.no 24 (by kernel_rfl) rfl rfl rfl rfl ?_
                            refine RH.no 25 (by kernel_rfl) rfl rfl rfl rfl ?_
                            refine RH.takeP 26 (by kernel_rfl) rfl rfl rfl rfl (V.pkF rfl rfl) ?_
                            refine RH.takeP 27 (by kernel_rfl) rfl rfl rfl rfl (V.mv rfl) ?_
                            refine RH.no 28 (by kernel_rfl) rfl rfl rfl rfl ?_
                            refine RH.no 29 (by kernel_rfl) rfl rfl rfl rfl ?_
                            refine RH.no 30 (by kernel_rfl) rfl rfl rfl rfl ?_
                            refine RH.no 31 (by kernel_rfl) rfl rfl rfl rfl ?_
                            refine RH.no 32 (by kernel_rfl) rfl rfl rfl rfl ?_
                            refine RH.no 33 (by kernel_rfl) rfl rfl rfl rfl ?_
                            refine RH.no 34 (by kernel_rfl) rfl rfl rfl rfl ?_
                            refine RH.takeP 35 (by kernel_rfl) rfl rfl rfl rfl (V.pkF rfl rfl) ?_
                            refine RH.takeP 36 (by kernel_rfl) rfl rfl rfl rfl (V.as rfl) ?_
                            refine RH.doneP (by kernel_rfl) ?_
                            refine Rn.retG1 Try.func4 rfl (rvT rfl) ?_
                            obtain rfl := someE hM
                            exact ⟨rfl, hm66.pick [] rfl (by decide)⟩
                        · replace hM := iteF h67 hM
                          refine RH.no 3 (by kernel_rfl) rfl rfl rfl rfl ?_
                          refine RH.no 4 (by kernel_rfl) rfl rfl rfl rfl ?_
                          refine RH.no 5 (by kernel_rfl) rfl rfl rfl rfl ?_
                          refine RH.no 6 (by kernel_rfl) rfl rfl rfl rfl ?_
                          refine RH.takeP 7 (by kernel_rfl) rfl rfl rfl rfl (V.pkF rfl rfl) ?_
                          refine RH.takeP 8 (by kernel_rfl) rfl rfl rfl rfl (V.mv rfl) ?_
                          refine RH.no 9 (by kernel_rfl) rfl rfl rfl rfl ?_
                          refine RH.no 10 (by kernel_rfl) rfl rfl rfl rfl ?_
                          refine RH.no 11 (by kernel_rfl) rfl rfl rfl rfl ?_
                          refine RH.takeP 12 (by kernel_rfl) rfl rfl rfl rfl (V.pkF rfl rfl) ?_
                          refine RH.takeP 13 (by kernel_rfl) rfl rfl rfl rfl (V.mv rfl) ?_
                          refine RH.no 14 (by kernel_rfl) rfl rfl rfl rfl ?_
                          refine RH.no 15 (by kernel_rfl) rfl rfl rfl rfl ?_
                          refine RH.no 16 (by kernel_rfl) rfl rfl rfl rfl ?_
                          refine RH.no 17 (by kernel_rfl) rfl rfl rfl rfl ?_
                          refine RH.no 18 (by kernel_rfl) rfl rfl rfl rfl ?_
                          refine RH.takeP 19 (by kernel_rfl) rfl rfl rfl rfl (V.pkF rfl rfl) ?_
                          refine RH.takeP 20 (by kernel_rfl) rfl rfl rfl rfl (V.mv rfl) ?_
                          refine RH.no 21 (by kernel_rfl) rfl rfl rfl rfl ?_
                          refine RH.no 22 (by kernel_rfl) rfl rfl rfl rfl ?_
                          refine RH.no 23 (by kernel_rfl) rfl rfl rfl rfl ?_
                          refine RH.no 24 (by kernel_rfl) rfl rfl rfl rfl ?_
                          refine RH.no 25 (by kernel_rfl) rfl rfl rfl rfl ?_
                          refine RH.takeP 26 (by kernel_rfl) rfl rfl rfl rfl (V.pkF rfl rfl) ?_
                          refine RH.takeP 27 (by kernel_rfl) rfl rfl rfl rfl (V.mv rfl) ?_
                          refine RH.no 28 (by kernel_rfl) rfl rfl rfl rfl ?_
                          refine RH.no 29 (by kernel_rfl) rfl rfl rfl rfl ?_
                          refine RH.no 30 (by kernel_rfl) rfl rfl rfl rfl ?_
                          refine RH.no 31 (by kernel_rfl) rfl rfl rfl rfl ?_
                          refine RH.no 32 (by kernel_rfl) rfl rfl rfl rfl ?_
                          refine RH.no 33 (by kernel_rfl) rfl rfl rfl rfl ?_
                          refine RH.no 34 (by kernel_rfl) rfl rfl rfl rfl ?_
                          refine RH.takeP 35 (by kernel_rfl) rfl rfl rfl rfl (V.pkF rfl rfl) ?_
                          refine RH.takeP 36 (by kernel_rfl) rfl rfl rfl rfl (V.as rfl) ?_
                          refine RH.doneP (by kernel_rfl) ?_
                          refine Rn.retG1 Try.func4 rfl (rvT rfl) ?_
                          obtain rfl := someE hM
                          exact ⟨rfl, hm66.pick [] rfl (by decide)⟩
                    intro hk7
                    clear hj7
                    refine Rn.part (t := 94) rfl (fun h73 => ?_) (fun h73 => ?_)
                    · replace hM := iteT h73 hM
                      refine Rn.no rfl rfl rfl rfl (Rn.no rfl rfl rfl rfl (Rn.no rfl rfl rfl rfl (Rn.no rfl rfl rfl rfl (Rn.v rfl rfl rfl rfl (V.pkT rfl rfl) ?_))))
                      exact hk7 (true, p50.2, F50_p0) _ _ (Sub.cons rfl (Sub.cons rfl (Sub.cons rfl (Sub.cons rfl (Sub.nil _))))) (hm55.pick [0, 1, 2, 3, 4, 5, 6] rfl (by decide)) hM
                    · replace hM := iteF (by rw [h73]; exact Bool.false_ne_true) hM
                      refine Rn.v rfl rfl rfl rfl (V.mv rfl) (Rn.v rfl rfl rfl rfl (V.mv rfl) ?_)
                      refine Rn.say (t := 95) (.pointer (some ⟨b17_0, 0, none⟩)) rfl (by rw [e45]; rfl) ?_
                      obtain ⟨p74, e74, hM⟩ := bindE hM
                      have hm75 := hm55.dup 3 rfl (fun _ h => h)
                      have hm77 : Hp Z0 No w w54 ([slR A0 c0 byteR x0, slR A1 c1 byteR x1, slR A2 c2 T_limnographlaw18_Act.rep x2, slR A3 c3 (intR .i64) x3, ownR 26 none 0 T_api_File.rep ([] : List T_api_File), slR none 0 T_api_File.rep ([] : List T_api_File)] ++ [diskO 59 64 5 F50_p0 b17_0 p50.2, slR A3 c3 (intR .i64) x3]) := hm75.pick [0, 1, 2, 3, 4, 5, 6, 7] rfl (by decide)
                      refine Rn.cl ck17 rfl rfl rfl rfl (m_disk_Disk_Boot_sim (Z0 := _) _ F50_p0 b17_0 p50.2 A3 c3 x3 hm77.lend e74) ?_
                      rintro _ w74 ⟨F74_p0, rfl, hq74⟩
                      refine ⟨_, rfl, ?_⟩
                      have hm79 : Hp Z0 No w w74 [slR A0 c0 byteR x0, slR A1 c1 byteR x1, slR A2 c2 T_limnographlaw18_Act.rep x2, slR A3 c3 (intR .i64) x3, ownR 26 none 0 T_api_File.rep ([] : List T_api_File), slR none 0 T_api_File.rep ([] : List T_api_File), diskO 59 64 5 F74_p0 b17_0 p74.2] := hm77.callAZ hq74
                      refine Rn.v rfl rfl rfl rfl (V.neq rfl rfl) (Rn.v rfl rfl rfl rfl (V.pkF rfl rfl) ?_)
                      exact hk7 ((decide (p74.1 ≠ 0)), p74.2, F74_p0) _ _ (Sub.cons rfl (Sub.cons rfl (Sub.cons rfl (Sub.cons rfl (Sub.nil _))))) (hm79.pick [0, 1, 2, 3, 4, 5, 6] rfl (by decide)) hM
                  intro hk6
                  clear hj6
                  refine Rn.block ?_
                  refine Rn.loopF (G := Int × (Option PD) × (Option T_limnographref18_Disk) × (Nat → Prop) × (Nat → Prop)) (fun g => [(0, .slice A0 (x0).length c0), (1, .slice A1 (x1).length c1), (2, .slice A2 (x2).length c2), (3, .slice A3 (x3).length c3), (9, .pointer (optP b17_0 (g.2.1))), (10, .pointer (optP b35_0 (g.2.2.1))), (11, .int .i64 ((g.1)))]) (fun g w' => Hp Z0 No w w' [slR A0 c0 byteR x0, slR A1 c1 byteR x1, slR A2 c2 T_limnographlaw18_Act.rep x2, slR A3 c3 (intR .i64) x3, ownR 26 none 0 T_api_File.rep ([] : List T_api_File), slR none 0 T_api_File.rep ([] : List T_api_File), optR (g.2.1) (fun z => diskO 59 64 5 (g.2.2.2.1) b17_0 z), optR (g.2.2.1) (fun z => T_limnographref18_Disk.obj (g.2.2.2.2) b35_0 z)]) (fun n g => m_limnographlaw18_DiskSure_L1 x2 j6 n g.1 g.2.1 g.2.2.1) fuel (0, y32, p35, F32, F35_0) (Sub.cons rfl (Sub.cons rfl (Sub.cons rfl (Sub.cons rfl (Sub.cons rfl (Sub.cons rfl (Sub.cons rfl (Sub.nil _)))))))) (hm41.pick [0, 1, 2, 3, 4, 6, 5, 7] rfl (by decide)) hM (fun _ => rfl) ?_
                  clear hM
                  rintro m83 ⟨y80, y81, y82, F81, F82⟩ w83 hm83 hM hn83
                  replace hm83 : Hp Z0 No w w83 [slR A0 c0 byteR x0, slR A1 c1 byteR x1, slR A2 c2 T_limnographlaw18_Act.rep x2, slR A3 c3 (intR .i64) x3, ownR 26 none 0 T_api_File.rep ([] : List T_api_File), slR none 0 T_api_File.rep ([] : List T_api_File), optR y81 (fun z => diskO 59 64 5 F81 b17_0 z), optR y82 (fun z => T_limnographref18_Disk.obj F82 b35_0 z)] := hm83
                  show Rn _ _ _ _ _ [(0, .slice A0 (x0).length c0), (1, .slice A1 (x1).length c1), (2, .slice A2 (x2).length c2), (3, .slice A3 (x3).length c3), (9, .pointer (optP b17_0 y81)), (10, .pointer (optP b35_0 y82)), (11, .int .i64 (y80))] _
                  replace hM : m_limnographlaw18_DiskSure_L1 x2 j6 (m83 + 1) y80 y81 y82 = some r := hM
                  rw [m_limnographlaw18_DiskSure_L1] at hM
                  refine Rn.seq (Rn.seq (Rn.reg (Rn.v rfl rfl rfl rfl (V.mv rfl) (Rn.v rfl rfl rfl rfl (V.mv rfl) (Rn.v rfl rfl rfl rfl (V.lenV Try.underlying35 rfl) (Rn.v rfl rfl rfl rfl (V.lss rfl rfl) (Rn.regEnd ?_)))))))
                  refine Rn.condD rfl (fun h84 => ?_) (fun h84 => ?_)
                  · replace hM := iteT h84 hM
                    refine Rn.skip (Rn.seq ?_)
                    obtain ⟨j8, hj8, hM⟩ := jnE hM
                    refine Rn.joinG (r := r) (G := (Option PD) × (Option T_limnographref18_Disk) × (Nat → Prop) × (Nat → Prop)) (fun g => [(0, .slice A0 (x0).length c0), (1, .slice A1 (x1).length c1), (2, .slice A2 (x2).length c2), (3, .slice A3 (x3).length c3), (9, .pointer (optP b17_0 (g.1))), (10, .pointer (optP b35_0 (g.2.1))), (11, .int .i64 (y80))]) (fun g w' => Hp Z0 No w w' [slR A0 c0 byteR x0, slR A1 c1 byteR x1, slR A2 c2 T_limnographlaw18_Act.rep x2, slR A3 c3 (intR .i64) x3, ownR 26 none 0 T_api_File.rep ([] : List T_api_File), slR none 0 T_api_File.rep ([] : List T_api_File), optR (g.1) (fun z => diskO 59 64 5 (g.2.2.1) b17_0 z), optR (g.2.1) (fun z => T_limnographref18_Disk.obj (g.2.2.2) b35_0 z)]) (fun g => j8 g.1 g.2.1) ?_ ?_
                    · subst hj8
                      clear hM
                      rintro ⟨y85, y86, F85, F86⟩ w87 hm87 hM
                      replace hm87 : Hp Z0 No w w87 [slR A0 c0 byteR x0, slR A1 c1 byteR x1, slR A2 c2 T_limnographlaw18_Act.rep x2, slR A3 c3 (intR .i64) x3, ownR 26 none 0 T_api_File.rep ([] : List T_api_File), slR none 0 T_api_File.rep ([] : List T_api_File), optR y85 (fun z => diskO 59 64 5 F85 b17_0 z), optR y86 (fun z => T_limnographref18_Disk.obj F86 b35_0 z)] := hm87
                      show Rn _ _ _ _ _ [(0, .slice A0 (x0).length c0), (1, .slice A1 (x1).length c1), (2, .slice A2 (x2).length c2), (3, .slice A3 (x3).length c3), (9, .pointer (optP b17_0 y85)), (10, .pointer (optP b35_0 y86)), (11, .int .i64 (y80))] _
                      try dsimp only at hM
                      refine Rn.reg (Rn.v rfl rfl rfl rfl (V.mv rfl) (Rn.v rfl rfl rfl rfl (V.addW rfl rfl) (Rn.v rfl rfl rfl rfl (V.as rfl) (Rn.regEnd ?_))))
                      exact hn83 ((W64 (y80 + 1)), y85, y86, F85, F86) _ _ (Sub.cons rfl (Sub.cons rfl (Sub.cons rfl (Sub.cons rfl (Sub.cons rfl (Sub.cons rfl (Sub.cons rfl (Sub.nil _)))))))) (hm87.pick [0, 1, 2, 3, 4, 5, 6, 7] rfl (by decide)) hM
                    intro hk8
                    clear hj8
                    refine Rn.block (Rn.seq (Rn.reg (Rn.v rfl rfl rfl rfl (V.mv rfl) (Rn.v rfl rfl rfl rfl (V.mv rfl) ?_))))
                    obtain ⟨z88, e88, hM⟩ := bindE hM
                    refine Rn.ixH hm83 2 rfl e88 rfl rfl rfl Try.underlying35 Try.sizeOf42 rfl rfl rfl rfl ?_
                    rintro b88 o88 vs88 ⟨_, _, rfl, ⟨rfl, _⟩, ⟨_, _, rfl, ⟨rfl, _⟩, ⟨_, _, rfl, ⟨rfl, _⟩, ⟨_, _, rfl, ⟨rfl, _⟩, ⟨_, _, rfl, ⟨rfl, _⟩, ⟨A89, c89, rfl, p89, q89, s89⟩⟩⟩⟩⟩⟩ hm88
                    have hm92 : Hp Z0 No w w83 [slR A0 c0 byteR x0, slR A1 c1 byteR x1, slR A2 c2 T_limnographlaw18_Act.rep x2, slR A3 c3 (intR .i64) x3, ownR 26 none 0 T_api_File.rep ([] : List T_api_File), slR none 0 T_api_File.rep ([] : List T_api_File), optR y81 (fun z => diskO 59 64 5 F81 b17_0 z), optR y82 (fun z => T_limnographref18_Disk.obj F82 b35_0 z), rdR b88 o88 [.int .i64 (z88.Kind), Str (z88.A), Str (z88.B), .int .i64 (z88.N), .int .i64 (z88.Code), .slice A89 (z88.Keep).length c89], slR A89 c89 (intR .i64) z88.Keep] := Hp.know1 (M := [slR A89 c89 (intR .i64) z88.Keep]) hm88 (fun _ h => h) (knC (fun _ h => h) ⟨p89, q89, s89⟩ kn0)
                    refine Rn.v rfl rfl rfl rfl (V.ldA Try.isAgg42 Try.sizeOf42 rfl (Rd.pre (hm92.get 8 rfl).2 6) rfl) (Rn.als rfl rfl rfl Try.zeroValue42 rfl Try.sizeOf42 rfl rfl rfl rfl (by first | exact ones rfl | (simp [Value.oneCell']; done)) ?_)
                    intro b93 w93 hb93 m93 e93
                    have hm95 : Hp Z0 No w w93 [slR A0 c0 byteR x0, slR A1 c1 byteR x1, slR A2 c2 T_limnographlaw18_Act.rep x2, slR A3 c3 (intR .i64) x3, ownR 26 none 0 T_api_File.rep ([] : List T_api_File), slR none 0 T_api_File.rep ([] : List T_api_File), optR y81 (fun z => diskO 59 64 5 F81 b17_0 z), optR y82 (fun z => T_limnographref18_Disk.obj F82 b35_0 z), rdR b88 o88 [.int .i64 (z88.Kind), Str (z88.A), Str (z88.B), .int .i64 (z88.N), .int .i64 (z88.Code), .slice A89 (z88.Keep).length c89], slR A89 c89 (intR .i64) z88.Keep, boxR b93 42 [.int .i64 (z88.Kind), Str (z88.A), Str (z88.B), .int .i64 (z88.N), .int .i64 (z88.Code), .slice A89 (z88.Keep).length c89]] := hm92.addBox hb93 e93 m93
                    refine Rn.regEnd (Rn.seq (Rn.reg (Rn.v rfl rfl rfl rfl (V.fa Try.underlying42 rfl Try.sizeOf9 rfl rfl) (Rn.v rfl rfl rfl rfl (V.ldB Try.isAgg9 rfl (hm95.get 10 rfl) rfl) (Rn.v rfl rfl rfl rfl (V.neqS rfl rfl) (Rn.v rfl rfl rfl rfl (V.mv rfl) ?_))))))
                    refine Rn.cutR [8, 9, 10, 11, 12] [(0, .slice A0 (x0).length c0), (1, .slice A1 (x1).length c1), (2, .slice A2 (x2).length c2), (3, .slice A3 (x3).length c3), (9, .pointer (optP b17_0 y81)), (10, .pointer (optP b35_0 y82)), (11, .int .i64 (y80)), (12, .pointer (some ⟨b93, 0, none⟩)), (77, .bool (decide ((z88.A ≠ ([115] : List UInt8)) ∧ (z88.B ≠ ([115] : List UInt8)))))] (fun hk96 => ?_) ?_
                    · refine Rn.partD (t := 73) rfl (fun h97 => ?_) (fun h97 => ?_)
                      · refine Rn.v rfl rfl rfl rfl (V.fa Try.underlying42 rfl Try.sizeOf9 rfl rfl) (Rn.v rfl rfl rfl rfl (V.ldB Try.isAgg9 rfl (hm95.get 10 rfl) rfl) (Rn.v rfl rfl rfl rfl (V.neqS rfl rfl) (Rn.v rfl rfl rfl rfl (V.pkT rfl rfl) ?_)))
                        refine hk96 _ ?_
                        exact Sub.cons rfl (Sub.cons rfl (Sub.cons rfl (Sub.cons rfl (Sub.cons rfl (Sub.cons rfl (Sub.cons rfl (Sub.cons rfl (Sub.cons (lkv _ rfl (by first | exact andT h97 | exact andF h97 | exact orT h97 | exact orF h97 | exact nandF h97 | exact nandT h97 | exact norT h97 | exact norF h97 | (simp [h97]; done) | grind)) (Sub.nil _)))))))))
                      · refine Rn.no rfl rfl rfl rfl (Rn.no rfl rfl rfl rfl (Rn.no rfl rfl rfl rfl (Rn.v rfl rfl rfl rfl (V.pkF rfl rfl) ?_)))
                        refine hk96 _ ?_
                        exact Sub.cons rfl (Sub.cons rfl (Sub.cons rfl (Sub.cons rfl (Sub.cons rfl (Sub.cons rfl (Sub.cons rfl (Sub.cons rfl (Sub.cons (lkv _ rfl (by first | exact andT h97 | exact andF h97 | exact orT h97 | exact orF h97 | exact nandF h97 | exact nandT h97 | exact norT h97 | exact norF h97 | (simp [h97]; done) | grind)) (Sub.nil _)))))))))
                    refine Rn.v rfl rfl rfl rfl (V.mv rfl) ?_
                    refine Rn.cutR [] [(0, .slice A0 (x0).length c0), (1, .slice A1 (x1).length c1), (2, .slice A2 (x2).length c2), (3, .slice A3 (x3).length c3), (9, .pointer (optP b17_0 y81)), (10, .pointer (optP b35_0 y82)), (11, .int .i64 (y80)), (12, .pointer (some ⟨b93, 0, none⟩)), (82, .bool (decide (((z88.A ≠ ([115] : List UInt8)) ∧ (z88.B ≠ ([115] : List UInt8))) ∧ (z88.Kind ≠ 8))))] (fun hk98 => ?_) ?_
                    · refine Rn.partD (t := 78) rfl (fun h99 => ?_) (fun h99 => ?_)
                      · refine Rn.v rfl rfl rfl rfl (V.fa Try.underlying42 rfl Try.sizeOf3 rfl rfl) (Rn.v rfl rfl rfl rfl (V.ldB Try.isAgg3 rfl (hm95.get 10 rfl) rfl) (Rn.v rfl rfl rfl rfl (V.neq rfl rfl) (Rn.v rfl rfl rfl rfl (V.pkT rfl rfl) ?_)))
                        refine hk98 _ ?_
                        exact Sub.cons rfl (Sub.cons rfl (Sub.cons rfl (Sub.cons rfl (Sub.cons rfl (Sub.cons rfl (Sub.cons rfl (Sub.cons rfl (Sub.cons (lkv _ rfl (by first | exact andT h99 | exact andF h99 | exact orT h99 | exact orF h99 | exact nandF h99 | exact nandT h99 | exact norT h99 | exact norF h99 | (simp [h99]; done) | grind)) (Sub.nil _)))))))))
                      · refine Rn.no rfl rfl rfl rfl (Rn.no rfl rfl rfl rfl (Rn.no rfl rfl rfl rfl (Rn.v rfl rfl rfl rfl (V.pkF rfl rfl) ?_)))
                        refine hk98 _ ?_
                        exact Sub.cons rfl (Sub.cons rfl (Sub.cons rfl (Sub.cons rfl (Sub.cons rfl (Sub.cons rfl (Sub.cons rfl (Sub.cons rfl (Sub.cons (lkv _ rfl (by first | exact andT h99 | exact andF h99 | exact orT h99 | exact orF h99 | exact nandF h99 | exact nandT h99 | exact norT h99 | exact norF h99 | (simp [h99]; done) | grind)) (Sub.nil _)))))))))
                    refine Rn.regEnd ?_
                    refine Rn.condD rfl (fun h100 => ?_) (fun h100 => ?_)
                    · replace hM := iteT h100 hM
                      refine Rn.reg (Rn.v rfl rfl rfl rfl (V.mv rfl) (Rn.v rfl rfl rfl rfl (V.mv rfl) (Rn.v rfl rfl rfl rfl (V.ldBA _ Try.isAgg42 Try.sizeOf42 rfl (hm95.get 10 rfl) rfl rfl) ?_)))
                      obtain ⟨z102, e102, hM⟩ := bindE hM
                      have hm103 : Hp Z0 No w w93 [slR A0 c0 byteR x0, slR A1 c1 byteR x1, slR A2 c2 T_limnographlaw18_Act.rep x2, slR A3 c3 (intR .i64) x3, ownR 26 none 0 T_api_File.rep ([] : List T_api_File), slR none 0 T_api_File.rep ([] : List T_api_File), diskO 59 64 5 F81 b17_0 z102, optR y82 (fun z => T_limnographref18_Disk.obj F82 b35_0 z), rdR b88 o88 [.int .i64 (z88.Kind), Str (z88.A), Str (z88.B), .int .i64 (z88.N), .int .i64 (z88.Code), .slice A89 (z88.Keep).length c89], slR A89 c89 (intR .i64) z88.Keep, boxR b93 42 [.int .i64 (z88.Kind), Str (z88.A), Str (z88.B), .int .i64 (z88.N), .int .i64 (z88.Code), .slice A89 (z88.Keep).length c89]] := hm95.optSome 6 rfl e102
                      refine Rn.say (t := 83) (.pointer (some ⟨b17_0, 0, none⟩)) rfl (by rw [e102]; rfl) ?_
                      obtain ⟨z104, e104, hM⟩ := bindE hM
                      have hm105 : Hp Z0 No w w93 [slR A0 c0 byteR x0, slR A1 c1 byteR x1, slR A2 c2 T_limnographlaw18_Act.rep x2, slR A3 c3 (intR .i64) x3, ownR 26 none 0 T_api_File.rep ([] : List T_api_File), slR none 0 T_api_File.rep ([] : List T_api_File), diskO 59 64 5 F81 b17_0 z102, T_limnographref18_Disk.obj F82 b35_0 z104, rdR b88 o88 [.int .i64 (z88.Kind), Str (z88.A), Str (z88.B), .int .i64 (z88.N), .int .i64 (z88.Code), .slice A89 (z88.Keep).length c89], slR A89 c89 (intR .i64) z88.Keep, boxR b93 42 [.int .i64 (z88.Kind), Str (z88.A), Str (z88.B), .int .i64 (z88.N), .int .i64 (z88.Code), .slice A89 (z88.Keep).length c89]] := hm103.optSome 7 rfl e104
                      refine Rn.say (t := 84) (.pointer (some ⟨b35_0, 0, none⟩)) rfl (by rw [e104]; rfl) ?_
                      obtain ⟨p101, e101, hM⟩ := bindE hM
                      have hm106 := hm105.know (relR T_limnographlaw18_Act.rep [.int .i64 (z88.Kind), Str (z88.A), Str (z88.B), .int .i64 (z88.N), .int .i64 (z88.Code), .slice A89 (z88.Keep).length c89] ({ Kind := z88.Kind, A := z88.A, B := z88.B, N := z88.N, Code := z88.Code, Keep := z88.Keep } : T_limnographlaw18_Act)) (fun _ h => h) (show T_limnographlaw18_Act.rep.rel _ _ _ _ from ⟨_, _, rfl, ⟨rfl, trivial⟩, ⟨_, _, rfl, ⟨rfl, trivial⟩, ⟨_, _, rfl, ⟨rfl, trivial⟩, ⟨_, _, rfl, ⟨rfl, trivial⟩, ⟨_, _, rfl, ⟨rfl, trivial⟩, ⟨_, _, rfl, (hm105.get 9 rfl).1, (hm105.get 9 rfl).2.1, (hm105.get 9 rfl).2.2⟩⟩⟩⟩⟩⟩)
                      have hm108 : Hp Z0 No w w93 ([slR A0 c0 byteR x0, slR A1 c1 byteR x1, slR A2 c2 T_limnographlaw18_Act.rep x2, slR A3 c3 (intR .i64) x3, ownR 26 none 0 T_api_File.rep ([] : List T_api_File), slR none 0 T_api_File.rep ([] : List T_api_File), rdR b88 o88 [.int .i64 (z88.Kind), Str (z88.A), Str (z88.B), .int .i64 (z88.N), .int .i64 (z88.Code), .slice A89 (z88.Keep).length c89], slR A89 c89 (intR .i64) z88.Keep, boxR b93 42 [.int .i64 (z88.Kind), Str (z88.A), Str (z88.B), .int .i64 (z88.N), .int .i64 (z88.Code), .slice A89 (z88.Keep).length c89]] ++ [diskO 59 64 5 F81 b17_0 z102, T_limnographref18_Disk.obj F82 b35_0 z104, relR T_limnographlaw18_Act.rep [.int .i64 (z88.Kind), Str (z88.A), Str (z88.B), .int .i64 (z88.N), .int .i64 (z88.Code), .slice A89 (z88.Keep).length c89] ({ Kind := z88.Kind, A := z88.A, B := z88.B, N := z88.N, Code := z88.Code, Keep := z88.Keep } : T_limnographlaw18_Act)]) := hm106.pick [0, 1, 2, 3, 4, 5, 8, 9, 10, 6, 7, 11] rfl (by decide)
                      refine Rn.cl ck14 rfl rfl rfl rfl (m_limnographlaw18_do_sim (Z0 := _) _ F81 b17_0 z102 F82 b35_0 z104 ({ Kind := z88.Kind, A := z88.A, B := z88.B, N := z88.N, Code := z88.Code, Keep := z88.Keep } : T_limnographlaw18_Act) [.int .i64 (z88.Kind), Str (z88.A), Str (z88.B), .int .i64 (z88.N), .int .i64 (z88.Code), .slice A89 (z88.Keep).length c89] hm108.lend e101) ?_
                      rintro _ w101 ⟨F101_p0, F101_p1, rfl, hq101⟩
                      refine ⟨_, rfl, ?_⟩
                      have hm111 : Hp Z0 No w w101 [slR A0 c0 byteR x0, slR A1 c1 byteR x1, slR A2 c2 T_limnographlaw18_Act.rep x2, slR A3 c3 (intR .i64) x3, ownR 26 none 0 T_api_File.rep ([] : List T_api_File), slR none 0 T_api_File.rep ([] : List T_api_File), rdR b88 o88 [.int .i64 (z88.Kind), Str (z88.A), Str (z88.B), .int .i64 (z88.N), .int .i64 (z88.Code), .slice A89 (z88.Keep).length c89], slR A89 c89 (intR .i64) z88.Keep, boxR b93 42 [.int .i64 (z88.Kind), Str (z88.A), Str (z88.B), .int .i64 (z88.N), .int .i64 (z88.Code), .slice A89 (z88.Keep).length c89], diskO 59 64 5 F101_p0 b17_0 p101.2.1, T_limnographref18_Disk.obj F101_p1 b35_0 p101.2.2] := hm108.callAZ hq101
                      refine Rn.regEnd (Rn.inBlock ?_)
                      refine Rn.say (t := 9) (.pointer (some ⟨b17_0, 0, none⟩)) rfl (by rw [e102]; rfl) ?_
                      have hm112 := hm111.toSome (R := (fun z => diskO 59 64 5 F101_p0 b17_0 z)) 9 rfl
                      have hm113 : Hp Z0 No w w101 [slR A0 c0 byteR x0, slR A1 c1 byteR x1, slR A2 c2 T_limnographlaw18_Act.rep x2, slR A3 c3 (intR .i64) x3, ownR 26 none 0 T_api_File.rep ([] : List T_api_File), slR none 0 T_api_File.rep ([] : List T_api_File), rdR b88 o88 [.int .i64 (z88.Kind), Str (z88.A), Str (z88.B), .int .i64 (z88.N), .int .i64 (z88.Code), .slice A89 (z88.Keep).length c89], slR A89 c89 (intR .i64) z88.Keep, boxR b93 42 [.int .i64 (z88.Kind), Str (z88.A), Str (z88.B), .int .i64 (z88.N), .int .i64 (z88.Code), .slice A89 (z88.Keep).length c89], optR (some p101.2.1) (fun z => diskO 59 64 5 F101_p0 b17_0 z), T_limnographref18_Disk.obj F101_p1 b35_0 p101.2.2] := hm112
                      refine Rn.say (t := 10) (.pointer (some ⟨b35_0, 0, none⟩)) rfl (by rw [e104]; rfl) ?_
                      have hm114 := hm113.toSome (R := (fun z => T_limnographref18_Disk.obj F101_p1 b35_0 z)) 10 rfl
                      have hm115 : Hp Z0 No w w101 [slR A0 c0 byteR x0, slR A1 c1 byteR x1, slR A2 c2 T_limnographlaw18_Act.rep x2, slR A3 c3 (intR .i64) x3, ownR 26 none 0 T_api_File.rep ([] : List T_api_File), slR none 0 T_api_File.rep ([] : List T_api_File), rdR b88 o88 [.int .i64 (z88.Kind), Str (z88.A), Str (z88.B), .int .i64 (z88.N), .int .i64 (z88.Code), .slice A89 (z88.Keep).length c89], slR A89 c89 (intR .i64) z88.Keep, boxR b93 42 [.int .i64 (z88.Kind), Str (z88.A), Str (z88.B), .int .i64 (z88.N), .int .i64 (z88.Code), .slice A89 (z88.Keep).length c89], optR (some p101.2.1) (fun z => diskO 59 64 5 F101_p0 b17_0 z), optR (some p101.2.2) (fun z => T_limnographref18_Disk.obj F101_p1 b35_0 z)] := hm114
                      exact hk8 ((some p101.2.1), (some p101.2.2), F101_p0, F101_p1) _ _ (Sub.cons rfl (Sub.cons rfl (Sub.cons rfl (Sub.cons rfl (Sub.cons rfl (Sub.cons rfl (Sub.cons rfl (Sub.nil _)))))))) (hm115.pick [0, 1, 2, 3, 4, 5, 9, 10] rfl (by decide)) hM
                    · replace hM := iteF h100 hM
                      refine Rn.skip (Rn.inBlock ?_)
                      exact hk8 (y81, y82, F81, F82) _ _ (Sub.cons rfl (Sub.cons rfl (Sub.cons rfl (Sub.cons rfl (Sub.cons rfl (Sub.cons rfl (Sub.cons rfl (Sub.nil _)))))))) (hm95.pick [0, 1, 2, 3, 4, 5, 6, 7] rfl (by decide)) hM
                  · replace hM := iteF h84 hM
                    refine Rn.exit rfl ?_
                    exact hk6 (y81, F81) _ _ (Sub.cons rfl (Sub.cons rfl (Sub.cons rfl (Sub.cons rfl (Sub.nil _))))) (hm83.pick [0, 1, 2, 3, 4, 5, 6] rfl (by decide)) hM
              intro hk5
              clear hj5
              refine Rn.part (t := 53) rfl (fun h116 => ?_) (fun h116 => ?_)
              · replace hM := iteT h116 hM
                refine Rn.no rfl rfl rfl rfl (Rn.no rfl rfl rfl rfl (Rn.no rfl rfl rfl rfl (Rn.no rfl rfl rfl rfl (Rn.v rfl rfl rfl rfl (V.pkT rfl rfl) ?_))))
                exact hk5 (true, y29, F29) _ _ (Sub.cons rfl (Sub.cons rfl (Sub.cons rfl (Sub.cons rfl (Sub.cons rfl (Sub.cons rfl (Sub.nil _))))))) (hm30.pick [0, 1, 2, 3, 4, 5] rfl (by decide)) hM
              · replace hM := iteF (by rw [h116]; exact Bool.false_ne_true) hM
                refine Rn.v rfl rfl rfl rfl (V.mv rfl) (Rn.v rfl rfl rfl rfl (V.mv rfl) ?_)
                obtain ⟨z118, e118, hM⟩ := bindE hM
                have hm119 : Hp Z0 No w w30 [slR A0 c0 byteR x0, slR A1 c1 byteR x1, slR A2 c2 T_limnographlaw18_Act.rep x2, slR A3 c3 (intR .i64) x3, ownR 26 none 0 T_api_File.rep ([] : List T_api_File), diskO 59 64 5 F29 b17_0 z118] := hm30.optSome 5 rfl e118
                refine Rn.say (t := 54) (.pointer (some ⟨b17_0, 0, none⟩)) rfl (by rw [e118]; rfl) ?_
                obtain ⟨p117, e117, hM⟩ := bindE hM
                have hm120 := hm119.dup 1 rfl (fun _ h => h)
                have hm122 : Hp Z0 No w w30 ([slR A0 c0 byteR x0, slR A1 c1 byteR x1, slR A2 c2 T_limnographlaw18_Act.rep x2, slR A3 c3 (intR .i64) x3, ownR 26 none 0 T_api_File.rep ([] : List T_api_File)] ++ [diskO 59 64 5 F29 b17_0 z118, slR A1 c1 byteR x1]) := hm120.pick [0, 1, 2, 3, 4, 5, 6] rfl (by decide)
                refine Rn.cl ck11 rfl rfl rfl rfl (m_disk_Disk_Append_sim (Z0 := _) _ F29 b17_0 z118 ([115] : List UInt8) A1 c1 x1 hm122.lend e117) ?_
                rintro _ w117 ⟨F117_p0, rfl, hq117⟩
                refine ⟨_, rfl, ?_⟩
                have hm124 : Hp Z0 No w w117 [slR A0 c0 byteR x0, slR A1 c1 byteR x1, slR A2 c2 T_limnographlaw18_Act.rep x2, slR A3 c3 (intR .i64) x3, ownR 26 none 0 T_api_File.rep ([] : List T_api_File), diskO 59 64 5 F117_p0 b17_0 p117.2] := hm122.callAZ hq117
                refine Rn.v rfl rfl rfl rfl (V.neq rfl rfl) (Rn.v rfl rfl rfl rfl (V.pkF rfl rfl) ?_)
                refine Rn.say (t := 9) (.pointer (some ⟨b17_0, 0, none⟩)) rfl (by rw [e118]; rfl) ?_
                have hm125 := hm124.toSome (R := (fun z => diskO 59 64 5 F117_p0 b17_0 z)) 5 rfl
                have hm126 : Hp Z0 No w w117 [slR A0 c0 byteR x0, slR A1 c1 byteR x1, slR A2 c2 T_limnographlaw18_Act.rep x2, slR A3 c3 (intR .i64) x3, ownR 26 none 0 T_api_File.rep ([] : List T_api_File), optR (some p117.2) (fun z => diskO 59 64 5 F117_p0 b17_0 z)] := hm125
                exact hk5 ((decide (p117.1 ≠ 0)), (some p117.2), F117_p0) _ _ (Sub.cons rfl (Sub.cons rfl (Sub.cons rfl (Sub.cons rfl (Sub.cons rfl (Sub.cons rfl (Sub.nil _))))))) (hm126.pick [0, 1, 2, 3, 4, 5] rfl (by decide)) hM
            intro hk4
            clear hj4
            refine Rn.part (t := 48) rfl (fun h127 => ?_) (fun h127 => ?_)
            · replace hM := iteT h127 hM
              refine Rn.no rfl rfl rfl rfl (Rn.no rfl rfl rfl rfl (Rn.no rfl rfl rfl rfl (Rn.v rfl rfl rfl rfl (V.pkT rfl rfl) ?_)))
              exact hk4 (true, y26, F26) _ _ (Sub.cons rfl (Sub.cons rfl (Sub.cons rfl (Sub.cons rfl (Sub.cons rfl (Sub.cons rfl (Sub.nil _))))))) (hm27.pick [0, 1, 2, 3, 4, 5] rfl (by decide)) hM
            · replace hM := iteF (by rw [h127]; exact Bool.false_ne_true) hM
              refine Rn.v rfl rfl rfl rfl (V.mv rfl) ?_
              obtain ⟨z129, e129, hM⟩ := bindE hM
              have hm130 : Hp Z0 No w w27 [slR A0 c0 byteR x0, slR A1 c1 byteR x1, slR A2 c2 T_limnographlaw18_Act.rep x2, slR A3 c3 (intR .i64) x3, ownR 26 none 0 T_api_File.rep ([] : List T_api_File), diskO 59 64 5 F26 b17_0 z129] := hm27.optSome 5 rfl e129
              refine Rn.say (t := 49) (.pointer (some ⟨b17_0, 0, none⟩)) rfl (by rw [e129]; rfl) ?_
              obtain ⟨p128, e128, hM⟩ := bindE hM
              have hm131 : Hp Z0 No w w27 ([slR A0 c0 byteR x0, slR A1 c1 byteR x1, slR A2 c2 T_limnographlaw18_Act.rep x2, slR A3 c3 (intR .i64) x3, ownR 26 none 0 T_api_File.rep ([] : List T_api_File)] ++ [diskO 59 64 5 F26 b17_0 z129]) := hm130.pick [0, 1, 2, 3, 4, 5] rfl (by decide)
              refine Rn.cl ck12 rfl rfl rfl rfl (m_disk_Disk_Sync_sim (Z0 := _) _ F26 b17_0 z129 ([115] : List UInt8) hm131.lend e128) ?_
              rintro _ w128 ⟨F128_p0, rfl, hq128⟩
              refine ⟨_, rfl, ?_⟩
              have hm133 : Hp Z0 No w w128 [slR A0 c0 byteR x0, slR A1 c1 byteR x1, slR A2 c2 T_limnographlaw18_Act.rep x2, slR A3 c3 (intR .i64) x3, ownR 26 none 0 T_api_File.rep ([] : List T_api_File), diskO 59 64 5 F128_p0 b17_0 p128.2] := hm131.callAZ hq128
              refine Rn.v rfl rfl rfl rfl (V.neq rfl rfl) (Rn.v rfl rfl rfl rfl (V.pkF rfl rfl) ?_)
              refine Rn.say (t := 9) (.pointer (some ⟨b17_0, 0, none⟩)) rfl (by rw [e129]; rfl) ?_
              have hm134 := hm133.toSome (R := (fun z => diskO 59 64 5 F128_p0 b17_0 z)) 5 rfl
              have hm135 : Hp Z0 No w w128 [slR A0 c0 byteR x0, slR A1 c1 byteR x1, slR A2 c2 T_limnographlaw18_Act.rep x2, slR A3 c3 (intR .i64) x3, ownR 26 none 0 T_api_File.rep ([] : List T_api_File), optR (some p128.2) (fun z => diskO 59 64 5 F128_p0 b17_0 z)] := hm134
              exact hk4 ((decide (p128.1 ≠ 0)), (some p128.2), F128_p0) _ _ (Sub.cons rfl (Sub.cons rfl (Sub.cons rfl (Sub.cons rfl (Sub.cons rfl (Sub.cons rfl (Sub.nil _))))))) (hm135.pick [0, 1, 2, 3, 4, 5] rfl (by decide)) hM
          intro hk3
          clear hj3
          refine Rn.part (t := 42) rfl (fun h136 => ?_) (fun h136 => ?_)
          · replace hM := iteT h136 hM
            refine Rn.no rfl rfl rfl rfl (Rn.no rfl rfl rfl rfl (Rn.no rfl rfl rfl rfl (Rn.no rfl rfl rfl rfl (Rn.v rfl rfl rfl rfl (V.pkT rfl rfl) ?_))))
            exact hk3 (true, y23, F23) _ _ (Sub.cons rfl (Sub.cons rfl (Sub.cons rfl (Sub.cons rfl (Sub.cons rfl (Sub.cons rfl (Sub.nil _))))))) (hm24.pick [0, 1, 2, 3, 4, 5] rfl (by decide)) hM
          · replace hM := iteF (by rw [h136]; exact Bool.false_ne_true) hM
            refine Rn.v rfl rfl rfl rfl (V.mv rfl) (Rn.v rfl rfl rfl rfl (V.mv rfl) ?_)
            obtain ⟨z138, e138, hM⟩ := bindE hM
            have hm139 : Hp Z0 No w w24 [slR A0 c0 byteR x0, slR A1 c1 byteR x1, slR A2 c2 T_limnographlaw18_Act.rep x2, slR A3 c3 (intR .i64) x3, ownR 26 none 0 T_api_File.rep ([] : List T_api_File), diskO 59 64 5 F23 b17_0 z138] := hm24.optSome 5 rfl e138
            refine Rn.say (t := 43) (.pointer (some ⟨b17_0, 0, none⟩)) rfl (by rw [e138]; rfl) ?_
            obtain ⟨p137, e137, hM⟩ := bindE hM
            have hm140 := hm139.dup 0 rfl (fun _ h => h)
            have hm142 : Hp Z0 No w w24 ([slR A0 c0 byteR x0, slR A1 c1 byteR x1, slR A2 c2 T_limnographlaw18_Act.rep x2, slR A3 c3 (intR .i64) x3, ownR 26 none 0 T_api_File.rep ([] : List T_api_File)] ++ [diskO 59 64 5 F23 b17_0 z138, slR A0 c0 byteR x0]) := hm140.pick [0, 1, 2, 3, 4, 5, 6] rfl (by decide)
            refine Rn.cl ck11 rfl rfl rfl rfl (m_disk_Disk_Append_sim (Z0 := _) _ F23 b17_0 z138 ([115] : List UInt8) A0 c0 x0 hm142.lend e137) ?_
            rintro _ w137 ⟨F137_p0, rfl, hq137⟩
            refine ⟨_, rfl, ?_⟩
            have hm144 : Hp Z0 No w w137 [slR A0 c0 byteR x0, slR A1 c1 byteR x1, slR A2 c2 T_limnographlaw18_Act.rep x2, slR A3 c3 (intR .i64) x3, ownR 26 none 0 T_api_File.rep ([] : List T_api_File), diskO 59 64 5 F137_p0 b17_0 p137.2] := hm142.callAZ hq137
            refine Rn.v rfl rfl rfl rfl (V.neq rfl rfl) (Rn.v rfl rfl rfl rfl (V.pkF rfl rfl) ?_)
            refine Rn.say (t := 9) (.pointer (some ⟨b17_0, 0, none⟩)) rfl (by rw [e138]; rfl) ?_
            have hm145 := hm144.toSome (R := (fun z => diskO 59 64 5 F137_p0 b17_0 z)) 5 rfl
            have hm146 : Hp Z0 No w w137 [slR A0 c0 byteR x0, slR A1 c1 byteR x1, slR A2 c2 T_limnographlaw18_Act.rep x2, slR A3 c3 (intR .i64) x3, ownR 26 none 0 T_api_File.rep ([] : List T_api_File), optR (some p137.2) (fun z => diskO 59 64 5 F137_p0 b17_0 z)] := hm145
            exact hk3 ((decide (p137.1 ≠ 0)), (some p137.2), F137_p0) _ _ (Sub.cons rfl (Sub.cons rfl (Sub.cons rfl (Sub.cons rfl (Sub.cons rfl (Sub.cons rfl (Sub.nil _))))))) (hm146.pick [0, 1, 2, 3, 4, 5] rfl (by decide)) hM
        intro hk2
        clear hj2
        refine Rn.part (t := 37) rfl (fun h147 => ?_) (fun h147 => ?_)
        · replace hM := iteT h147 hM
          refine Rn.no rfl rfl rfl rfl (Rn.no rfl rfl rfl rfl (Rn.no rfl rfl rfl rfl (Rn.v rfl rfl rfl rfl (V.pkT rfl rfl) ?_)))
          exact hk2 (true, p17, F17_0) _ _ (Sub.cons rfl (Sub.cons rfl (Sub.cons rfl (Sub.cons rfl (Sub.cons rfl (Sub.cons rfl (Sub.nil _))))))) (hm21.pick [0, 1, 2, 3, 4, 5] rfl (by decide)) hM
        · replace hM := iteF (by rw [h147]; exact Bool.false_ne_true) hM
          refine Rn.v rfl rfl rfl rfl (V.mv rfl) ?_
          obtain ⟨z149, e149, hM⟩ := bindE hM
          have hm150 : Hp Z0 No w w17 [slR A0 c0 byteR x0, slR A1 c1 byteR x1, slR A2 c2 T_limnographlaw18_Act.rep x2, slR A3 c3 (intR .i64) x3, ownR 26 none 0 T_api_File.rep ([] : List T_api_File), diskO 59 64 5 F17_0 b17_0 z149] := hm21.optSome 5 rfl e149
          refine Rn.say (t := 38) (.pointer (some ⟨b17_0, 0, none⟩)) rfl (by rw [e149]; rfl) ?_
          obtain ⟨p148, e148, hM⟩ := bindE hM
          have hm151 : Hp Z0 No w w17 ([slR A0 c0 byteR x0, slR A1 c1 byteR x1, slR A2 c2 T_limnographlaw18_Act.rep x2, slR A3 c3 (intR .i64) x3, ownR 26 none 0 T_api_File.rep ([] : List T_api_File)] ++ [diskO 59 64 5 F17_0 b17_0 z149]) := hm150.pick [0, 1, 2, 3, 4, 5] rfl (by decide)
          refine Rn.cl ck8 rfl rfl rfl rfl (m_disk_Disk_Create_sim (Z0 := _) _ F17_0 b17_0 z149 ([115] : List UInt8) hm151.lend e148) ?_
          rintro _ w148 ⟨F148_p0, rfl, hq148⟩
          refine ⟨_, rfl, ?_⟩
          have hm153 : Hp Z0 No w w148 [slR A0 c0 byteR x0, slR A1 c1 byteR x1, slR A2 c2 T_limnographlaw18_Act.rep x2, slR A3 c3 (intR .i64) x3, ownR 26 none 0 T_api_File.rep ([] : List T_api_File), diskO 59 64 5 F148_p0 b17_0 p148.2] := hm151.callAZ hq148
          refine Rn.v rfl rfl rfl rfl (V.neq rfl rfl) (Rn.v rfl rfl rfl rfl (V.pkF rfl rfl) ?_)
          refine Rn.say (t := 9) (.pointer (some ⟨b17_0, 0, none⟩)) rfl (by rw [e149]; rfl) ?_
          have hm154 := hm153.toSome (R := (fun z => diskO 59 64 5 F148_p0 b17_0 z)) 5 rfl
          have hm155 : Hp Z0 No w w148 [slR A0 c0 byteR x0, slR A1 c1 byteR x1, slR A2 c2 T_limnographlaw18_Act.rep x2, slR A3 c3 (intR .i64) x3, ownR 26 none 0 T_api_File.rep ([] : List T_api_File), optR (some p148.2) (fun z => diskO 59 64 5 F148_p0 b17_0 z)] := hm154
          exact hk2 ((decide (p148.1 ≠ 0)), (some p148.2), F148_p0) _ _ (Sub.cons rfl (Sub.cons rfl (Sub.cons rfl (Sub.cons rfl (Sub.cons rfl (Sub.cons rfl (Sub.nil _))))))) (hm155.pick [0, 1, 2, 3, 4, 5] rfl (by decide)) hM
    intro hk1
    clear hj1
    refine Rn.partD (t := 29) rfl (fun h156 => ?_) (fun h156 => ?_)
    · replace hM := iteT h156 hM
      refine Rn.no rfl rfl rfl rfl (Rn.no rfl rfl rfl rfl (Rn.no rfl rfl rfl rfl (Rn.v rfl rfl rfl rfl (V.pkT rfl rfl) ?_)))
      exact hk1 true _ _ (Sub.cons rfl (Sub.cons rfl (Sub.cons rfl (Sub.cons rfl (Sub.cons rfl (Sub.nil _)))))) (hm10.pick [0, 1, 2, 3] rfl (by decide)) hM
    · replace hM := iteF h156 hM
      refine Rn.v rfl rfl rfl rfl (V.mv rfl) ?_
      obtain ⟨p157, e157, hM⟩ := bindE hM
      refine Rn.cl ck10 rfl rfl rfl rfl (m_limnographlaw18_few_sim (Z0 := All) _ A2 c2 x2 (slR_all (hm10.get 2 rfl)) e157) ?_
      rintro _ w157 ⟨rfl, hq157⟩
      refine ⟨_, rfl, ?_⟩
      have hm158 := hm10.call0 hq157
      refine Rn.v rfl rfl rfl rfl (V.notB rfl) (Rn.v rfl rfl rfl rfl (V.pkF rfl rfl) ?_)
      exact hk1 (!p157) _ _ (Sub.cons rfl (Sub.cons rfl (Sub.cons rfl (Sub.cons rfl (Sub.cons rfl (Sub.nil _)))))) (hm158.pick [0, 1, 2, 3] rfl (by decide)) hM

set_option maxRecDepth 20000 in
theorem m_limnographlaw18_DiskMost_sim {Z0 : Nat → Prop} (w : World) (x0 : Int) {r : Bool}  (hM : m_limnographlaw18_DiskMost x0 = some r) :
    Calls Try.prog 3 #[.int .i64 (x0)] w fun x w' => x = .returned (.bool (r)) ∧ Hp Z0 No w w' [] := by
  have hm0 := Hp.nil Z0 No w
  have hc0 := Calm.nil
  refine Rn.enter Try.func3 rfl rfl (Nat.le_of_ble_eq_true rfl) ?_
  refine Rn.seq (Rn.reg (Rn.v rfl rfl rfl rfl (V.as rfl) (Rn.regEnd (Rn.seq (Rn.seq (Rn.reg ?_))))))
  obtain ⟨p1, e1, hM⟩ := bindE hM
  refine Rn.cl ck6 rfl rfl rfl rfl (m_limnographlaw18_awake_sim (Z0 := All) _   e1) ?_
  rintro _ w1 ⟨rfl, hq1⟩
  refine ⟨_, rfl, ?_⟩
  have hm2 := hm0.call0 hq1
  refine Rn.v rfl rfl rfl rfl (V.notB rfl) (Rn.regEnd ?_)
  refine Rn.condS rfl (fun h3 => ?_) (fun h3 => ?_)
  · replace hM := iteT h3 hM
    refine Rn.seq (Rn.reg (Rn.v rfl rfl rfl rfl (V.as rfl) (Rn.regEnd ?_)))
    refine Rn.retG1 Try.func3 rfl (rvT rfl) ?_
    obtain rfl := someE hM
    exact ⟨rfl, hm2.pick [] rfl (by decide)⟩
  · replace hM := iteF (by rw [h3]; exact Bool.false_ne_true) hM
    refine Rn.skip (Rn.seq (Rn.seq (Rn.reg (Rn.v rfl rfl rfl rfl (V.mv rfl) (Rn.v rfl rfl rfl rfl (V.lss rfl rfl) (Rn.v rfl rfl rfl rfl (V.mv rfl) ?_))))))
    refine Rn.cutR [] [(0, .int .i64 (x0)), (19, .bool (decide ((x0 < 0) ∨ (x0 > 2))))] (fun hk4 => ?_) ?_
    · refine Rn.partD (t := 16) rfl (fun h5 => ?_) (fun h5 => ?_)
      · refine Rn.no rfl rfl rfl rfl (Rn.no rfl rfl rfl rfl (Rn.v rfl rfl rfl rfl (V.pkT rfl rfl) ?_))
        refine hk4 _ ?_
        exact Sub.cons rfl (Sub.cons (lkv _ rfl (by first | exact andT h5 | exact andF h5 | exact orT h5 | exact orF h5 | exact nandF h5 | exact nandT h5 | exact norT h5 | exact norF h5 | (simp [h5]; done) | grind)) (Sub.nil _))
      · refine Rn.v rfl rfl rfl rfl (V.mv rfl) (Rn.v rfl rfl rfl rfl (V.gtr rfl rfl) (Rn.v rfl rfl rfl rfl (V.pkF rfl rfl) ?_))
        refine hk4 _ ?_
        exact Sub.cons rfl (Sub.cons (lkv _ rfl (by first | exact andT h5 | exact andF h5 | exact orT h5 | exact orF h5 | exact nandF h5 | exact nandT h5 | exact norT h5 | exact norF h5 | (simp [h5]; done) | grind)) (Sub.nil _))
    refine Rn.regEnd ?_
    refine Rn.condD rfl (fun h6 => ?_) (fun h6 => ?_)
    · replace hM := iteT h6 hM
      refine Rn.seq (Rn.reg (Rn.v rfl rfl rfl rfl (V.as rfl) (Rn.regEnd ?_)))
      refine Rn.retG1 Try.func3 rfl (rvT rfl) ?_
      obtain rfl := someE hM
      exact ⟨rfl, hm2.pick [] rfl (by decide)⟩
    · replace hM := iteF h6 hM
      refine Rn.skip (Rn.seq (Rn.reg (Rn.v rfl rfl rfl rfl (V.as rfl) (Rn.regEnd (Rn.seq (Rn.seq (Rn.reg (Rn.v rfl rfl rfl rfl (V.as rfl) (Rn.regEnd ?_)))))))))
      obtain ⟨j1, hj1, hM⟩ := jnE hM
      refine Rn.joinG (r := r) (G := (List T_api_File) × Option Addr × Nat) (fun g => [(0, .int .i64 (x0)), (3, .slice (g.2.1) ((g.1)).length (g.2.2))]) (fun g w' => Hp Z0 No w w' [ownR 26 (g.2.1) (g.2.2) T_api_File.rep (g.1)]) (fun g => j1 g.1) ?_ ?_
      · subst hj1
        clear hM
        rintro ⟨y7, A8, c8⟩ w10 hm10 hM
        replace hm10 : Hp Z0 No w w10 [ownR 26 A8 c8 T_api_File.rep y7] := hm10
        show Rn _ _ _ _ _ [(0, .int .i64 (x0)), (3, .slice A8 (y7).length c8)] _
        try dsimp only at hM
        refine Rn.seq (Rn.reg (Rn.v rfl rfl rfl rfl (V.mv rfl) ?_))
        obtain ⟨p11, e11, hM⟩ := bindE hM
        refine Rn.cl ck7 rfl rfl rfl rfl (m_disk_New_sim (Z0 := All) _ A8 c8 y7 1 (own_slR (hm10.get 0 rfl)) e11) ?_
        rintro _ w11 ⟨F11_0, b11_0, rfl, hq11⟩
        refine ⟨_, rfl, ?_⟩
        have hm13 : Hp Z0 No w w11 [ownR 26 A8 c8 T_api_File.rep y7, optR p11 (fun z => diskO 59 64 5 F11_0 b11_0 z)] := hm10.callF (flC (optR_flat fun _ => diskO_flat _ _ _ _ _ _) fl0) hq11
        refine Rn.v rfl rfl rfl rfl (V.as rfl) (Rn.regEnd (Rn.seq (Rn.seq (Rn.reg (Rn.v rfl rfl rfl rfl (V.mv rfl) (Rn.v rfl rfl rfl rfl (V.eqlO Try.underlying27 rfl rfl) (Rn.regEnd ?_)))))))
        refine Rn.condS rfl (fun h14 => ?_) (fun h14 => ?_)
        · replace hM := iteT h14 hM
          refine Rn.seq (Rn.reg (Rn.v rfl rfl rfl rfl (V.as rfl) (Rn.regEnd ?_)))
          refine Rn.retG1 Try.func3 rfl (rvT rfl) ?_
          obtain rfl := someE hM
          exact ⟨rfl, hm13.pick [] rfl (by decide)⟩
        · replace hM := iteF (by rw [h14]; exact Bool.false_ne_true) hM
          refine Rn.skip (Rn.seq (Rn.reg (Rn.v rfl rfl rfl rfl (V.mv rfl) ?_)))
          obtain ⟨z16, e16, hM⟩ := bindE hM
          have hm17 : Hp Z0 No w w11 [ownR 26 A8 c8 T_api_File.rep y7, diskO 59 64 5 F11_0 b11_0 z16] := hm13.optSome 1 rfl e16
          refine Rn.say (t := 49) (.pointer (some ⟨b11_0, 0, none⟩)) rfl (by rw [e16]; rfl) ?_
          obtain ⟨p15, e15, hM⟩ := bindE hM
          have hm18 : Hp Z0 No w w11 ([ownR 26 A8 c8 T_api_File.rep y7] ++ [diskO 59 64 5 F11_0 b11_0 z16]) := hm17.pick [0, 1] rfl (by decide)
          refine Rn.cl ck8 rfl rfl rfl rfl (m_disk_Disk_Create_sim (Z0 := _) _ F11_0 b11_0 z16 ([120, 45] : List UInt8) hm18.lend e15) ?_
          rintro _ w15 ⟨F15_p0, rfl, hq15⟩
          refine ⟨_, rfl, ?_⟩
          have hm20 : Hp Z0 No w w15 [ownR 26 A8 c8 T_api_File.rep y7, diskO 59 64 5 F15_p0 b11_0 p15.2] := hm18.callAZ hq15
          refine Rn.v rfl rfl rfl rfl (V.as rfl) (Rn.regEnd (Rn.seq (Rn.reg (Rn.v rfl rfl rfl rfl (V.mv rfl) ?_))))
          refine Rn.say (t := 51) (.pointer (some ⟨b11_0, 0, none⟩)) rfl (by rw [e16]; rfl) ?_
          obtain ⟨p21, e21, hM⟩ := bindE hM
          have hm22 : Hp Z0 No w w15 ([ownR 26 A8 c8 T_api_File.rep y7] ++ [diskO 59 64 5 F15_p0 b11_0 p15.2]) := hm20.pick [0, 1] rfl (by decide)
          refine Rn.cl ck8 rfl rfl rfl rfl (m_disk_Disk_Create_sim (Z0 := _) _ F15_p0 b11_0 p15.2 ([121, 45] : List UInt8) hm22.lend e21) ?_
          rintro _ w21 ⟨F21_p0, rfl, hq21⟩
          refine ⟨_, rfl, ?_⟩
          have hm24 : Hp Z0 No w w21 [ownR 26 A8 c8 T_api_File.rep y7, diskO 59 64 5 F21_p0 b11_0 p21.2] := hm22.callAZ hq21
          refine Rn.v rfl rfl rfl rfl (V.as rfl) (Rn.regEnd (Rn.seq (Rn.reg (Rn.v rfl rfl rfl rfl (V.mv rfl) ?_))))
          refine Rn.say (t := 53) (.pointer (some ⟨b11_0, 0, none⟩)) rfl (by rw [e16]; rfl) ?_
          obtain ⟨p25, e25, hM⟩ := bindE hM
          have hm26 : Hp Z0 No w w21 ([ownR 26 A8 c8 T_api_File.rep y7] ++ [diskO 59 64 5 F21_p0 b11_0 p21.2]) := hm24.pick [0, 1] rfl (by decide)
          refine Rn.cl ck8 rfl rfl rfl rfl (m_disk_Disk_Create_sim (Z0 := _) _ F21_p0 b11_0 p21.2 ([122, 45] : List UInt8) hm26.lend e25) ?_
          rintro _ w25 ⟨F25_p0, rfl, hq25⟩
          refine ⟨_, rfl, ?_⟩
          have hm28 : Hp Z0 No w w25 [ownR 26 A8 c8 T_api_File.rep y7, diskO 59 64 5 F25_p0 b11_0 p25.2] := hm26.callAZ hq25
          refine Rn.v rfl rfl rfl rfl (V.as rfl) (Rn.regEnd (Rn.seq (Rn.reg (Rn.v rfl rfl rfl rfl (V.as rfl) (Rn.regEnd (Rn.seq (Rn.seq (Rn.reg (Rn.v rfl rfl rfl rfl (V.mv rfl) (Rn.v rfl rfl rfl rfl (V.mv rfl) (Rn.v rfl rfl rfl rfl (V.mv rfl) (Rn.bslS rfl rfl rfl Try.underlying31 el29 rfl rfl rfl rfl (by first | exact szs rfl | (simp [Value.cells]; done)) (by decide) ?_))))))))))))
          intro b29 w29 hb29 m29 e29
          have hm30 := hm28.addLit (rep := (intR .i64)) (xs := ([p15.1, p21.1, p25.1] : List Int)) (vss := [[.int .i64 (p15.1)], [.int .i64 (p21.1)], [.int .i64 (p25.1)]]) hb29 e29 m29 rfl rfl rfl ((rels_cons (fun _ _ => ⟨rfl, trivial⟩) (rels_cons (fun _ _ => ⟨rfl, trivial⟩) (rels_cons (fun _ _ => ⟨rfl, trivial⟩) rels0))))
          refine Rn.v rfl rfl rfl rfl (V.lenV Try.underlying31 rfl) (Rn.v rfl rfl rfl rfl (V.mv rfl) (Rn.regEnd ?_))
          obtain ⟨j2, hj2, hM⟩ := jnE hM
          refine Rn.joinG (r := r) (G := Int × (Nat → Prop)) (fun g => [(0, .int .i64 (x0)), (3, .slice A8 (y7).length c8), (5, .pointer (optP b11_0 p11)), (9, .int .i64 ((g.1)))]) (fun g w' => Hp Z0 No w w' [ownR 26 A8 c8 T_api_File.rep y7, diskO 59 64 5 (g.2) b11_0 p25.2, ownR 29 (some ⟨b29, 0, none⟩) 3 (intR .i64) ([p15.1, p21.1, p25.1] : List Int)]) (fun g => j2 g.1) ?_ ?_
          · subst hj2
            clear hM
            rintro ⟨y33, F32⟩ w34 hm34 hM
            replace hm34 : Hp Z0 No w w34 [ownR 26 A8 c8 T_api_File.rep y7, diskO 59 64 5 F32 b11_0 p25.2, ownR 29 (some ⟨b29, 0, none⟩) 3 (intR .i64) ([p15.1, p21.1, p25.1] : List Int)] := hm34
            show Rn _ _ _ _ _ [(0, .int .i64 (x0)), (3, .slice A8 (y7).length c8), (5, .pointer (optP b11_0 p11)), (9, .int .i64 (y33))] _
            try dsimp only at hM
            refine Rn.seq (Rn.reg (Rn.v rfl rfl rfl rfl (V.mv rfl) (Rn.v rfl rfl rfl rfl (V.bldS st26 rfl rfl) (Rn.v rfl rfl rfl rfl (V.bldS st26 rfl rfl) (Rn.v rfl rfl rfl rfl (V.bldS st26 rfl rfl) (Rn.bslS rfl rfl rfl Try.underlying23 el26 rfl rfl rfl rfl (by first | exact szs rfl | (simp [Value.cells]; done)) (by decide) ?_))))))
            intro b35 w35 hb35 m35 e35
            have hm36 := hm34.addLitZ (rep := T_api_File.rep) (xs := ([({ Name := ([120] : List UInt8), Data := [] } : T_api_File), ({ Name := ([121] : List UInt8), Data := [] } : T_api_File), ({ Name := ([122] : List UInt8), Data := [] } : T_api_File)] : List T_api_File)) (vss := [[Str (([120] : List UInt8)), .slice none 0 0], [Str (([121] : List UInt8)), .slice none 0 0], [Str (([122] : List UInt8)), .slice none 0 0]]) hb35 e35 m35 rfl rfl rfl ((relz_cons (show T_api_File.rep.rel _ _ _ _ from ⟨_, _, rfl, ⟨rfl, trivial⟩, ⟨none, 0, rfl, Nat.le_refl _, Nat.zero_le _, Sl.nil _ _ _ _⟩⟩) (relz_cons (show T_api_File.rep.rel _ _ _ _ from ⟨_, _, rfl, ⟨rfl, trivial⟩, ⟨none, 0, rfl, Nat.le_refl _, Nat.zero_le _, Sl.nil _ _ _ _⟩⟩) (relz_cons (show T_api_File.rep.rel _ _ _ _ from ⟨_, _, rfl, ⟨rfl, trivial⟩, ⟨none, 0, rfl, Nat.le_refl _, Nat.zero_le _, Sl.nil _ _ _ _⟩⟩) relz0))))
            obtain ⟨z38, e38, hM⟩ := bindE hM
            refine Rn.appH hm36 0 rfl e38 rfl rfl rfl Try.underlying23 el26 rfl rfl rfl rfl (hm36.srcO 3 rfl) ?_
            intro A38 c38 w38 hm38
            refine Rn.v rfl rfl rfl rfl (V.as rfl) (Rn.regEnd (Rn.seq (Rn.reg (Rn.v rfl rfl rfl rfl (V.mv rfl) (Rn.v rfl rfl rfl rfl (V.mv rfl) (Rn.v rfl rfl rfl rfl (V.addW rfl rfl) (Rn.v rfl rfl rfl rfl (V.eql rfl rfl) (Rn.v rfl rfl rfl rfl (V.mv rfl) ?_))))))))
            obtain ⟨j3, hj3, hM⟩ := jnE hM
            refine Rn.joinR (r := r) (G := Bool × (Nat → Prop)) [10, 11, 12, 13, 14, 15] (fun g => [(3, .slice A38 (z38).length c38), (86, .bool ((g.1)))]) (fun g w' => Hp Z0 No w w' [ownR 26 A38 c38 T_api_File.rep z38, diskO 59 64 5 (g.2) b11_0 p25.2, ownR 29 (some ⟨b29, 0, none⟩) 3 (intR .i64) ([p15.1, p21.1, p25.1] : List Int), ownR 26 (some ⟨b35, 0, none⟩) 3 T_api_File.rep ([({ Name := ([120] : List UInt8), Data := [] } : T_api_File), ({ Name := ([121] : List UInt8), Data := [] } : T_api_File), ({ Name := ([122] : List UInt8), Data := [] } : T_api_File)] : List T_api_File)]) (fun g => j3 g.1) ?_ ?_
            · subst hj3
              clear hM
              rintro ⟨y41, F40⟩ w42 hm42 hM
              replace hm42 : Hp Z0 No w w42 [ownR 26 A38 c38 T_api_File.rep z38, diskO 59 64 5 F40 b11_0 p25.2, ownR 29 (some ⟨b29, 0, none⟩) 3 (intR .i64) ([p15.1, p21.1, p25.1] : List Int), ownR 26 (some ⟨b35, 0, none⟩) 3 T_api_File.rep ([({ Name := ([120] : List UInt8), Data := [] } : T_api_File), ({ Name := ([121] : List UInt8), Data := [] } : T_api_File), ({ Name := ([122] : List UInt8), Data := [] } : T_api_File)] : List T_api_File)] := hm42
              show Rn _ _ _ _ _ [(3, .slice A38 (z38).length c38), (86, .bool (y41))] _
              try dsimp only at hM
              refine Rn.v rfl rfl rfl rfl (V.mv rfl) ?_
              obtain ⟨j4, hj4, hM⟩ := jnE hM
              refine Rn.joinR (r := r) (G := Bool × (Nat → Prop)) [15] (fun g => [(91, .bool ((g.1)))]) (fun g w' => Hp Z0 No w w' [ownR 26 A38 c38 T_api_File.rep z38, diskO 59 64 5 (g.2) b11_0 p25.2, ownR 29 (some ⟨b29, 0, none⟩) 3 (intR .i64) ([p15.1, p21.1, p25.1] : List Int), ownR 26 (some ⟨b35, 0, none⟩) 3 T_api_File.rep ([({ Name := ([120] : List UInt8), Data := [] } : T_api_File), ({ Name := ([121] : List UInt8), Data := [] } : T_api_File), ({ Name := ([122] : List UInt8), Data := [] } : T_api_File)] : List T_api_File)]) (fun g => j4 g.1) ?_ ?_
              · subst hj4
                clear hM
                rintro ⟨y44, F43⟩ w45 hm45 hM
                replace hm45 : Hp Z0 No w w45 [ownR 26 A38 c38 T_api_File.rep z38, diskO 59 64 5 F43 b11_0 p25.2, ownR 29 (some ⟨b29, 0, none⟩) 3 (intR .i64) ([p15.1, p21.1, p25.1] : List Int), ownR 26 (some ⟨b35, 0, none⟩) 3 T_api_File.rep ([({ Name := ([120] : List UInt8), Data := [] } : T_api_File), ({ Name := ([121] : List UInt8), Data := [] } : T_api_File), ({ Name := ([122] : List UInt8), Data := [] } : T_api_File)] : List T_api_File)] := hm45
                show Rn _ _ _ _ _ [(91, .bool (y44))] _
                try dsimp only at hM
                refine Rn.v rfl rfl rfl rfl (V.as rfl) (Rn.regEnd ?_)
                refine Rn.retG1 Try.func3 rfl (rvT rfl) ?_
                obtain rfl := someE hM
                exact ⟨rfl, hm45.pick [] rfl (by decide)⟩
              intro hk4
              clear hj4
              refine Rn.part (t := 87) rfl (fun h46 => ?_) (fun h46 => ?_)
              · replace hM := iteT h46 hM
                refine Rn.v rfl rfl rfl rfl (V.mv rfl) ?_
                obtain ⟨p47, e47, hM⟩ := bindE hM
                refine Rn.cl ck7 rfl rfl rfl rfl (m_disk_New_sim (Z0 := All) _ A38 c38 z38 1 (own_slR (hm42.get 0 rfl)) e47) ?_
                rintro _ w47 ⟨F47_0, b47_0, rfl, hq47⟩
                refine ⟨_, rfl, ?_⟩
                have hm49 : Hp Z0 No w w47 [ownR 26 A38 c38 T_api_File.rep z38, diskO 59 64 5 F40 b11_0 p25.2, ownR 29 (some ⟨b29, 0, none⟩) 3 (intR .i64) ([p15.1, p21.1, p25.1] : List Int), ownR 26 (some ⟨b35, 0, none⟩) 3 T_api_File.rep ([({ Name := ([120] : List UInt8), Data := [] } : T_api_File), ({ Name := ([121] : List UInt8), Data := [] } : T_api_File), ({ Name := ([122] : List UInt8), Data := [] } : T_api_File)] : List T_api_File), optR p47 (fun z => diskO 59 64 5 F47_0 b47_0 z)] := hm42.callF (flC (optR_flat fun _ => diskO_flat _ _ _ _ _ _) fl0) hq47
                refine Rn.v rfl rfl rfl rfl (V.eqlO Try.underlying27 rfl rfl) (Rn.v rfl rfl rfl rfl (V.pkT rfl rfl) ?_)
                exact hk4 (((p47).isNone), F40) _ _ (Sub.cons rfl (Sub.nil _)) (hm49.pick [0, 1, 2, 3] rfl (by decide)) hM
              · replace hM := iteF (by rw [h46]; exact Bool.false_ne_true) hM
                refine Rn.no rfl rfl rfl rfl (Rn.no rfl rfl rfl rfl (Rn.no rfl rfl rfl rfl (Rn.v rfl rfl rfl rfl (V.pkF rfl rfl) ?_)))
                exact hk4 (false, F40) _ _ (Sub.cons rfl (Sub.nil _)) (hm42.pick [0, 1, 2, 3] rfl (by decide)) hM
            intro hk3
            clear hj3
            refine Rn.partD (t := 81) rfl (fun h50 => ?_) (fun h50 => ?_)
            · replace hM := iteT h50 hM
              refine Rn.v rfl rfl rfl rfl (V.mv rfl) ?_
              refine Rn.say (t := 82) (.pointer (some ⟨b11_0, 0, none⟩)) rfl (by rw [e16]; rfl) ?_
              obtain ⟨p51, e51, hM⟩ := bindE hM
              refine Rn.cl ck9 rfl rfl rfl rfl (m_disk_Disk_Names_sim (Z0 := All) _ F32 b11_0 p25.2 (fz_all (hm38.get 1 rfl)) e51) ?_
              rintro _ w51 ⟨A51_0_0, c51_0_0, rfl, hq51⟩
              refine ⟨_, rfl, ?_⟩
              have hm53 : Hp Z0 No w w51 [ownR 26 A38 c38 T_api_File.rep z38, diskO 59 64 5 F32 b11_0 p25.2, ownR 29 (some ⟨b29, 0, none⟩) 3 (intR .i64) ([p15.1, p21.1, p25.1] : List Int), ownR 26 (some ⟨b35, 0, none⟩) 3 T_api_File.rep ([({ Name := ([120] : List UInt8), Data := [] } : T_api_File), ({ Name := ([121] : List UInt8), Data := [] } : T_api_File), ({ Name := ([122] : List UInt8), Data := [] } : T_api_File)] : List T_api_File), ownR 9 A51_0_0 c51_0_0 textR p51] := hm38.callF (flC (ownR_flat text_flat _ _ _ _) fl0) hq51
              refine Rn.v rfl rfl rfl rfl (V.lenV Try.underlying32 rfl) (Rn.v rfl rfl rfl rfl (V.eql rfl rfl) (Rn.v rfl rfl rfl rfl (V.pkT rfl rfl) ?_))
              exact hk3 ((decide ((p51.length : Int) = 4096)), F32) _ _ (Sub.cons rfl (Sub.cons rfl (Sub.nil _))) (hm53.pick [0, 1, 2, 3] rfl (by decide)) hM
            · replace hM := iteF h50 hM
              refine Rn.no rfl rfl rfl rfl (Rn.no rfl rfl rfl rfl (Rn.no rfl rfl rfl rfl (Rn.no rfl rfl rfl rfl (Rn.v rfl rfl rfl rfl (V.pkF rfl rfl) ?_))))
              exact hk3 (false, F32) _ _ (Sub.cons rfl (Sub.cons rfl (Sub.nil _))) (hm38.pick [0, 1, 2, 3] rfl (by decide)) hM
          intro hk2
          clear hj2
          refine Rn.block ?_
          refine Rn.loopF (G := Int × Int × (Nat → Prop)) (fun g => [(0, .int .i64 (x0)), (3, .slice A8 (y7).length c8), (5, .pointer (optP b11_0 p11)), (9, .int .i64 ((g.1))), (58, .slice (some ⟨b29, 0, none⟩) (([p15.1, p21.1, p25.1] : List Int)).length 3), (59, .int .i64 ((([p15.1, p21.1, p25.1] : List Int).length : Int))), (60, .int .i64 ((g.2.1)))]) (fun g w' => Hp Z0 No w w' [ownR 26 A8 c8 T_api_File.rep y7, diskO 59 64 5 (g.2.2) b11_0 p25.2, ownR 29 (some ⟨b29, 0, none⟩) 3 (intR .i64) ([p15.1, p21.1, p25.1] : List Int)]) (fun n g => m_limnographlaw18_DiskMost_L1 p15 p21 p25 j2 n g.1 g.2.1) fuel (0, 0, F25_p0) (Sub.cons rfl (Sub.cons rfl (Sub.cons rfl (Sub.cons rfl (Sub.cons rfl (Sub.cons rfl (Sub.cons rfl (Sub.nil _)))))))) (hm30.pick [0, 1, 2] rfl (by decide)) hM (fun _ => rfl) ?_
          clear hM
          rintro m57 ⟨y55, y56, F54⟩ w57 hm57 hM hn57
          replace hm57 : Hp Z0 No w w57 [ownR 26 A8 c8 T_api_File.rep y7, diskO 59 64 5 F54 b11_0 p25.2, ownR 29 (some ⟨b29, 0, none⟩) 3 (intR .i64) ([p15.1, p21.1, p25.1] : List Int)] := hm57
          show Rn _ _ _ _ _ [(0, .int .i64 (x0)), (3, .slice A8 (y7).length c8), (5, .pointer (optP b11_0 p11)), (9, .int .i64 (y55)), (58, .slice (some ⟨b29, 0, none⟩) (([p15.1, p21.1, p25.1] : List Int)).length 3), (59, .int .i64 ((([p15.1, p21.1, p25.1] : List Int).length : Int))), (60, .int .i64 (y56))] _
          replace hM : m_limnographlaw18_DiskMost_L1 p15 p21 p25 j2 (m57 + 1) y55 y56 = some r := hM
          rw [m_limnographlaw18_DiskMost_L1] at hM
          refine Rn.seq (Rn.reg (Rn.v rfl rfl rfl rfl (V.lss rfl rfl) (Rn.regEnd (Rn.seq ?_))))
          refine Rn.condD rfl (fun h58 => ?_) (fun h58 => ?_)
          · replace hM := iteT h58 hM
            refine Rn.skip (Rn.seq ?_)
            obtain ⟨j5, hj5, hM⟩ := jnE hM
            refine Rn.joinG (r := r) (G := Int × (Nat → Prop)) (fun g => [(0, .int .i64 (x0)), (3, .slice A8 (y7).length c8), (5, .pointer (optP b11_0 p11)), (9, .int .i64 ((g.1))), (58, .slice (some ⟨b29, 0, none⟩) (([p15.1, p21.1, p25.1] : List Int)).length 3), (59, .int .i64 ((([p15.1, p21.1, p25.1] : List Int).length : Int))), (60, .int .i64 (y56))]) (fun g w' => Hp Z0 No w w' [ownR 26 A8 c8 T_api_File.rep y7, diskO 59 64 5 (g.2) b11_0 p25.2, ownR 29 (some ⟨b29, 0, none⟩) 3 (intR .i64) ([p15.1, p21.1, p25.1] : List Int)]) (fun g => j5 g.1) ?_ ?_
            · subst hj5
              clear hM
              rintro ⟨y60, F59⟩ w61 hm61 hM
              replace hm61 : Hp Z0 No w w61 [ownR 26 A8 c8 T_api_File.rep y7, diskO 59 64 5 F59 b11_0 p25.2, ownR 29 (some ⟨b29, 0, none⟩) 3 (intR .i64) ([p15.1, p21.1, p25.1] : List Int)] := hm61
              show Rn _ _ _ _ _ [(0, .int .i64 (x0)), (3, .slice A8 (y7).length c8), (5, .pointer (optP b11_0 p11)), (9, .int .i64 (y60)), (58, .slice (some ⟨b29, 0, none⟩) (([p15.1, p21.1, p25.1] : List Int)).length 3), (59, .int .i64 ((([p15.1, p21.1, p25.1] : List Int).length : Int))), (60, .int .i64 (y56))] _
              try dsimp only at hM
              refine Rn.reg (Rn.v rfl rfl rfl rfl (V.addW rfl rfl) (Rn.v rfl rfl rfl rfl (V.mv rfl) (Rn.regEnd ?_)))
              exact hn57 (y60, (W64 (y56 + 1)), F59) _ _ (Sub.cons rfl (Sub.cons rfl (Sub.cons rfl (Sub.cons rfl (Sub.cons rfl (Sub.cons rfl (Sub.cons rfl (Sub.nil _)))))))) (hm61.pick [0, 1, 2] rfl (by decide)) hM
            intro hk5
            clear hj5
            refine Rn.block (Rn.seq (Rn.reg ?_))
            obtain ⟨z62, e62, hM⟩ := bindE hM
            obtain ⟨kk62, ke62, kz62, kl62⟩ := idxE e62
            obtain ⟨vs62, hR62, hrel62⟩ := hm57.ownAtL 2 rfl kz62
            obtain ⟨rfl, _⟩ := hrel62
            refine Rn.v rfl rfl rfl rfl (V.ixE kk62 Try.underlying31 Try.sizeOf29 rfl rfl ke62 kl62) (Rn.v rfl rfl rfl rfl (V.ldR0 Try.isAgg29 rfl hR62 rfl) (Rn.v rfl rfl rfl rfl (V.as rfl) (Rn.regEnd (Rn.seq (Rn.reg (Rn.v rfl rfl rfl rfl (V.mv rfl) (Rn.v rfl rfl rfl rfl (V.eql rfl rfl) (Rn.regEnd ?_))))))))
            refine Rn.condD rfl (fun h63 => ?_) (fun h63 => ?_)
            · replace hM := iteT h63 hM
              refine Rn.reg (Rn.v rfl rfl rfl rfl (V.mv rfl) (Rn.v rfl rfl rfl rfl (V.addW rfl rfl) (Rn.v rfl rfl rfl rfl (V.as rfl) (Rn.regEnd (Rn.inBlock ?_)))))
              exact hk5 ((W64 (y55 + 1)), F54) _ _ (Sub.cons rfl (Sub.cons rfl (Sub.cons rfl (Sub.cons rfl (Sub.cons rfl (Sub.cons rfl (Sub.cons rfl (Sub.nil _)))))))) (hm57.pick [0, 1, 2] rfl (by decide)) hM
            · replace hM := iteF h63 hM
              refine Rn.seq (Rn.reg (Rn.v rfl rfl rfl rfl (V.mv rfl) (Rn.v rfl rfl rfl rfl (V.neq rfl rfl) (Rn.regEnd ?_))))
              refine Rn.condD rfl (fun h64 => ?_) (fun h64 => ?_)
              · replace hM := iteT h64 hM
                refine Rn.seq (Rn.reg (Rn.v rfl rfl rfl rfl (V.as rfl) (Rn.regEnd ?_)))
                refine Rn.retG1 Try.func3 rfl (rvT rfl) ?_
                obtain rfl := someE hM
                exact ⟨rfl, hm57.pick [] rfl (by decide)⟩
              · replace hM := iteF h64 hM
                refine Rn.skip (Rn.inBlock ?_)
                exact hk5 (y55, F54) _ _ (Sub.cons rfl (Sub.cons rfl (Sub.cons rfl (Sub.cons rfl (Sub.cons rfl (Sub.cons rfl (Sub.cons rfl (Sub.nil _)))))))) (hm57.pick [0, 1, 2] rfl (by decide)) hM
          · replace hM := iteF h58 hM
            refine Rn.exit rfl ?_
            exact hk2 (y55, F54) _ _ (Sub.cons rfl (Sub.cons rfl (Sub.cons rfl (Sub.cons rfl (Sub.nil _))))) (hm57.pick [0, 1, 2] rfl (by decide)) hM
      intro hk1
      clear hj1
      refine Rn.block ?_
      have hm69 := hm2.addNil 26 T_api_File.rep
      refine Rn.loopF (G := (List T_api_File) × Int × Option Addr × Nat) (fun g => [(0, .int .i64 (x0)), (3, .slice (g.2.2.1) ((g.1)).length (g.2.2.2)), (4, .int .i64 ((g.2.1)))]) (fun g w' => Hp Z0 No w w' [ownR 26 (g.2.2.1) (g.2.2.2) T_api_File.rep (g.1)]) (fun n g => m_limnographlaw18_DiskMost_L2 x0 j1 n g.1 g.2.1) fuel (([] : List T_api_File), 0, none, 0) (Sub.cons rfl (Sub.cons rfl (Sub.cons rfl (Sub.nil _)))) (hm69.pick [0] rfl (by decide)) hM (fun _ => rfl) ?_
      clear hM
      rintro m71 ⟨y65, y68, A66, c66⟩ w71 hm71 hM hn71
      replace hm71 : Hp Z0 No w w71 [ownR 26 A66 c66 T_api_File.rep y65] := hm71
      show Rn _ _ _ _ _ [(0, .int .i64 (x0)), (3, .slice A66 (y65).length c66), (4, .int .i64 (y68))] _
      replace hM : m_limnographlaw18_DiskMost_L2 x0 j1 (m71 + 1) y65 y68 = some r := hM
      rw [m_limnographlaw18_DiskMost_L2] at hM
      refine Rn.seq (Rn.seq (Rn.reg (Rn.v rfl rfl rfl rfl (V.mv rfl) (Rn.v rfl rfl rfl rfl (V.mv rfl) (Rn.v rfl rfl rfl rfl (V.addW rfl rfl) (Rn.v rfl rfl rfl rfl (V.lss rfl rfl) (Rn.regEnd ?_)))))))
      refine Rn.condD rfl (fun h72 => ?_) (fun h72 => ?_)
      · replace hM := iteT h72 hM
        refine Rn.skip (Rn.seq (Rn.block (Rn.reg (Rn.v rfl rfl rfl rfl (V.mv rfl) (Rn.v rfl rfl rfl rfl (V.mv rfl) ?_)))))
        obtain ⟨z73, e73, hM⟩ := bindE hM
        refine Rn.v rfl rfl rfl rfl (V.remZ rfl rfl e73) (Rn.v rfl rfl rfl rfl (V.addW rfl rfl) (Rn.v rfl rfl rfl rfl (V.cv8 Try.underlying3 Try.underlying5 rfl) (Rn.v rfl rfl rfl rfl (V.mv rfl) ?_)))
        obtain ⟨z74, e74, hM⟩ := bindE hM
        refine Rn.v rfl rfl rfl rfl (V.quoZ rfl rfl e74) ?_
        obtain ⟨z75, e75, hM⟩ := bindE hM
        refine Rn.v rfl rfl rfl rfl (V.remZ rfl rfl e75) (Rn.v rfl rfl rfl rfl (V.addW rfl rfl) (Rn.v rfl rfl rfl rfl (V.cv8 Try.underlying3 Try.underlying5 rfl) (Rn.v rfl rfl rfl rfl (V.mv rfl) ?_)))
        obtain ⟨z76, e76, hM⟩ := bindE hM
        refine Rn.v rfl rfl rfl rfl (V.quoZ rfl rfl e76) (Rn.v rfl rfl rfl rfl (V.addW rfl rfl) (Rn.v rfl rfl rfl rfl (V.cv8 Try.underlying3 Try.underlying5 rfl) (Rn.bslS rfl rfl rfl Try.underlying24 el5 rfl rfl rfl rfl (by first | exact szs rfl | (simp [Value.cells]; done)) (by decide) ?_)))
        intro b77 w77 hb77 m77 e77
        have hm78 := hm71.addLit (rep := byteR) (xs := ([toU8 (W64 (97 + z73)), toU8 (W64 (97 + z75)), toU8 (W64 (97 + z76))] : List UInt8)) (vss := [[.int .u8 (((toU8 (W64 (97 + z73))).toNat : Nat) : Int)], [.int .u8 (((toU8 (W64 (97 + z75))).toNat : Nat) : Int)], [.int .u8 (((toU8 (W64 (97 + z76))).toNat : Nat) : Int)]]) hb77 e77 m77 rfl rfl rfl ((rels_cons (fun _ _ => ⟨rfl, trivial⟩) (rels_cons (fun _ _ => ⟨rfl, trivial⟩) (rels_cons (fun _ _ => ⟨rfl, trivial⟩) rels0))))
        refine Rn.v rfl rfl rfl rfl (V.b2s Try.underlying24 Try.underlying9 Try.underlying5 rfl rfl (Own.sl (hm78.get 1 rfl))) (Rn.v rfl rfl rfl rfl (V.bldS st26 rfl rfl) ?_)
        obtain ⟨z80, e80, hM⟩ := bindE hM
        refine Rn.pushH (z := ({ Name := ([toU8 (W64 (97 + z73)), toU8 (W64 (97 + z75)), toU8 (W64 (97 + z76))] : List UInt8), Data := [] } : T_api_File)) (vs := [Str (([toU8 (W64 (97 + z73)), toU8 (W64 (97 + z75)), toU8 (W64 (97 + z76))] : List UInt8)), .slice none 0 0]) hm78 0 rfl e80 rfl rfl rfl rfl Try.underlying23 el26 rfl rfl rfl rfl (fun _ => rfl) (⟨_, _, rfl, ⟨rfl, trivial⟩, ⟨none, 0, rfl, Nat.le_refl _, Nat.zero_le _, Sl.nil _ _ _ _⟩⟩) ?_
        intro A80 c80 w80 u80 hm80
        refine Rn.v rfl rfl rfl rfl (V.as rfl) (Rn.regEnd (Rn.inBlock (Rn.reg (Rn.v rfl rfl rfl rfl (V.mv rfl) (Rn.v rfl rfl rfl rfl (V.addW rfl rfl) (Rn.v rfl rfl rfl rfl (V.as rfl) (Rn.regEnd ?_)))))))
        exact hn71 (z80, (W64 (y68 + 1)), A80, c80) _ _ (Sub.cons rfl (Sub.cons rfl (Sub.cons rfl (Sub.nil _)))) (hm80.pick [0] rfl (by decide)) hM
      · replace hM := iteF h72 hM
        refine Rn.exit rfl ?_
        exact hk1 (y65, A66, c66) _ _ (Sub.cons rfl (Sub.cons rfl (Sub.nil _))) (hm71.pick [0] rfl (by decide)) hM

end Go.Proofs.Ytboelmiicbcjiaa
