/-
  The calls of functions of the program answer as their plain forms say, part 2. Printed by a program.
-/
import Derived.Test.YtopknmmckcijkaaRows
import Derived.Test.YtopknmmckcijkaaSA1
import Derived.Test.YtopknmmckcijkaaK1
import Derived.Test.YtopknmmckcijkaaWv
import Derived.Test.YtopknmmckcijkaaIt
set_option linter.unusedVariables false
set_option linter.unusedSimpArgs false
namespace Go.Proofs.Ytopknmmckcijkaa
open Go Go.RowKit Go.Wk
set_option maxRecDepth 20000 in
theorem m_limnographlaw19_WalOpens_sim {Z0 : Nat → Prop} (w : World) (A0 : Option Addr) (c0 : Nat) (x0 : (List UInt8)) (x1 : Bool) (x2 : (List UInt8)) {r : Bool} (f0 : (slR A0 c0 byteR x0).H Z0 w) (hM : m_limnographlaw19_WalOpens x0 x1 x2 = some r) :
    Calls Try.prog 4 #[.slice A0 (x0).length c0, .bool (x1), Str (x2)] w fun x w' => x = .returned (.bool (r)) ∧ Hp Z0 No w w' [] := by
  have hm0 := Hp.nil Z0 No w
  have hc0 := Calm.nil
  have hm2 := hm0.know (slR A0 c0 byteR x0) (fun _ h => h) (hm0.in0 hc0 f0)
  replace hc0 := hc0.snoc (r := slR A0 c0 byteR x0) (fun _ h => h)
  refine Rn.enter Try.func4 rfl rfl (Nat.le_of_ble_eq_true rfl) ?_
  refine Rn.seq (Rn.reg (Rn.v rfl rfl rfl rfl (V.as rfl) (Rn.regEnd (Rn.seq (Rn.seq (Rn.reg ?_))))))
  obtain ⟨p3, e3, hM⟩ := bindE hM
  refine Rn.cl ck6 rfl rfl rfl rfl (m_limnographlaw19_awake_sim (Z0 := All) _   e3) ?_
  rintro _ w3 ⟨rfl, hq3⟩
  refine ⟨_, rfl, ?_⟩
  have hm4 := hm2.call0 hq3
  refine Rn.v rfl rfl rfl rfl (V.notB rfl) (Rn.regEnd ?_)
  refine Rn.condS rfl (fun h5 => ?_) (fun h5 => ?_)
  · replace hM := iteT h5 hM
    refine Rn.seq (Rn.reg (Rn.v rfl rfl rfl rfl (V.as rfl) (Rn.regEnd ?_)))
    refine Rn.retG1 Try.func4 rfl (rvT rfl) ?_
    obtain rfl := someE hM
    exact ⟨rfl, hm4.pick [] rfl (by decide)⟩
  · replace hM := iteF (by rw [h5]; exact Bool.false_ne_true) hM
    refine Rn.skip (Rn.seq (Rn.seq (Rn.reg (Rn.v rfl rfl rfl rfl (V.mv rfl) (Rn.v rfl rfl rfl rfl (V.lenV Try.underlying22 rfl) (Rn.v rfl rfl rfl rfl (V.gtr rfl rfl) (Rn.v rfl rfl rfl rfl (V.mv rfl) ?_)))))))
    refine Rn.cutR [] [(0, .slice A0 (x0).length c0), (1, .bool (x1)), (2, Str (x2)), (24, .bool (decide (((x0.length : Int) > 3000) ∨ ((x2.length : Int) > 100))))] (fun hk6 => ?_) ?_
    · refine Rn.partD (t := 20) rfl (fun h7 => ?_) (fun h7 => ?_)
      · refine Rn.no rfl rfl rfl rfl (Rn.no rfl rfl rfl rfl (Rn.no rfl rfl rfl rfl (Rn.v rfl rfl rfl rfl (V.pkT rfl rfl) ?_)))
        refine hk6 _ ?_
        exact Sub.cons rfl (Sub.cons rfl (Sub.cons rfl (Sub.cons (lkv _ rfl (by first | exact andT h7 | exact andF h7 | exact orT h7 | exact orF h7 | exact nandF h7 | exact nandT h7 | exact norT h7 | exact norF h7 | (simp [h7]; done) | grind)) (Sub.nil _))))
      · refine Rn.v rfl rfl rfl rfl (V.mv rfl) (Rn.v rfl rfl rfl rfl (V.lenS Try.underlying9 rfl) (Rn.v rfl rfl rfl rfl (V.gtr rfl rfl) (Rn.v rfl rfl rfl rfl (V.pkF rfl rfl) ?_)))
        refine hk6 _ ?_
        exact Sub.cons rfl (Sub.cons rfl (Sub.cons rfl (Sub.cons (lkv _ rfl (by first | exact andT h7 | exact andF h7 | exact orT h7 | exact orF h7 | exact nandF h7 | exact nandT h7 | exact norT h7 | exact norF h7 | (simp [h7]; done) | grind)) (Sub.nil _))))
    refine Rn.regEnd ?_
    refine Rn.condD rfl (fun h8 => ?_) (fun h8 => ?_)
    · replace hM := iteT h8 hM
      refine Rn.seq (Rn.reg (Rn.v rfl rfl rfl rfl (V.as rfl) (Rn.regEnd ?_)))
      refine Rn.retG1 Try.func4 rfl (rvT rfl) ?_
      obtain rfl := someE hM
      exact ⟨rfl, hm4.pick [] rfl (by decide)⟩
    · replace hM := iteF h8 hM
      refine Rn.skip (Rn.seq (Rn.reg (Rn.v rfl rfl rfl rfl (V.mv rfl) (Rn.v rfl rfl rfl rfl (V.bldS st34 rfl rfl) (Rn.bslS rfl rfl rfl Try.underlying35 el34 rfl rfl rfl rfl (by first | exact szs rfl | (simp [Value.cells]; done)) (by decide) ?_)))))
      intro b9 w9 hb9 m9 e9
      have hm10 := hm4.addLitZ (rep := T_api_File.rep) (xs := ([({ Name := ([119] : List UInt8), Data := x0 } : T_api_File)] : List T_api_File)) (vss := [[Str (([119] : List UInt8)), .slice A0 (x0).length c0]]) hb9 e9 m9 rfl rfl rfl ((relz_cons (show T_api_File.rep.rel _ _ _ _ from ⟨_, _, rfl, ⟨rfl, trivial⟩, ⟨_, _, rfl, (hm4.get 0 rfl).1, (hm4.get 0 rfl).2.1, (hm4.get 0 rfl).2.2⟩⟩) relz0))
      refine Rn.v rfl rfl rfl rfl (V.as rfl) (Rn.regEnd (Rn.seq (Rn.seq (Rn.reg (Rn.v rfl rfl rfl rfl (V.mv rfl) (Rn.v rfl rfl rfl rfl (V.notB rfl) (Rn.regEnd ?_)))))))
      obtain ⟨j1, hj1, hM⟩ := jnE hM
      refine Rn.joinG (r := r) (G := (List UInt8) × (List T_api_File) × Option Addr × Nat) (fun g => [(0, .slice A0 (x0).length c0), (1, .bool (x1)), (2, Str ((g.1))), (7, .slice (g.2.2.1) ((g.2.1)).length (g.2.2.2))]) (fun g w' => Hp Z0 No w w' [slR A0 c0 byteR x0, ownR 34 (g.2.2.1) (g.2.2.2) T_api_File.rep (g.2.1)]) (fun g => j1 g.1 g.2.1) ?_ ?_
      · subst hj1
        clear hM
        rintro ⟨y12, y13, A14, c14⟩ w16 hm16 hM
        replace hm16 : Hp Z0 No w w16 [slR A0 c0 byteR x0, ownR 34 A14 c14 T_api_File.rep y13] := hm16
        show Rn _ _ _ _ _ [(0, .slice A0 (x0).length c0), (1, .bool (x1)), (2, Str (y12)), (7, .slice A14 (y13).length c14)] _
        try dsimp only at hM
        refine Rn.seq (Rn.reg (Rn.v rfl rfl rfl rfl (V.mv rfl) ?_))
        obtain ⟨p17, e17, hM⟩ := bindE hM
        refine Rn.cl ck10 rfl rfl rfl rfl (m_disk_New_sim (Z0 := All) _ A14 c14 y13 10000 (own_slR (hm16.get 1 rfl)) e17) ?_
        rintro _ w17 ⟨F17_0, b17_0, rfl, hq17⟩
        refine ⟨_, rfl, ?_⟩
        have hm19 : Hp Z0 No w w17 [slR A0 c0 byteR x0, ownR 34 A14 c14 T_api_File.rep y13, optR p17 (fun z => diskO 63 68 5 F17_0 b17_0 z)] := hm16.callF (flC (optR_flat fun _ => diskO_flat _ _ _ _ _ _) fl0) hq17
        refine Rn.v rfl rfl rfl rfl (V.as rfl) (Rn.regEnd (Rn.seq (Rn.seq (Rn.reg (Rn.v rfl rfl rfl rfl (V.mv rfl) (Rn.v rfl rfl rfl rfl (V.eqlO Try.underlying36 rfl rfl) (Rn.regEnd ?_)))))))
        refine Rn.condS rfl (fun h20 => ?_) (fun h20 => ?_)
        · replace hM := iteT h20 hM
          refine Rn.seq (Rn.reg (Rn.v rfl rfl rfl rfl (V.as rfl) (Rn.regEnd ?_)))
          refine Rn.retG1 Try.func4 rfl (rvT rfl) ?_
          obtain rfl := someE hM
          exact ⟨rfl, hm19.pick [] rfl (by decide)⟩
        · replace hM := iteF (by rw [h20]; exact Bool.false_ne_true) hM
          refine Rn.skip (Rn.seq (Rn.reg (Rn.v rfl rfl rfl rfl (V.mv rfl) (Rn.v rfl rfl rfl rfl (V.mv rfl) ?_))))
          obtain ⟨z22, e22, hM⟩ := bindE hM
          have hm23 : Hp Z0 No w w17 [slR A0 c0 byteR x0, ownR 34 A14 c14 T_api_File.rep y13, diskO 63 68 5 F17_0 b17_0 z22] := hm19.optSome 2 rfl e22
          refine Rn.say (t := 35) (.pointer (some ⟨b17_0, 0, none⟩)) rfl (by rw [e22]; rfl) ?_
          obtain ⟨p21, e21, hM⟩ := bindE hM
          have hm24 : Hp Z0 No w w17 ([slR A0 c0 byteR x0, ownR 34 A14 c14 T_api_File.rep y13] ++ [diskO 63 68 5 F17_0 b17_0 z22]) := hm23.pick [0, 1, 2] rfl (by decide)
          refine Rn.cl ck11 rfl rfl rfl rfl (m_wal_Open_sim (Z0 := _) _ F17_0 b17_0 z22 y12 hm24.lend e21) ?_
          rintro _ w21 ⟨F21_0, b21_0, A21_1_0, c21_1_0, F21_p0, rfl, hq21⟩
          refine ⟨_, rfl, ?_⟩
          have hm28 : Hp Z0 No w w21 [slR A0 c0 byteR x0, ownR 34 A14 c14 T_api_File.rep y13, optR p21.1 (fun z => T_wal_Log.obj F21_0 b21_0 b17_0 z), ownR 22 A21_1_0 c21_1_0 (Rep.sl byteR) p21.2.1, diskO 63 68 5 F21_p0 b17_0 p21.2.2.2] := hm24.callAZ hq21
          refine Rn.v rfl rfl rfl rfl (V.mv rfl) (Rn.v rfl rfl rfl rfl (V.ext rfl rfl) (Rn.v rfl rfl rfl rfl (V.ext rfl rfl) (Rn.v rfl rfl rfl rfl (V.ext rfl rfl) (Rn.v rfl rfl rfl rfl (V.as rfl) (Rn.v rfl rfl rfl rfl (V.as rfl) (Rn.v rfl rfl rfl rfl (V.as rfl) (Rn.regEnd (Rn.seq (Rn.seq (Rn.reg (Rn.v rfl rfl rfl rfl (V.mv rfl) (Rn.v rfl rfl rfl rfl (V.notB rfl) (Rn.regEnd ?_)))))))))))))
          refine Rn.condS rfl (fun h29 => ?_) (fun h29 => ?_)
          · replace hM := iteT h29 hM
            refine Rn.seq (Rn.seq (Rn.reg (Rn.v rfl rfl rfl rfl (V.mv rfl) (Rn.v rfl rfl rfl rfl (V.eql rfl rfl) (Rn.regEnd ?_)))))
            refine Rn.condD rfl (fun h30 => ?_) (fun h30 => ?_)
            · replace hM := iteT h30 hM
              refine Rn.seq (Rn.reg (Rn.v rfl rfl rfl rfl (V.mv rfl) (Rn.v rfl rfl rfl rfl (V.eqlO Try.underlying38 rfl rfl) (Rn.v rfl rfl rfl rfl (V.mv rfl) ?_))))
              obtain ⟨j2, hj2, hM⟩ := jnE hM
              refine Rn.joinR (r := r) (G := Bool × (Nat → Prop) × (Nat → Prop)) [8] (fun g => [(52, .bool ((g.1)))]) (fun g w' => Hp Z0 No w w' [slR A0 c0 byteR x0, ownR 34 A14 c14 T_api_File.rep y13, optR p21.1 (fun z => T_wal_Log.obj (g.2.1) b21_0 b17_0 z), ownR 22 A21_1_0 c21_1_0 (Rep.sl byteR) p21.2.1, diskO 63 68 5 (g.2.2) b17_0 p21.2.2.2]) (fun g => j2 g.1) ?_ ?_
              · subst hj2
                clear hM
                rintro ⟨y33, F31, F32⟩ w34 hm34 hM
                replace hm34 : Hp Z0 No w w34 [slR A0 c0 byteR x0, ownR 34 A14 c14 T_api_File.rep y13, optR p21.1 (fun z => T_wal_Log.obj F31 b21_0 b17_0 z), ownR 22 A21_1_0 c21_1_0 (Rep.sl byteR) p21.2.1, diskO 63 68 5 F32 b17_0 p21.2.2.2] := hm34
                show Rn _ _ _ _ _ [(52, .bool (y33))] _
                try dsimp only at hM
                refine Rn.v rfl rfl rfl rfl (V.as rfl) (Rn.regEnd ?_)
                refine Rn.retG1 Try.func4 rfl (rvT rfl) ?_
                obtain rfl := someE hM
                exact ⟨rfl, hm34.pick [] rfl (by decide)⟩
              intro hk2
              clear hj2
              refine Rn.part (t := 47) rfl (fun h35 => ?_) (fun h35 => ?_)
              · replace hM := iteT h35 hM
                refine Rn.v rfl rfl rfl rfl (V.mv rfl) ?_
                refine Rn.say (t := 48) (.pointer (some ⟨b17_0, 0, none⟩)) rfl (by rw [e22]; rfl) ?_
                obtain ⟨p36, e36, hM⟩ := bindE hM
                refine Rn.cl ck12 rfl rfl rfl rfl (m_disk_Disk_Names_sim (Z0 := All) _ F21_p0 b17_0 p21.2.2.2 (fz_all (hm28.get 4 rfl)) e36) ?_
                rintro _ w36 ⟨A36_0_0, c36_0_0, rfl, hq36⟩
                refine ⟨_, rfl, ?_⟩
                have hm38 : Hp Z0 No w w36 [slR A0 c0 byteR x0, ownR 34 A14 c14 T_api_File.rep y13, optR p21.1 (fun z => T_wal_Log.obj F21_0 b21_0 b17_0 z), ownR 22 A21_1_0 c21_1_0 (Rep.sl byteR) p21.2.1, diskO 63 68 5 F21_p0 b17_0 p21.2.2.2, ownR 9 A36_0_0 c36_0_0 textR p36] := hm28.callF (flC (ownR_flat text_flat _ _ _ _) fl0) hq36
                refine Rn.v rfl rfl rfl rfl (V.lenV Try.underlying41 rfl) (Rn.v rfl rfl rfl rfl (V.eql rfl rfl) (Rn.v rfl rfl rfl rfl (V.pkT rfl rfl) ?_))
                exact hk2 ((decide ((p36.length : Int) = 0)), F21_0, F21_p0) _ _ (Sub.cons rfl (Sub.nil _)) (hm38.pick [0, 1, 2, 3, 4] rfl (by decide)) hM
              · replace hM := iteF (by rw [h35]; exact Bool.false_ne_true) hM
                refine Rn.no rfl rfl rfl rfl (Rn.no rfl rfl rfl rfl (Rn.no rfl rfl rfl rfl (Rn.no rfl rfl rfl rfl (Rn.v rfl rfl rfl rfl (V.pkF rfl rfl) ?_))))
                exact hk2 (false, F21_0, F21_p0) _ _ (Sub.cons rfl (Sub.nil _)) (hm28.pick [0, 1, 2, 3, 4] rfl (by decide)) hM
            · replace hM := iteF h30 hM
              refine Rn.skip (Rn.seq (Rn.reg (Rn.v rfl rfl rfl rfl (V.mv rfl) (Rn.v rfl rfl rfl rfl (V.eql rfl rfl) (Rn.v rfl rfl rfl rfl (V.mv rfl) ?_)))))
              obtain ⟨j3, hj3, hM⟩ := jnE hM
              refine Rn.joinR (r := r) (G := Bool × (Nat → Prop) × (Nat → Prop)) [6, 7, 8, 9, 10, 11, 12, 13, 14, 15, 16, 17, 18, 19, 20, 21, 22, 23, 24, 25, 26, 27, 28, 29, 30, 31, 32, 33] (fun g => [(2, Str (y12)), (8, .pointer (optP b17_0 p17)), (9, .pointer (optP b21_0 p21.1)), (10, .slice A21_1_0 (p21.2.1).length c21_1_0), (58, .bool ((g.1)))]) (fun g w' => Hp Z0 No w w' [slR A0 c0 byteR x0, ownR 34 A14 c14 T_api_File.rep y13, optR p21.1 (fun z => T_wal_Log.obj (g.2.1) b21_0 b17_0 z), ownR 22 A21_1_0 c21_1_0 (Rep.sl byteR) p21.2.1, diskO 63 68 5 (g.2.2) b17_0 p21.2.2.2]) (fun g => j3 g.1) ?_ ?_
              · subst hj3
                clear hM
                rintro ⟨y41, F39, F40⟩ w42 hm42 hM
                replace hm42 : Hp Z0 No w w42 [slR A0 c0 byteR x0, ownR 34 A14 c14 T_api_File.rep y13, optR p21.1 (fun z => T_wal_Log.obj F39 b21_0 b17_0 z), ownR 22 A21_1_0 c21_1_0 (Rep.sl byteR) p21.2.1, diskO 63 68 5 F40 b17_0 p21.2.2.2] := hm42
                show Rn _ _ _ _ _ [(2, Str (y12)), (8, .pointer (optP b17_0 p17)), (9, .pointer (optP b21_0 p21.1)), (10, .slice A21_1_0 (p21.2.1).length c21_1_0), (58, .bool (y41))] _
                try dsimp only at hM
                refine Rn.v rfl rfl rfl rfl (V.mv rfl) ?_
                refine Rn.cutR [11, 12, 13, 14, 15, 16, 17, 18, 19, 20, 21, 22, 23, 24, 25, 26, 27, 28, 29, 30, 31, 32, 33] [(2, Str (y12)), (8, .pointer (optP b17_0 p17)), (9, .pointer (optP b21_0 p21.1)), (63, .bool (decide ((y41 = true) ∧ ((p21.2.1.length : Int) = 0))))] (fun hk43 => ?_) ?_
                · refine Rn.part (t := 59) rfl (fun h44 => ?_) (fun h44 => ?_)
                  · refine Rn.v rfl rfl rfl rfl (V.mv rfl) (Rn.v rfl rfl rfl rfl (V.lenV Try.underlying24 rfl) (Rn.v rfl rfl rfl rfl (V.eql rfl rfl) (Rn.v rfl rfl rfl rfl (V.pkT rfl rfl) ?_)))
                    refine hk43 _ ?_
                    exact Sub.cons rfl (Sub.cons rfl (Sub.cons rfl (Sub.cons (lkv _ rfl (by first | exact andT h44 | exact andF h44 | exact orT h44 | exact orF h44 | exact nandF h44 | exact nandT h44 | exact norT h44 | exact norF h44 | (simp [h44]; done) | grind)) (Sub.nil _))))
                  · refine Rn.no rfl rfl rfl rfl (Rn.no rfl rfl rfl rfl (Rn.no rfl rfl rfl rfl (Rn.v rfl rfl rfl rfl (V.pkF rfl rfl) ?_)))
                    refine hk43 _ ?_
                    exact Sub.cons rfl (Sub.cons rfl (Sub.cons rfl (Sub.cons (lkv _ rfl (by first | exact andT h44 | exact andF h44 | exact orT h44 | exact orF h44 | exact nandF h44 | exact nandT h44 | exact norT h44 | exact norF h44 | (simp [h44]; done) | grind)) (Sub.nil _))))
                refine Rn.v rfl rfl rfl rfl (V.mv rfl) ?_
                obtain ⟨j4, hj4, hM⟩ := jnE hM
                refine Rn.joinR (r := r) (G := Bool × (Nat → Prop) × (Nat → Prop)) [16, 17, 18, 19, 20, 21, 22, 23, 24, 25, 26, 27, 28, 29, 30, 31, 32, 33] (fun g => [(2, Str (y12)), (8, .pointer (optP b17_0 p17)), (9, .pointer (optP b21_0 p21.1)), (68, .bool ((g.1)))]) (fun g w' => Hp Z0 No w w' [slR A0 c0 byteR x0, ownR 34 A14 c14 T_api_File.rep y13, optR p21.1 (fun z => T_wal_Log.obj (g.2.1) b21_0 b17_0 z), ownR 22 A21_1_0 c21_1_0 (Rep.sl byteR) p21.2.1, diskO 63 68 5 (g.2.2) b17_0 p21.2.2.2]) (fun g => j4 g.1) ?_ ?_
                · subst hj4
                  clear hM
                  rintro ⟨y47, F45, F46⟩ w48 hm48 hM
                  replace hm48 : Hp Z0 No w w48 [slR A0 c0 byteR x0, ownR 34 A14 c14 T_api_File.rep y13, optR p21.1 (fun z => T_wal_Log.obj F45 b21_0 b17_0 z), ownR 22 A21_1_0 c21_1_0 (Rep.sl byteR) p21.2.1, diskO 63 68 5 F46 b17_0 p21.2.2.2] := hm48
                  show Rn _ _ _ _ _ [(2, Str (y12)), (8, .pointer (optP b17_0 p17)), (9, .pointer (optP b21_0 p21.1)), (68, .bool (y47))] _
                  try dsimp only at hM
                  refine Rn.v rfl rfl rfl rfl (V.mv rfl) ?_
                  obtain ⟨j5, hj5, hM⟩ := jnE hM
                  refine Rn.joinR (r := r) (G := Bool × (Nat → Prop) × (Nat → Prop)) [21, 22, 23, 24, 25, 26, 27, 28, 29, 30, 31, 32, 33] (fun g => [(2, Str (y12)), (8, .pointer (optP b17_0 p17)), (9, .pointer (optP b21_0 p21.1)), (73, .bool ((g.1)))]) (fun g w' => Hp Z0 No w w' [slR A0 c0 byteR x0, ownR 34 A14 c14 T_api_File.rep y13, optR p21.1 (fun z => T_wal_Log.obj (g.2.1) b21_0 b17_0 z), ownR 22 A21_1_0 c21_1_0 (Rep.sl byteR) p21.2.1, diskO 63 68 5 (g.2.2) b17_0 p21.2.2.2]) (fun g => j5 g.1) ?_ ?_
                  · subst hj5
                    clear hM
                    rintro ⟨y51, F49, F50⟩ w52 hm52 hM
                    replace hm52 : Hp Z0 No w w52 [slR A0 c0 byteR x0, ownR 34 A14 c14 T_api_File.rep y13, optR p21.1 (fun z => T_wal_Log.obj F49 b21_0 b17_0 z), ownR 22 A21_1_0 c21_1_0 (Rep.sl byteR) p21.2.1, diskO 63 68 5 F50 b17_0 p21.2.2.2] := hm52
                    show Rn _ _ _ _ _ [(2, Str (y12)), (8, .pointer (optP b17_0 p17)), (9, .pointer (optP b21_0 p21.1)), (73, .bool (y51))] _
                    try dsimp only at hM
                    refine Rn.v rfl rfl rfl rfl (V.mv rfl) ?_
                    obtain ⟨j6, hj6, hM⟩ := jnE hM
                    refine Rn.joinR (r := r) (G := Bool × (Nat → Prop) × (Nat → Prop)) [27, 28, 29, 30, 31, 32, 33] (fun g => [(8, .pointer (optP b17_0 p17)), (79, .bool ((g.1)))]) (fun g w' => Hp Z0 No w w' [slR A0 c0 byteR x0, ownR 34 A14 c14 T_api_File.rep y13, optR p21.1 (fun z => T_wal_Log.obj (g.2.1) b21_0 b17_0 z), ownR 22 A21_1_0 c21_1_0 (Rep.sl byteR) p21.2.1, diskO 63 68 5 (g.2.2) b17_0 p21.2.2.2]) (fun g => j6 g.1) ?_ ?_
                    · subst hj6
                      clear hM
                      rintro ⟨y55, F53, F54⟩ w56 hm56 hM
                      replace hm56 : Hp Z0 No w w56 [slR A0 c0 byteR x0, ownR 34 A14 c14 T_api_File.rep y13, optR p21.1 (fun z => T_wal_Log.obj F53 b21_0 b17_0 z), ownR 22 A21_1_0 c21_1_0 (Rep.sl byteR) p21.2.1, diskO 63 68 5 F54 b17_0 p21.2.2.2] := hm56
                      show Rn _ _ _ _ _ [(8, .pointer (optP b17_0 p17)), (79, .bool (y55))] _
                      try dsimp only at hM
                      refine Rn.v rfl rfl rfl rfl (V.mv rfl) ?_
                      obtain ⟨j7, hj7, hM⟩ := jnE hM
                      refine Rn.joinR (r := r) (G := Bool × (Nat → Prop) × (Nat → Prop)) [33] (fun g => [(85, .bool ((g.1)))]) (fun g w' => Hp Z0 No w w' [slR A0 c0 byteR x0, ownR 34 A14 c14 T_api_File.rep y13, optR p21.1 (fun z => T_wal_Log.obj (g.2.1) b21_0 b17_0 z), ownR 22 A21_1_0 c21_1_0 (Rep.sl byteR) p21.2.1, diskO 63 68 5 (g.2.2) b17_0 p21.2.2.2]) (fun g => j7 g.1) ?_ ?_
                      · subst hj7
                        clear hM
                        rintro ⟨y59, F57, F58⟩ w60 hm60 hM
                        replace hm60 : Hp Z0 No w w60 [slR A0 c0 byteR x0, ownR 34 A14 c14 T_api_File.rep y13, optR p21.1 (fun z => T_wal_Log.obj F57 b21_0 b17_0 z), ownR 22 A21_1_0 c21_1_0 (Rep.sl byteR) p21.2.1, diskO 63 68 5 F58 b17_0 p21.2.2.2] := hm60
                        show Rn _ _ _ _ _ [(85, .bool (y59))] _
                        try dsimp only at hM
                        refine Rn.v rfl rfl rfl rfl (V.as rfl) (Rn.regEnd ?_)
                        refine Rn.retG1 Try.func4 rfl (rvT rfl) ?_
                        obtain rfl := someE hM
                        exact ⟨rfl, hm60.pick [] rfl (by decide)⟩
                      intro hk7
                      clear hj7
                      refine Rn.part (t := 80) rfl (fun h61 => ?_) (fun h61 => ?_)
                      · replace hM := iteT h61 hM
                        refine Rn.v rfl rfl rfl rfl (V.mv rfl) ?_
                        refine Rn.say (t := 81) (.pointer (some ⟨b17_0, 0, none⟩)) rfl (by rw [e22]; rfl) ?_
                        obtain ⟨p62, e62, hM⟩ := bindE hM
                        refine Rn.cl ck12 rfl rfl rfl rfl (m_disk_Disk_Names_sim (Z0 := All) _ F54 b17_0 p21.2.2.2 (fz_all (hm56.get 4 rfl)) e62) ?_
                        rintro _ w62 ⟨A62_0_0, c62_0_0, rfl, hq62⟩
                        refine ⟨_, rfl, ?_⟩
                        have hm64 : Hp Z0 No w w62 [slR A0 c0 byteR x0, ownR 34 A14 c14 T_api_File.rep y13, optR p21.1 (fun z => T_wal_Log.obj F53 b21_0 b17_0 z), ownR 22 A21_1_0 c21_1_0 (Rep.sl byteR) p21.2.1, diskO 63 68 5 F54 b17_0 p21.2.2.2, ownR 9 A62_0_0 c62_0_0 textR p62] := hm56.callF (flC (ownR_flat text_flat _ _ _ _) fl0) hq62
                        refine Rn.v rfl rfl rfl rfl (V.lenV Try.underlying41 rfl) (Rn.v rfl rfl rfl rfl (V.eql rfl rfl) (Rn.v rfl rfl rfl rfl (V.pkT rfl rfl) ?_))
                        exact hk7 ((decide ((p62.length : Int) = 1)), F53, F54) _ _ (Sub.cons rfl (Sub.nil _)) (hm64.pick [0, 1, 2, 3, 4] rfl (by decide)) hM
                      · replace hM := iteF (by rw [h61]; exact Bool.false_ne_true) hM
                        refine Rn.no rfl rfl rfl rfl (Rn.no rfl rfl rfl rfl (Rn.no rfl rfl rfl rfl (Rn.no rfl rfl rfl rfl (Rn.v rfl rfl rfl rfl (V.pkF rfl rfl) ?_))))
                        exact hk7 (false, F53, F54) _ _ (Sub.cons rfl (Sub.nil _)) (hm56.pick [0, 1, 2, 3, 4] rfl (by decide)) hM
                    intro hk6
                    clear hj6
                    refine Rn.part (t := 74) rfl (fun h65 => ?_) (fun h65 => ?_)
                    · replace hM := iteT h65 hM
                      refine Rn.v rfl rfl rfl rfl (V.mv rfl) ?_
                      obtain ⟨z67, e67, hM⟩ := bindE hM
                      have hm68 : Hp Z0 No w w52 [slR A0 c0 byteR x0, ownR 34 A14 c14 T_api_File.rep y13, T_wal_Log.obj F49 b21_0 b17_0 z67, ownR 22 A21_1_0 c21_1_0 (Rep.sl byteR) p21.2.1, diskO 63 68 5 F50 b17_0 p21.2.2.2] := hm52.optSome 2 rfl e67
                      refine Rn.say (t := 75) (.pointer (some ⟨b21_0, 0, none⟩)) rfl (by rw [e67]; rfl) ?_
                      obtain ⟨p66, e66, hM⟩ := bindE hM
                      refine Rn.cl ck15 rfl rfl rfl rfl (m_wal_Log_Name_sim (Z0 := All) _ F49 b21_0 z67 F50 b17_0 p21.2.2.2 (fz_all (hm68.get 2 rfl)) (fz_all (hm68.get 4 rfl)) e66) ?_
                      rintro _ w66 ⟨rfl, hq66⟩
                      refine ⟨_, rfl, ?_⟩
                      have hm69 := hm68.call0 hq66
                      refine Rn.v rfl rfl rfl rfl (V.mv rfl) (Rn.v rfl rfl rfl rfl (V.eqlS rfl rfl) (Rn.v rfl rfl rfl rfl (V.pkT rfl rfl) ?_))
                      have hm70 : Hp Z0 No w w66 [slR A0 c0 byteR x0, ownR 34 A14 c14 T_api_File.rep y13, optR p21.1 (fun z => T_wal_Log.obj F49 b21_0 b17_0 z), ownR 22 A21_1_0 c21_1_0 (Rep.sl byteR) p21.2.1, diskO 63 68 5 F50 b17_0 p21.2.2.2] := hm69.toOpt (R := (fun z => T_wal_Log.obj F49 b21_0 b17_0 z)) 2 rfl e67
                      exact hk6 ((decide (p66 = y12)), F49, F50) _ _ (Sub.cons rfl (Sub.cons rfl (Sub.nil _))) (hm70.pick [0, 1, 2, 3, 4] rfl (by decide)) hM
                    · replace hM := iteF (by rw [h65]; exact Bool.false_ne_true) hM
                      refine Rn.no rfl rfl rfl rfl (Rn.no rfl rfl rfl rfl (Rn.no rfl rfl rfl rfl (Rn.no rfl rfl rfl rfl (Rn.v rfl rfl rfl rfl (V.pkF rfl rfl) ?_))))
                      exact hk6 (false, F49, F50) _ _ (Sub.cons rfl (Sub.cons rfl (Sub.nil _))) (hm52.pick [0, 1, 2, 3, 4] rfl (by decide)) hM
                  intro hk5
                  clear hj5
                  refine Rn.part (t := 69) rfl (fun h71 => ?_) (fun h71 => ?_)
                  · replace hM := iteT h71 hM
                    refine Rn.v rfl rfl rfl rfl (V.mv rfl) ?_
                    obtain ⟨z73, e73, hM⟩ := bindE hM
                    have hm74 : Hp Z0 No w w48 [slR A0 c0 byteR x0, ownR 34 A14 c14 T_api_File.rep y13, T_wal_Log.obj F45 b21_0 b17_0 z73, ownR 22 A21_1_0 c21_1_0 (Rep.sl byteR) p21.2.1, diskO 63 68 5 F46 b17_0 p21.2.2.2] := hm48.optSome 2 rfl e73
                    refine Rn.say (t := 70) (.pointer (some ⟨b21_0, 0, none⟩)) rfl (by rw [e73]; rfl) ?_
                    obtain ⟨p72, e72, hM⟩ := bindE hM
                    refine Rn.cl ck14 rfl rfl rfl rfl (m_wal_Log_Size_sim (Z0 := All) _ F45 b21_0 z73 F46 b17_0 p21.2.2.2 (fz_all (hm74.get 2 rfl)) (fz_all (hm74.get 4 rfl)) e72) ?_
                    rintro _ w72 ⟨rfl, hq72⟩
                    refine ⟨_, rfl, ?_⟩
                    have hm75 := hm74.call0 hq72
                    refine Rn.v rfl rfl rfl rfl (V.eql rfl rfl) (Rn.v rfl rfl rfl rfl (V.pkT rfl rfl) ?_)
                    have hm76 : Hp Z0 No w w72 [slR A0 c0 byteR x0, ownR 34 A14 c14 T_api_File.rep y13, optR p21.1 (fun z => T_wal_Log.obj F45 b21_0 b17_0 z), ownR 22 A21_1_0 c21_1_0 (Rep.sl byteR) p21.2.1, diskO 63 68 5 F46 b17_0 p21.2.2.2] := hm75.toOpt (R := (fun z => T_wal_Log.obj F45 b21_0 b17_0 z)) 2 rfl e73
                    exact hk5 ((decide (p72 = 0)), F45, F46) _ _ (Sub.cons rfl (Sub.cons rfl (Sub.cons rfl (Sub.cons rfl (Sub.nil _))))) (hm76.pick [0, 1, 2, 3, 4] rfl (by decide)) hM
                  · replace hM := iteF (by rw [h71]; exact Bool.false_ne_true) hM
                    refine Rn.no rfl rfl rfl rfl (Rn.no rfl rfl rfl rfl (Rn.no rfl rfl rfl rfl (Rn.v rfl rfl rfl rfl (V.pkF rfl rfl) ?_)))
                    exact hk5 (false, F45, F46) _ _ (Sub.cons rfl (Sub.cons rfl (Sub.cons rfl (Sub.cons rfl (Sub.nil _))))) (hm48.pick [0, 1, 2, 3, 4] rfl (by decide)) hM
                intro hk4
                clear hj4
                refine Rn.partD (t := 64) rfl (fun h77 => ?_) (fun h77 => ?_)
                · replace hM := iteT h77 hM
                  refine Rn.v rfl rfl rfl rfl (V.mv rfl) ?_
                  obtain ⟨z79, e79, hM⟩ := bindE hM
                  have hm80 : Hp Z0 No w w42 [slR A0 c0 byteR x0, ownR 34 A14 c14 T_api_File.rep y13, T_wal_Log.obj F39 b21_0 b17_0 z79, ownR 22 A21_1_0 c21_1_0 (Rep.sl byteR) p21.2.1, diskO 63 68 5 F40 b17_0 p21.2.2.2] := hm42.optSome 2 rfl e79
                  refine Rn.say (t := 65) (.pointer (some ⟨b21_0, 0, none⟩)) rfl (by rw [e79]; rfl) ?_
                  obtain ⟨p78, e78, hM⟩ := bindE hM
                  refine Rn.cl ck13 rfl rfl rfl rfl (m_wal_Log_Len_sim (Z0 := All) _ F39 b21_0 z79 F40 b17_0 p21.2.2.2 (fz_all (hm80.get 2 rfl)) (fz_all (hm80.get 4 rfl)) e78) ?_
                  rintro _ w78 ⟨rfl, hq78⟩
                  refine ⟨_, rfl, ?_⟩
                  have hm81 := hm80.call0 hq78
                  refine Rn.v rfl rfl rfl rfl (V.eql rfl rfl) (Rn.v rfl rfl rfl rfl (V.pkT rfl rfl) ?_)
                  have hm82 : Hp Z0 No w w78 [slR A0 c0 byteR x0, ownR 34 A14 c14 T_api_File.rep y13, optR p21.1 (fun z => T_wal_Log.obj F39 b21_0 b17_0 z), ownR 22 A21_1_0 c21_1_0 (Rep.sl byteR) p21.2.1, diskO 63 68 5 F40 b17_0 p21.2.2.2] := hm81.toOpt (R := (fun z => T_wal_Log.obj F39 b21_0 b17_0 z)) 2 rfl e79
                  exact hk4 ((decide (p78 = 0)), F39, F40) _ _ (Sub.cons rfl (Sub.cons rfl (Sub.cons rfl (Sub.cons rfl (Sub.nil _))))) (hm82.pick [0, 1, 2, 3, 4] rfl (by decide)) hM
                · replace hM := iteF h77 hM
                  refine Rn.no rfl rfl rfl rfl (Rn.no rfl rfl rfl rfl (Rn.no rfl rfl rfl rfl (Rn.v rfl rfl rfl rfl (V.pkF rfl rfl) ?_)))
                  exact hk4 (false, F39, F40) _ _ (Sub.cons rfl (Sub.cons rfl (Sub.cons rfl (Sub.cons rfl (Sub.nil _))))) (hm42.pick [0, 1, 2, 3, 4] rfl (by decide)) hM
              intro hk3
              clear hj3
              refine Rn.partD (t := 55) rfl (fun h83 => ?_) (fun h83 => ?_)
              · replace hM := iteT h83 hM
                refine Rn.v rfl rfl rfl rfl (V.mv rfl) (Rn.v rfl rfl rfl rfl (V.neqO Try.underlying38 rfl rfl) (Rn.v rfl rfl rfl rfl (V.pkT rfl rfl) ?_))
                exact hk3 ((!((p21.1).isNone)), F21_0, F21_p0) _ _ (Sub.cons rfl (Sub.cons rfl (Sub.cons rfl (Sub.cons rfl (Sub.cons rfl (Sub.nil _)))))) (hm28.pick [0, 1, 2, 3, 4] rfl (by decide)) hM
              · replace hM := iteF h83 hM
                refine Rn.no rfl rfl rfl rfl (Rn.no rfl rfl rfl rfl (Rn.v rfl rfl rfl rfl (V.pkF rfl rfl) ?_))
                exact hk3 (false, F21_0, F21_p0) _ _ (Sub.cons rfl (Sub.cons rfl (Sub.cons rfl (Sub.cons rfl (Sub.cons rfl (Sub.nil _)))))) (hm28.pick [0, 1, 2, 3, 4] rfl (by decide)) hM
          · replace hM := iteF (by rw [h29]; exact Bool.false_ne_true) hM
            refine Rn.skip (Rn.seq (Rn.reg (Rn.v rfl rfl rfl rfl (V.mv rfl) ?_)))
            obtain ⟨p84, e84, hM⟩ := bindE hM
            refine Rn.cl ck8 rfl rfl rfl rfl (m_limnographref19_Records_sim (Z0 := Zo Z0 No w [slR A0 c0 byteR x0, ownR 34 A14 c14 T_api_File.rep y13, optR p21.1 (fun z => T_wal_Log.obj F21_0 b21_0 b17_0 z), ownR 22 A21_1_0 c21_1_0 (Rep.sl byteR) p21.2.1, diskO 63 68 5 F21_p0 b17_0 p21.2.2.2]) _ A0 c0 x0 (hm28.get 0 rfl) e84) ?_
            rintro _ w84 ⟨A84_0_0, c84_0_0, rfl, hq84⟩
            refine ⟨_, rfl, ?_⟩
            have hm86 : Hp Z0 No w w84 [slR A0 c0 byteR x0, ownR 34 A14 c14 T_api_File.rep y13, optR p21.1 (fun z => T_wal_Log.obj F21_0 b21_0 b17_0 z), ownR 22 A21_1_0 c21_1_0 (Rep.sl byteR) p21.2.1, diskO 63 68 5 F21_p0 b17_0 p21.2.2.2, slR A84_0_0 c84_0_0 (Rep.sl byteR) p84.L] := hm28.callZ hq84
            refine Rn.als rfl rfl rfl Try.zeroValue29 rfl Try.sizeOf29 rfl rfl rfl rfl (by first | exact ones rfl | (simp [Value.oneCell']; done)) ?_
            intro b87 w87 hb87 m87 e87
            have hm89 : Hp Z0 No w w87 [slR A0 c0 byteR x0, ownR 34 A14 c14 T_api_File.rep y13, optR p21.1 (fun z => T_wal_Log.obj F21_0 b21_0 b17_0 z), ownR 22 A21_1_0 c21_1_0 (Rep.sl byteR) p21.2.1, diskO 63 68 5 F21_p0 b17_0 p21.2.2.2, slR A84_0_0 c84_0_0 (Rep.sl byteR) p84.L, boxR b87 29 [.slice A84_0_0 (p84.L).length c84_0_0, .int .i64 (p84.Used), .int .i64 (p84.E)]] := hm86.addBox hb87 e87 m87
            refine Rn.regEnd (Rn.seq (Rn.reg (Rn.v rfl rfl rfl rfl (V.mv rfl) ?_)))
            refine Rn.say (t := 89) (.pointer (some ⟨b17_0, 0, none⟩)) rfl (by rw [e22]; rfl) ?_
            obtain ⟨p90, e90, hM⟩ := bindE hM
            refine Rn.cl ck16 rfl rfl rfl rfl (m_disk_Disk_Read_sim (Z0 := All) _ F21_p0 b17_0 p21.2.2.2 ([119] : List UInt8) (fz_all (hm89.get 4 rfl)) e90) ?_
            rintro _ w90 ⟨A90_0_0, c90_0_0, rfl, hq90⟩
            refine ⟨_, rfl, ?_⟩
            have hm92 : Hp Z0 No w w90 [slR A0 c0 byteR x0, ownR 34 A14 c14 T_api_File.rep y13, optR p21.1 (fun z => T_wal_Log.obj F21_0 b21_0 b17_0 z), ownR 22 A21_1_0 c21_1_0 (Rep.sl byteR) p21.2.1, diskO 63 68 5 F21_p0 b17_0 p21.2.2.2, slR A84_0_0 c84_0_0 (Rep.sl byteR) p84.L, boxR b87 29 [.slice A84_0_0 (p84.L).length c84_0_0, .int .i64 (p84.Used), .int .i64 (p84.E)], ownR 5 A90_0_0 c90_0_0 byteR p90.1] := hm89.callF (flC (ownR_flat byte_flat _ _ _ _) fl0) hq90
            refine Rn.v rfl rfl rfl rfl (V.mv rfl) (Rn.v rfl rfl rfl rfl (V.ext rfl rfl) (Rn.v rfl rfl rfl rfl (V.ext rfl rfl) (Rn.v rfl rfl rfl rfl (V.as rfl) (Rn.v rfl rfl rfl rfl (V.as rfl) (Rn.regEnd (Rn.seq (Rn.seq (Rn.reg (Rn.v rfl rfl rfl rfl (V.fa Try.underlying29 rfl Try.sizeOf25 rfl rfl) (Rn.v rfl rfl rfl rfl (V.ldB Try.isAgg25 rfl (hm92.get 6 rfl) rfl) (Rn.v rfl rfl rfl rfl (V.neq rfl rfl) (Rn.regEnd ?_))))))))))))
            refine Rn.condD rfl (fun h93 => ?_) (fun h93 => ?_)
            · replace hM := iteT h93 hM
              refine Rn.seq (Rn.reg (Rn.v rfl rfl rfl rfl (V.mv rfl) (Rn.v rfl rfl rfl rfl (V.eqlO Try.underlying38 rfl rfl) (Rn.v rfl rfl rfl rfl (V.mv rfl) ?_))))
              refine Rn.cutR [7, 8, 9, 10, 11, 12, 13, 14, 15, 16, 17, 18] [(0, .slice A0 (x0).length c0), (11, .int .i64 (p21.2.2.1)), (13, .slice A90_0_0 (p90.1).length c90_0_0), (102, .bool (decide ((((p21.1).isNone) = true) ∧ ((p21.2.1.length : Int) = 0))))] (fun hk94 => ?_) ?_
              · refine Rn.part (t := 98) rfl (fun h95 => ?_) (fun h95 => ?_)
                · refine Rn.v rfl rfl rfl rfl (V.mv rfl) (Rn.v rfl rfl rfl rfl (V.lenV Try.underlying24 rfl) (Rn.v rfl rfl rfl rfl (V.eql rfl rfl) (Rn.v rfl rfl rfl rfl (V.pkT rfl rfl) ?_)))
                  refine hk94 _ ?_
                  exact Sub.cons rfl (Sub.cons rfl (Sub.cons rfl (Sub.cons (lkv _ rfl (by first | exact andT h95 | exact andF h95 | exact orT h95 | exact orF h95 | exact nandF h95 | exact nandT h95 | exact norT h95 | exact norF h95 | (simp [h95]; done) | grind)) (Sub.nil _))))
                · refine Rn.no rfl rfl rfl rfl (Rn.no rfl rfl rfl rfl (Rn.no rfl rfl rfl rfl (Rn.v rfl rfl rfl rfl (V.pkF rfl rfl) ?_)))
                  refine hk94 _ ?_
                  exact Sub.cons rfl (Sub.cons rfl (Sub.cons rfl (Sub.cons (lkv _ rfl (by first | exact andT h95 | exact andF h95 | exact orT h95 | exact orF h95 | exact nandF h95 | exact nandT h95 | exact norT h95 | exact norF h95 | (simp [h95]; done) | grind)) (Sub.nil _))))
              refine Rn.v rfl rfl rfl rfl (V.mv rfl) ?_
              refine Rn.cutR [11, 12, 13, 14, 15, 16, 17, 18] [(0, .slice A0 (x0).length c0), (13, .slice A90_0_0 (p90.1).length c90_0_0), (106, .bool (decide (((((p21.1).isNone) = true) ∧ ((p21.2.1.length : Int) = 0)) ∧ (p21.2.2.1 = 15))))] (fun hk96 => ?_) ?_
              · refine Rn.partD (t := 103) rfl (fun h97 => ?_) (fun h97 => ?_)
                · refine Rn.v rfl rfl rfl rfl (V.mv rfl) (Rn.v rfl rfl rfl rfl (V.eql rfl rfl) (Rn.v rfl rfl rfl rfl (V.pkT rfl rfl) ?_))
                  refine hk96 _ ?_
                  exact Sub.cons rfl (Sub.cons rfl (Sub.cons (lkv _ rfl (by first | exact andT h97 | exact andF h97 | exact orT h97 | exact orF h97 | exact nandF h97 | exact nandT h97 | exact norT h97 | exact norF h97 | (simp [h97]; done) | grind)) (Sub.nil _)))
                · refine Rn.no rfl rfl rfl rfl (Rn.no rfl rfl rfl rfl (Rn.v rfl rfl rfl rfl (V.pkF rfl rfl) ?_))
                  refine hk96 _ ?_
                  exact Sub.cons rfl (Sub.cons rfl (Sub.cons (lkv _ rfl (by first | exact andT h97 | exact andF h97 | exact orT h97 | exact orF h97 | exact nandF h97 | exact nandT h97 | exact norT h97 | exact norF h97 | (simp [h97]; done) | grind)) (Sub.nil _)))
              refine Rn.v rfl rfl rfl rfl (V.mv rfl) ?_
              obtain ⟨j8, hj8, hM⟩ := jnE hM
              refine Rn.joinR (r := r) (G := Bool × (Nat → Prop) × (Nat → Prop)) [18] (fun g => [(113, .bool ((g.1)))]) (fun g w' => Hp Z0 No w w' [slR A0 c0 byteR x0, ownR 34 A14 c14 T_api_File.rep y13, optR p21.1 (fun z => T_wal_Log.obj (g.2.1) b21_0 b17_0 z), ownR 22 A21_1_0 c21_1_0 (Rep.sl byteR) p21.2.1, diskO 63 68 5 (g.2.2) b17_0 p21.2.2.2, slR A84_0_0 c84_0_0 (Rep.sl byteR) p84.L, boxR b87 29 [.slice A84_0_0 (p84.L).length c84_0_0, .int .i64 (p84.Used), .int .i64 (p84.E)], ownR 5 A90_0_0 c90_0_0 byteR p90.1]) (fun g => j8 g.1) ?_ ?_
              · subst hj8
                clear hM
                rintro ⟨y100, F98, F99⟩ w101 hm101 hM
                replace hm101 : Hp Z0 No w w101 [slR A0 c0 byteR x0, ownR 34 A14 c14 T_api_File.rep y13, optR p21.1 (fun z => T_wal_Log.obj F98 b21_0 b17_0 z), ownR 22 A21_1_0 c21_1_0 (Rep.sl byteR) p21.2.1, diskO 63 68 5 F99 b17_0 p21.2.2.2, slR A84_0_0 c84_0_0 (Rep.sl byteR) p84.L, boxR b87 29 [.slice A84_0_0 (p84.L).length c84_0_0, .int .i64 (p84.Used), .int .i64 (p84.E)], ownR 5 A90_0_0 c90_0_0 byteR p90.1] := hm101
                show Rn _ _ _ _ _ [(113, .bool (y100))] _
                try dsimp only at hM
                refine Rn.v rfl rfl rfl rfl (V.as rfl) (Rn.regEnd ?_)
                refine Rn.retG1 Try.func4 rfl (rvT rfl) ?_
                obtain rfl := someE hM
                exact ⟨rfl, hm101.pick [] rfl (by decide)⟩
              intro hk8
              clear hj8
              refine Rn.partD (t := 107) rfl (fun h102 => ?_) (fun h102 => ?_)
              · replace hM := iteT h102 hM
                refine Rn.v rfl rfl rfl rfl (V.mv rfl) (Rn.v rfl rfl rfl rfl (V.b2s Try.underlying22 Try.underlying9 Try.underlying5 rfl rfl (Own.sl (hm92.get 7 rfl))) (Rn.v rfl rfl rfl rfl (V.mv rfl) (Rn.v rfl rfl rfl rfl (V.b2s Try.underlying22 Try.underlying9 Try.underlying5 rfl rfl (hm92.get 0 rfl).2.2) (Rn.v rfl rfl rfl rfl (V.eqlS rfl rfl) (Rn.v rfl rfl rfl rfl (V.pkT rfl rfl) ?_)))))
                exact hk8 ((decide (p90.1 = x0)), F21_0, F21_p0) _ _ (Sub.cons rfl (Sub.nil _)) (hm92.pick [0, 1, 2, 3, 4, 5, 6, 7] rfl (by decide)) hM
              · replace hM := iteF h102 hM
                refine Rn.no rfl rfl rfl rfl (Rn.no rfl rfl rfl rfl (Rn.no rfl rfl rfl rfl (Rn.no rfl rfl rfl rfl (Rn.no rfl rfl rfl rfl (Rn.v rfl rfl rfl rfl (V.pkF rfl rfl) ?_)))))
                exact hk8 (false, F21_0, F21_p0) _ _ (Sub.cons rfl (Sub.nil _)) (hm92.pick [0, 1, 2, 3, 4, 5, 6, 7] rfl (by decide)) hM
            · replace hM := iteF h93 hM
              refine Rn.skip (Rn.seq ?_)
              refine Rn.drawH rfl hm92 ?_
              intro w103 hm103
              refine RH.here fun hS0 => RH.one 0 (by kernel_rfl) rfl rfl rfl rfl (V.mv rfl) hS0 ?_
              refine RH.here fun hS1 => RH.one 1 (by kernel_rfl) rfl rfl rfl rfl (V.neqO Try.underlying38 rfl rfl) hS1 ?_
              refine RH.here fun hS2 => RH.one 2 (by kernel_rfl) rfl rfl rfl rfl (V.mv rfl) hS2 ?_
              refine RH.part (t := 116) rfl (fun h104 => ?_) (fun h104 => ?_)
              · replace hM := iteT h104 hM
                refine RH.here fun hS3 => RH.one 3 (by kernel_rfl) rfl rfl rfl rfl (V.mv rfl) hS3 ?_
                refine RH.here fun hS4 => RH.one 4 (by kernel_rfl) rfl rfl rfl rfl (V.eql rfl rfl) hS4 ?_
                refine RH.here fun hS5 => RH.one 5 (by kernel_rfl) rfl rfl rfl rfl (V.pkT rfl rfl) hS5 ?_
                refine RH.here fun hS6 => RH.one 6 (by kernel_rfl) rfl rfl rfl rfl (V.mv rfl) hS6 ?_
                refine RH.partD (t := 120) rfl (fun h105 => ?_) (fun h105 => ?_)
                · replace hM := iteT h105 hM
                  refine RH.take 7 (by kernel_rfl) rfl rfl rfl rfl (fun w' hDr => V.mv rfl) ?_
                  refine RH.here fun hS8 => RH.one 8 (by kernel_rfl) rfl rfl rfl rfl (V.fa Try.underlying29 rfl Try.sizeOf24 rfl rfl) hS8 ?_
                  refine RH.here fun hS9 => RH.one 9 (by kernel_rfl) rfl rfl rfl rfl (V.ldB Try.isAgg24 rfl (hm103.get 6 rfl) rfl) hS9 ?_
                  obtain ⟨p106, e106, hM⟩ := bindE hM
                  refine RH.cl ck9 10 (by kernel_rfl) rfl rfl rfl rfl (m_limnographref04_Same_sim (Z0 := All) _ A21_1_0 c21_1_0 p21.2.1 A84_0_0 c84_0_0 p84.L (own_slR (hm103.get 3 rfl)) (slR_all (hm103.get 5 rfl)) e106) ?_
                  rintro _ w106 ⟨rfl, hq106⟩
                  refine ⟨_, rfl, ((Ext.refl _).trans hq106.fr), ?_⟩
                  have hm107 := hm103.call0 hq106
                  refine RH.here fun hS11 => RH.one 11 (by kernel_rfl) rfl rfl rfl rfl (V.pkT rfl rfl) hS11 ?_
                  refine RH.here fun hS12 => RH.one 12 (by kernel_rfl) rfl rfl rfl rfl (V.mv rfl) hS12 ?_
                  refine RH.part (t := 126) rfl (fun h108 => ?_) (fun h108 => ?_)
                  · replace hM := iteT h108 hM
                    refine RH.take 13 (by kernel_rfl) rfl rfl rfl rfl (fun w' hDr => V.mv rfl) ?_
                    refine RH.take 15 (by kernel_rfl) rfl rfl rfl rfl (fun w' hDr => V.fa Try.underlying29 rfl Try.sizeOf24 rfl rfl) ?_
                    refine RH.take 16 (by kernel_rfl) rfl rfl rfl rfl (fun w' hDr => V.ldB Try.isAgg24 rfl ((hm103.ext hDr).get 6 rfl) rfl) ?_
                    refine RH.take 17 (by kernel_rfl) rfl rfl rfl rfl (fun w' hDr => V.lenV Try.underlying24 rfl) ?_
                    obtain ⟨z110, e110, hM⟩ := bindE hM
                    have hm111 : Hp Z0 No w w106 [slR A0 c0 byteR x0, ownR 34 A14 c14 T_api_File.rep y13, T_wal_Log.obj F21_0 b21_0 b17_0 z110, ownR 22 A21_1_0 c21_1_0 (Rep.sl byteR) p21.2.1, diskO 63 68 5 F21_p0 b17_0 p21.2.2.2, slR A84_0_0 c84_0_0 (Rep.sl byteR) p84.L, boxR b87 29 [.slice A84_0_0 (p84.L).length c84_0_0, .int .i64 (p84.Used), .int .i64 (p84.E)], ownR 5 A90_0_0 c90_0_0 byteR p90.1] := hm107.optSome 2 rfl e110
                    refine RH.say (t := 127) (.pointer (some ⟨b21_0, 0, none⟩)) rfl (by rw [e110]; rfl) ?_
                    obtain ⟨p109, e109, hM⟩ := bindE hM
                    refine RH.cl ck13 14 (by kernel_rfl) rfl rfl rfl rfl (m_wal_Log_Len_sim (Z0 := All) _ F21_0 b21_0 z110 F21_p0 b17_0 p21.2.2.2 (fz_all (hm111.get 2 rfl)) (fz_all (hm111.get 4 rfl)) e109) ?_
                    rintro _ w109 ⟨rfl, hq109⟩
                    refine ⟨_, rfl, (((Ext.refl _).trans hq106.fr).trans hq109.fr), ?_⟩
                    have hm112 := hm111.call0 hq109
                    refine RH.here fun hS18 => RH.one 18 (by kernel_rfl) rfl rfl rfl rfl (V.eql rfl rfl) hS18 ?_
                    refine RH.here fun hS19 => RH.one 19 (by kernel_rfl) rfl rfl rfl rfl (V.pkT rfl rfl) hS19 ?_
                    refine RH.here fun hS20 => RH.one 20 (by kernel_rfl) rfl rfl rfl rfl (V.mv rfl) hS20 ?_
                    refine RH.partD (t := 134) rfl (fun h113 => ?_) (fun h113 => ?_)
                    · replace hM := iteT h113 hM
                      refine RH.take 21 (by kernel_rfl) rfl rfl rfl rfl (fun w' hDr => V.mv rfl) ?_
                      refine RH.take 23 (by kernel_rfl) rfl rfl rfl rfl (fun w' hDr => V.fa Try.underlying29 rfl Try.sizeOf3 rfl rfl) ?_
                      refine RH.take 24 (by kernel_rfl) rfl rfl rfl rfl (fun w' hDr => V.ldB Try.isAgg3 rfl ((hm103.ext hDr).get 6 rfl) rfl) ?_
                      refine RH.say (t := 135) (.pointer (some ⟨b21_0, 0, none⟩)) rfl (by rw [e110]; rfl) ?_
                      obtain ⟨p114, e114, hM⟩ := bindE hM
                      refine RH.cl ck14 22 (by kernel_rfl) rfl rfl rfl rfl (m_wal_Log_Size_sim (Z0 := All) _ F21_0 b21_0 z110 F21_p0 b17_0 p21.2.2.2 (fz_all (hm112.get 2 rfl)) (fz_all (hm112.get 4 rfl)) e114) ?_
                      rintro _ w114 ⟨rfl, hq114⟩
                      refine ⟨_, rfl, ((((Ext.refl _).trans hq106.fr).trans hq109.fr).trans hq114.fr), ?_⟩
                      have hm115 := hm112.call0 hq114
                      refine RH.here fun hS25 => RH.one 25 (by kernel_rfl) rfl rfl rfl rfl (V.eql rfl rfl) hS25 ?_
                      refine RH.here fun hS26 => RH.one 26 (by kernel_rfl) rfl rfl rfl rfl (V.pkT rfl rfl) hS26 ?_
                      refine RH.here fun hS27 => RH.one 27 (by kernel_rfl) rfl rfl rfl rfl (V.mv rfl) hS27 ?_
                      refine RH.partD (t := 141) rfl (fun h116 => ?_) (fun h116 => ?_)
                      · replace hM := iteT h116 hM
                        refine RH.take 28 (by kernel_rfl) rfl rfl rfl rfl (fun w' hDr => V.mv rfl) ?_
                        refine RH.take 29 (by kernel_rfl) rfl rfl rfl rfl (fun w' hDr => V.b2s Try.underlying22 Try.underlying9 Try.underlying5 rfl rfl (Own.sl ((hm103.ext hDr).get 7 rfl))) ?_
                        refine RH.take 30 (by kernel_rfl) rfl rfl rfl rfl (fun w' hDr => V.mv rfl) ?_
                        refine RH.here fun hS31 => RH.one 31 (by kernel_rfl) rfl rfl rfl rfl (V.fa Try.underlying29 rfl Try.sizeOf3 rfl rfl) hS31 ?_
                        refine RH.here fun hS32 => RH.one 32 (by kernel_rfl) rfl rfl rfl rfl (V.ldB Try.isAgg3 rfl (hm115.get 6 rfl) rfl) hS32 ?_
                        obtain ⟨z117, e117, hM⟩ := bindE hM
                        refine RH.cutH 33 (by kernel_rfl) hm115 0 rfl e117 rfl rfl rfl Try.underlying22 Try.sizeOf5 rfl rfl rfl rfl rfl ?_
                        intro A117 c117 hm117
                        refine RH.here fun hS34 => RH.one 34 (by kernel_rfl) rfl rfl rfl rfl (V.b2s Try.underlying22 Try.underlying9 Try.underlying5 rfl rfl (hm117.get 8 rfl).2.2) hS34 ?_
                        refine RH.here fun hS35 => RH.one 35 (by kernel_rfl) rfl rfl rfl rfl (V.eqlS rfl rfl) hS35 ?_
                        refine RH.here fun hS36 => RH.one 36 (by kernel_rfl) rfl rfl rfl rfl (V.pkT rfl rfl) hS36 ?_
                        refine RH.here fun hS37 => RH.one 37 (by kernel_rfl) rfl rfl rfl rfl (V.as rfl) hS37 ?_
                        refine RH.doneP (by kernel_rfl) ?_
                        refine Rn.retG1 Try.func4 rfl (rvT rfl) ?_
                        obtain rfl := someE hM
                        exact ⟨rfl, hm117.pick [] rfl (by decide)⟩
                      · replace hM := iteF h116 hM
                        refine RH.no 28 (by kernel_rfl) rfl rfl rfl rfl ?_
                        refine RH.no 29 (by kernel_rfl) rfl rfl rfl rfl ?_
                        refine RH.no 30 (by kernel_rfl) rfl rfl rfl rfl ?_
                        refine RH.no 31 (by kernel_rfl) rfl rfl rfl rfl ?_
                        refine RH.no 32 (by kernel_rfl) rfl rfl rfl rfl ?_
                        refine RH.no 33 (by kernel_rfl) rfl rfl rfl rfl ?_
                        refine RH.no 34 (by kernel_rfl) rfl rfl rfl rfl ?_
                        refine RH.no 35 (by kernel_rfl) rfl rfl rfl rfl ?_
                        refine RH.here fun hS36 => RH.one 36 (by kernel_rfl) rfl rfl rfl rfl (V.pkF rfl rfl) hS36 ?_
                        refine RH.here fun hS37 => RH.one 37 (by kernel_rfl) rfl rfl rfl rfl (V.as rfl) hS37 ?_
                        refine RH.doneP (by kernel_rfl) ?_
                        refine Rn.retG1 Try.func4 rfl (rvT rfl) ?_
                        obtain rfl := someE hM
                        exact ⟨rfl, hm115.pick [] rfl (by decide)⟩
                    · replace hM := iteF h113 hM
                      refine RH.no 21 (by kernel_rfl) rfl rfl rfl rfl ?_
                      refine RH.no 22 (by kernel_rfl) rfl rfl rfl rfl ?_
                      refine RH.no 23 (by kernel_rfl) rfl rfl rfl rfl ?_
                      refine RH.no 24 (by kernel_rfl) rfl rfl rfl rfl ?_
                      refine RH.no 25 (by kernel_rfl) rfl rfl rfl rfl ?_
                      refine RH.here fun hS26 => RH.one 26 (by kernel_rfl) rfl rfl rfl rfl (V.pkF rfl rfl) hS26 ?_
                      refine RH.here fun hS27 => RH.one 27 (by kernel_rfl) rfl rfl rfl rfl (V.mv rfl) hS27 ?_
                      refine RH.no 28 (by kernel_rfl) rfl rfl rfl rfl ?_
                      refine RH.no 29 (by kernel_rfl) rfl rfl rfl rfl ?_
                      refine RH.no 30 (by kernel_rfl) rfl rfl rfl rfl ?_
                      refine RH.no 31 (by kernel_rfl) rfl rfl rfl rfl ?_
                      refine RH.no 32 (by kernel_rfl) rfl rfl rfl rfl ?_
                      refine RH.no 33 (by kernel_rfl) rfl rfl rfl rfl ?_
                      refine RH.no 34 (by kernel_rfl) rfl rfl rfl rfl ?_
                      refine RH.no 35 (by kernel_rfl) rfl rfl rfl rfl ?_
                      refine RH.here fun hS36 => RH.one 36 (by kernel_rfl) rfl rfl rfl rfl (V.pkF rfl rfl) hS36 ?_
                      refine RH.here fun hS37 => RH.one 37 (by kernel_rfl) rfl rfl rfl rfl (V.as rfl) hS37 ?_
                      refine RH.doneP (by kernel_rfl) ?_
                      refine Rn.retG1 Try.func4 rfl (rvT rfl) ?_
                      obtain rfl := someE hM
                      exact ⟨rfl, hm112.pick [] rfl (by decide)⟩
                  · replace hM := iteF (by rw [h108]; exact Bool.false_ne_true) hM
                    refine RH.no 13 (by kernel_rfl) rfl rfl rfl rfl ?_
                    refine RH.no 14 (by kernel_rfl) rfl rfl rfl rfl ?_
                    refine RH.no 15 (by kernel_rfl) rfl rfl rfl rfl ?_
                    refine RH.no 16 (by kernel_rfl) rfl rfl rfl rfl ?_
                    refine RH.no 17 (by kernel_rfl) rfl rfl rfl rfl ?_
                    refine RH.no 18 (by kernel_rfl) rfl rfl rfl rfl ?_
                    refine RH.here fun hS19 => RH.one 19 (by kernel_rfl) rfl rfl rfl rfl (V.pkF rfl rfl) hS19 ?_
                    refine RH.here fun hS20 => RH.one 20 (by kernel_rfl) rfl rfl rfl rfl (V.mv rfl) hS20 ?_
                    refine RH.no 21 (by kernel_rfl) rfl rfl rfl rfl ?_
                    refine RH.no 22 (by kernel_rfl) rfl rfl rfl rfl ?_
                    refine RH.no 23 (by kernel_rfl) rfl rfl rfl rfl ?_
                    refine RH.no 24 (by kernel_rfl) rfl rfl rfl rfl ?_
                    refine RH.no 25 (by kernel_rfl) rfl rfl rfl rfl ?_
                    refine RH.here fun hS26 => RH.one 26 (by kernel_rfl) rfl rfl rfl rfl (V.pkF rfl rfl) hS26 ?_
                    refine RH.here fun hS27 => RH.one 27 (by kernel_rfl) rfl rfl rfl rfl (V.mv rfl) hS27 ?_
                    refine RH.no 28 (by kernel_rfl) rfl rfl rfl rfl ?_
                    refine RH.no 29 (by kernel_rfl) rfl rfl rfl rfl ?_
                    refine RH.no 30 (by kernel_rfl) rfl rfl rfl rfl ?_
                    refine RH.no 31 (by kernel_rfl) rfl rfl rfl rfl ?_
                    refine RH.no 32 (by kernel_rfl) rfl rfl rfl rfl ?_
                    refine RH.no 33 (by kernel_rfl) rfl rfl rfl rfl ?_
                    refine RH.no 34 (by kernel_rfl) rfl rfl rfl rfl ?_
                    refine RH.no 35 (by kernel_rfl) rfl rfl rfl rfl ?_
                    refine RH.here fun hS36 => RH.one 36 (by kernel_rfl) rfl rfl rfl rfl (V.pkF rfl rfl) hS36 ?_
                    refine RH.here fun hS37 => RH.one 37 (by kernel_rfl) rfl rfl rfl rfl (V.as rfl) hS37 ?_
                    refine RH.doneP (by kernel_rfl) ?_
                    refine Rn.retG1 Try.func4 rfl (rvT rfl) ?_
                    obtain rfl := someE hM
                    exact ⟨rfl, hm107.pick [] rfl (by decide)⟩
                · replace hM := iteF h105 hM
                  refine RH.no 7 (by kernel_rfl) rfl rfl rfl rfl ?_
                  refine RH.no 8 (by kernel_rfl) rfl rfl rfl rfl ?_
                  refine RH.no 9 (by kernel_rfl) rfl rfl rfl rfl ?_
                  refine RH.no 10 (by kernel_rfl) rfl rfl rfl rfl ?_
                  refine RH.here fun hS11 => RH.one 11 (by kernel_rfl) rfl rfl rfl rfl (V.pkF rfl rfl) hS11 ?_
                  refine RH.here fun hS12 => RH.one 12 (by kernel_rfl) rfl rfl rfl rfl (V.mv rfl) hS12 ?_
                  refine RH.no 13 (by kernel_rfl) rfl rfl rfl rfl ?_
                  refine RH.no 14 (by kernel_rfl) rfl rfl rfl rfl ?_
                  refine RH.no 15 (by kernel_rfl) rfl rfl rfl rfl ?_
                  refine RH.no 16 (by kernel_rfl) rfl rfl rfl rfl ?_
                  refine RH.no 17 (by kernel_rfl) rfl rfl rfl rfl ?_
                  refine RH.no 18 (by kernel_rfl) rfl rfl rfl rfl ?_
                  refine RH.here fun hS19 => RH.one 19 (by kernel_rfl) rfl rfl rfl rfl (V.pkF rfl rfl) hS19 ?_
                  refine RH.here fun hS20 => RH.one 20 (by kernel_rfl) rfl rfl rfl rfl (V.mv rfl) hS20 ?_
                  refine RH.no 21 (by kernel_rfl) rfl rfl rfl rfl ?_
                  refine RH.no 22 (by kernel_rfl) rfl rfl rfl rfl ?_
                  refine RH.no 23 (by kernel_rfl) rfl rfl rfl rfl ?_
                  refine RH.no 24 (by kernel_rfl) rfl rfl rfl rfl ?_
                  refine RH.no 25 (by kernel_rfl) rfl rfl rfl rfl ?_
                  refine RH.here fun hS26 => RH.one 26 (by kernel_rfl) rfl rfl rfl rfl (V.pkF rfl rfl) hS26 ?_
                  refine RH.here fun hS27 => RH.one 27 (by kernel_rfl) rfl rfl rfl rfl (V.mv rfl) hS27 ?_
                  refine RH.no 28 (by kernel_rfl) rfl rfl rfl rfl ?_
                  refine RH.no 29 (by kernel_rfl) rfl rfl rfl rfl ?_
                  refine RH.no 30 (by kernel_rfl) rfl rfl rfl rfl ?_
                  refine RH.no 31 (by kernel_rfl) rfl rfl rfl rfl ?_
                  refine RH.no 32 (by kernel_rfl) rfl rfl rfl rfl ?_
                  refine RH.no 33 (by kernel_rfl) rfl rfl rfl rfl ?_
                  refine RH.no 34 (by kernel_rfl) rfl rfl rfl rfl ?_
                  refine RH.no 35 (by kernel_rfl) rfl rfl rfl rfl ?_
                  refine RH.here fun hS36 => RH.one 36 (by kernel_rfl) rfl rfl rfl rfl (V.pkF rfl rfl) hS36 ?_
                  refine RH.here fun hS37 => RH.one 37 (by kernel_rfl) rfl rfl rfl rfl (V.as rfl) hS37 ?_
                  refine RH.doneP (by kernel_rfl) ?_
                  refine Rn.retG1 Try.func4 rfl (rvT rfl) ?_
                  obtain rfl := someE hM
                  exact ⟨rfl, hm103.pick [] rfl (by decide)⟩
              · replace hM := iteF (by rw [h104]; exact Bool.false_ne_true) hM
                refine RH.no 3 (by kernel_rfl) rfl rfl rfl rfl ?_
                refine RH.no 4 (by kernel_rfl) rfl rfl rfl rfl ?_
                refine RH.here fun hS5 => RH.one 5 (by kernel_rfl) rfl rfl rfl rfl (V.pkF rfl rfl) hS5 ?_
                refine RH.here fun hS6 => RH.one 6 (by kernel_rfl) rfl rfl rfl rfl (V.mv rfl) hS6 ?_
                refine RH.no 7 (by kernel_rfl) rfl rfl rfl rfl ?_
                refine RH.no 8 (by kernel_rfl) rfl rfl rfl rfl ?_
                refine RH.no 9 (by kernel_rfl) rfl rfl rfl rfl ?_
                refine RH.no 10 (by kernel_rfl) rfl rfl rfl rfl ?_
                refine RH.here fun hS11 => RH.one 11 (by kernel_rfl) rfl rfl rfl rfl (V.pkF rfl rfl) hS11 ?_
                refine RH.here fun hS12 => RH.one 12 (by kernel_rfl) rfl rfl rfl rfl (V.mv rfl) hS12 ?_
                refine RH.no 13 (by kernel_rfl) rfl rfl rfl rfl ?_
                refine RH.no 14 (by kernel_rfl) rfl rfl rfl rfl ?_
                refine RH.no 15 (by kernel_rfl) rfl rfl rfl rfl ?_
                refine RH.no 16 (by kernel_rfl) rfl rfl rfl rfl ?_
                refine RH.no 17 (by kernel_rfl) rfl rfl rfl rfl ?_
                refine RH.no 18 (by kernel_rfl) rfl rfl rfl rfl ?_
                refine RH.here fun hS19 => RH.one 19 (by kernel_rfl) rfl rfl rfl rfl (V.pkF rfl rfl) hS19 ?_
                refine RH.here fun hS20 => RH.one 20 (by kernel_rfl) rfl rfl rfl rfl (V.mv rfl) hS20 ?_
                refine RH.no 21 (by kernel_rfl) rfl rfl rfl rfl ?_
                refine RH.no 22 (by kernel_rfl) rfl rfl rfl rfl ?_
                refine RH.no 23 (by kernel_rfl) rfl rfl rfl rfl ?_
                refine RH.no 24 (by kernel_rfl) rfl rfl rfl rfl ?_
                refine RH.no 25 (by kernel_rfl) rfl rfl rfl rfl ?_
                refine RH.here fun hS26 => RH.one 26 (by kernel_rfl) rfl rfl rfl rfl (V.pkF rfl rfl) hS26 ?_
                refine RH.here fun hS27 => RH.one 27 (by kernel_rfl) rfl rfl rfl rfl (V.mv rfl) hS27 ?_
                refine RH.no 28 (by kernel_rfl) rfl rfl rfl rfl ?_
                refine RH.no 29 (by kernel_rfl) rfl rfl rfl rfl ?_
                refine RH.no 30 (by kernel_rfl) rfl rfl rfl rfl ?_
                refine RH.no 31 (by kernel_rfl) rfl rfl rfl rfl ?_
                refine RH.no 32 (by kernel_rfl) rfl rfl rfl rfl ?_
                refine RH.no 33 (by kernel_rfl) rfl rfl rfl rfl ?_
                refine RH.no 34 (by kernel_rfl) rfl rfl rfl rfl ?_
                refine RH.no 35 (by kernel_rfl) rfl rfl rfl rfl ?_
                refine RH.here fun hS36 => RH.one 36 (by kernel_rfl) rfl rfl rfl rfl (V.pkF rfl rfl) hS36 ?_
                refine RH.here fun hS37 => RH.one 37 (by kernel_rfl) rfl rfl rfl rfl (V.as rfl) hS37 ?_
                refine RH.doneP (by kernel_rfl) ?_
                refine Rn.retG1 Try.func4 rfl (rvT rfl) ?_
                obtain rfl := someE hM
                exact ⟨rfl, hm103.pick [] rfl (by decide)⟩
      intro hk1
      clear hj1
      refine Rn.condS rfl (fun h119 => ?_) (fun h119 => ?_)
      · replace hM := iteT h119 hM
        refine Rn.reg (Rn.v rfl rfl rfl rfl (V.as rfl) (Rn.regEnd ?_))
        have hm120 := hm10.addNil 34 T_api_File.rep
        exact hk1 (x2, ([] : List T_api_File), none, 0) _ _ (Sub.cons rfl (Sub.cons rfl (Sub.cons rfl (Sub.cons rfl (Sub.nil _))))) (hm120.pick [0, 2] rfl (by decide)) hM
      · replace hM := iteF (by rw [h119]; exact Bool.false_ne_true) hM
        refine Rn.reg (Rn.v rfl rfl rfl rfl (V.as rfl) (Rn.regEnd ?_))
        exact hk1 (([119] : List UInt8), ([({ Name := ([119] : List UInt8), Data := x0 } : T_api_File)] : List T_api_File), (some ⟨b9, 0, none⟩), 1) _ _ (Sub.cons rfl (Sub.cons rfl (Sub.cons rfl (Sub.cons rfl (Sub.nil _))))) (hm10.pick [0, 1] rfl (by decide)) hM

set_option maxRecDepth 20000 in
theorem m_limnographref04_Bulk_sim {Z0 : Nat → Prop} (w : World) (A0 : Option Addr) (c0 : Nat) (x0 : (List (List UInt8))) (x1 : Int) {r : Int} (f0 : (slR A0 c0 (Rep.sl byteR) x0).H Z0 w) (hM : m_limnographref04_Bulk x0 x1 = some r) :
    Calls Try.prog 17 #[.slice A0 (x0).length c0, .int .i64 (x1)] w fun x w' => x = .returned (.int .i64 (r)) ∧ Hp Z0 No w w' [] := by
  have hm0 := Hp.nil Z0 No w
  have hc0 := Calm.nil
  have hm2 := hm0.know (slR A0 c0 (Rep.sl byteR) x0) (fun _ h => h) (hm0.in0 hc0 f0)
  replace hc0 := hc0.snoc (r := slR A0 c0 (Rep.sl byteR) x0) (fun _ h => h)
  refine Rn.enter Try.func17 rfl rfl (Nat.le_of_ble_eq_true rfl) ?_
  refine Rn.seq (Rn.reg (Rn.v rfl rfl rfl rfl (V.as rfl) (Rn.regEnd (Rn.seq (Rn.reg (Rn.v rfl rfl rfl rfl (V.as rfl) (Rn.regEnd (Rn.seq (Rn.seq (Rn.reg (Rn.v rfl rfl rfl rfl (V.as rfl) (Rn.regEnd ?_))))))))))))
  obtain ⟨j1, hj1, hM⟩ := jnE hM
  refine Rn.joinG (r := r) (G := Int) (fun g => [(5, .int .i64 (g))]) (fun g w' => Hp Z0 No w w' [slR A0 c0 (Rep.sl byteR) x0]) (fun g => j1 g) ?_ ?_
  · subst hj1
    clear hM
    rintro y3 w4 hm4 hM
    replace hm4 : Hp Z0 No w w4 [slR A0 c0 (Rep.sl byteR) x0] := hm4
    show Rn _ _ _ _ _ [(5, .int .i64 (y3))] _
    try dsimp only at hM
    refine Rn.seq (Rn.reg (Rn.v rfl rfl rfl rfl (V.mv rfl) (Rn.v rfl rfl rfl rfl (V.as rfl) (Rn.regEnd ?_))))
    refine Rn.retG1 Try.func17 rfl (rvT rfl) ?_
    obtain rfl := someE hM
    exact ⟨rfl, hm4.pick [] rfl (by decide)⟩
  intro hk1
  clear hj1
  refine Rn.block ?_
  refine Rn.loopF (G := Int × Int) (fun g => [(0, .slice A0 (x0).length c0), (1, .int .i64 (x1)), (5, .int .i64 ((g.1))), (6, .int .i64 ((g.2)))]) (fun g w' => Hp Z0 No w w' [slR A0 c0 (Rep.sl byteR) x0]) (fun n g => m_limnographref04_Bulk_L1 x0 x1 j1 n g.1 g.2) fuel (0, 0) (Sub.cons rfl (Sub.cons rfl (Sub.cons rfl (Sub.cons rfl (Sub.nil _))))) (hm2.pick [0] rfl (by decide)) hM (fun _ => rfl) ?_
  clear hM
  rintro m7 ⟨y5, y6⟩ w7 hm7 hM hn7
  replace hm7 : Hp Z0 No w w7 [slR A0 c0 (Rep.sl byteR) x0] := hm7
  show Rn _ _ _ _ _ [(0, .slice A0 (x0).length c0), (1, .int .i64 (x1)), (5, .int .i64 (y5)), (6, .int .i64 (y6))] _
  replace hM : m_limnographref04_Bulk_L1 x0 x1 j1 (m7 + 1) y5 y6 = some r := hM
  rw [m_limnographref04_Bulk_L1] at hM
  refine Rn.seq (Rn.seq (Rn.reg (Rn.v rfl rfl rfl rfl (V.mv rfl) (Rn.v rfl rfl rfl rfl (V.mv rfl) (Rn.v rfl rfl rfl rfl (V.lenV Try.underlying24 rfl) (Rn.v rfl rfl rfl rfl (V.lss rfl rfl) (Rn.v rfl rfl rfl rfl (V.mv rfl) ?_)))))))
  refine Rn.cutR [] [(0, .slice A0 (x0).length c0), (1, .int .i64 (x1)), (5, .int .i64 (y5)), (6, .int .i64 (y6)), (15, .bool (decide ((y6 < (x0.length : Int)) ∧ (y5 ≤ x1))))] (fun hk8 => ?_) ?_
  · refine Rn.partD (t := 11) rfl (fun h9 => ?_) (fun h9 => ?_)
    · refine Rn.v rfl rfl rfl rfl (V.mv rfl) (Rn.v rfl rfl rfl rfl (V.mv rfl) (Rn.v rfl rfl rfl rfl (V.leq rfl rfl) (Rn.v rfl rfl rfl rfl (V.pkT rfl rfl) ?_)))
      refine hk8 _ ?_
      exact Sub.cons rfl (Sub.cons rfl (Sub.cons rfl (Sub.cons rfl (Sub.cons (lkv _ rfl (by first | exact andT h9 | exact andF h9 | exact orT h9 | exact orF h9 | exact nandF h9 | exact nandT h9 | exact norT h9 | exact norF h9 | (simp [h9]; done) | grind)) (Sub.nil _)))))
    · refine Rn.no rfl rfl rfl rfl (Rn.no rfl rfl rfl rfl (Rn.no rfl rfl rfl rfl (Rn.v rfl rfl rfl rfl (V.pkF rfl rfl) ?_)))
      refine hk8 _ ?_
      exact Sub.cons rfl (Sub.cons rfl (Sub.cons rfl (Sub.cons rfl (Sub.cons (lkv _ rfl (by first | exact andT h9 | exact andF h9 | exact orT h9 | exact orF h9 | exact nandF h9 | exact nandT h9 | exact norT h9 | exact norF h9 | (simp [h9]; done) | grind)) (Sub.nil _)))))
  refine Rn.regEnd ?_
  refine Rn.condD rfl (fun h10 => ?_) (fun h10 => ?_)
  · replace hM := iteT h10 hM
    refine Rn.skip (Rn.seq (Rn.block (Rn.reg (Rn.v rfl rfl rfl rfl (V.mv rfl) (Rn.v rfl rfl rfl rfl (V.addW rfl rfl) (Rn.v rfl rfl rfl rfl (V.mv rfl) (Rn.v rfl rfl rfl rfl (V.mv rfl) ?_)))))))
    obtain ⟨z11, e11, hM⟩ := bindE hM
    refine Rn.ixH hm7 0 rfl e11 rfl rfl rfl Try.underlying24 Try.sizeOf22 rfl rfl rfl rfl ?_
    rintro b11 o11 vs11 ⟨A12, c12, rfl, p12, q12, s12⟩ hm11
    have hm15 : Hp Z0 No w w7 [slR A0 c0 (Rep.sl byteR) x0, rdR b11 o11 [.slice A12 (z11).length c12], slR A12 c12 byteR z11] := Hp.know1 (M := [slR A12 c12 byteR z11]) hm11 (fun _ h => h) (knC (fun _ h => h) ⟨p12, q12, s12⟩ kn0)
    refine Rn.v rfl rfl rfl rfl (V.ldR0 Try.isAgg22 rfl (hm15.get 1 rfl).2 rfl) (Rn.v rfl rfl rfl rfl (V.lenV Try.underlying22 rfl) (Rn.v rfl rfl rfl rfl (V.mv rfl) (Rn.v rfl rfl rfl rfl (V.addW rfl rfl) (Rn.v rfl rfl rfl rfl (V.mini rfl rfl) (Rn.v rfl rfl rfl rfl (V.addW rfl rfl) (Rn.v rfl rfl rfl rfl (V.as rfl) (Rn.regEnd (Rn.inBlock (Rn.reg (Rn.v rfl rfl rfl rfl (V.mv rfl) (Rn.v rfl rfl rfl rfl (V.addW rfl rfl) (Rn.v rfl rfl rfl rfl (V.as rfl) (Rn.regEnd ?_)))))))))))))
    exact hn7 ((W64 ((W64 (y5 + 1)) + (min (z11.length : Int) (W64 (x1 + 1))))), (W64 (y6 + 1))) _ _ (Sub.cons rfl (Sub.cons rfl (Sub.cons rfl (Sub.cons rfl (Sub.nil _))))) (hm15.pick [0] rfl (by decide)) hM
  · replace hM := iteF h10 hM
    refine Rn.exit rfl ?_
    exact hk1 y5 _ _ (Sub.cons rfl (Sub.nil _)) (hm7.pick [0] rfl (by decide)) hM

set_option maxRecDepth 20000 in
theorem m_disk_Disk_Down_sim {Z0 : Nat → Prop} (w : World) (F0 : Nat → Prop) (b0 : Nat) (x0 : PD) {r : Bool} (f0 : (fzR (diskO 63 68 5 F0 b0 x0)).H Z0 w) (hM : m_disk_Disk_Down x0 = some r) :
    Calls Try.prog 21 #[.pointer (some ⟨b0, 0, none⟩)] w fun x w' => x = .returned (.bool (r)) ∧ Hp Z0 No w w' [] := by
  obtain rfl := someE hM
  refine (down_spec w f0.1).mono ?_
  rintro x w' ⟨rfl, rfl⟩
  exact ⟨rfl, Hp.nil Z0 No w⟩

set_option maxRecDepth 20000 in
theorem m_disk_Disk_Size_sim {Z0 : Nat → Prop} (w : World) (F0 : Nat → Prop) (b0 : Nat) (x0 : PD) (x1 : (List UInt8)) {r : (Int × Int × Int)} (f0 : (fzR (diskO 63 68 5 F0 b0 x0)).H Z0 w) (hM : m_disk_Disk_Size x0 x1 = some r) :
    Calls Try.prog 23 #[.pointer (some ⟨b0, 0, none⟩), Str (x1)] w fun x w' => x = .returned (.tuple #[.int .i64 (r.1), .int .i64 (r.2.1), .int .i64 (r.2.2)]) ∧ Hp Z0 No w w' [] := by
  obtain rfl := someE hM
  refine (size_spec x1 w f0.1).mono ?_
  rintro x w' ⟨hx, h⟩
  have h2 := (Hp.nil Z0 No w).ext hx
  rcases h with ⟨hd, rfl⟩ | ⟨hd, hf, rfl⟩ | ⟨f, hd, hf, rfl⟩
  · rw [hd]; exact ⟨rfl, h2⟩
  · rw [hd, hf]; exact ⟨rfl, h2⟩
  · rw [hd, hf]; exact ⟨rfl, h2⟩

set_option maxRecDepth 20000 in
theorem m_limnographlaw19_WalKeeps_sim {Z0 : Nat → Prop} (w : World) (A0 : Option Addr) (c0 : Nat) (x0 : (List (List UInt8))) (A1 : Option Addr) (c1 : Nat) (x1 : (List Int)) (x2 : Int) (A3 : Option Addr) (c3 : Nat) (x3 : (List Int)) (x4 : Int) {r : Bool} (f0 : (slR A0 c0 (Rep.sl byteR) x0).H Z0 w) (f1 : (slR A1 c1 (intR .i64) x1).H Z0 w) (f2 : (slR A3 c3 (intR .i64) x3).H Z0 w) (hM : m_limnographlaw19_WalKeeps x0 x1 x2 x3 x4 = some r) :
    Calls Try.prog 5 #[.slice A0 (x0).length c0, .slice A1 (x1).length c1, .int .i64 (x2), .slice A3 (x3).length c3, .int .i64 (x4)] w fun x w' => x = .returned (.bool (r)) ∧ Hp Z0 No w w' [] := by
  have hm0 := Hp.nil Z0 No w
  have hc0 := Calm.nil
  have hm4 := hm0.know (slR A0 c0 (Rep.sl byteR) x0) (fun _ h => h) (hm0.in0 hc0 f0)
  replace hc0 := hc0.snoc (r := slR A0 c0 (Rep.sl byteR) x0) (fun _ h => h)
  have hm5 := hm4.know (slR A1 c1 (intR .i64) x1) (fun _ h => h) (hm4.in0 hc0 f1)
  replace hc0 := hc0.snoc (r := slR A1 c1 (intR .i64) x1) (fun _ h => h)
  have hm6 := hm5.know (slR A3 c3 (intR .i64) x3) (fun _ h => h) (hm5.in0 hc0 f2)
  replace hc0 := hc0.snoc (r := slR A3 c3 (intR .i64) x3) (fun _ h => h)
  refine Rn.enter Try.func5 rfl rfl (Nat.le_of_ble_eq_true rfl) ?_
  refine Rn.seq (Rn.reg (Rn.v rfl rfl rfl rfl (V.as rfl) (Rn.regEnd (Rn.seq (Rn.seq (Rn.reg ?_))))))
  obtain ⟨p7, e7, hM⟩ := bindE hM
  refine Rn.cl ck6 rfl rfl rfl rfl (m_limnographlaw19_awake_sim (Z0 := All) _   e7) ?_
  rintro _ w7 ⟨rfl, hq7⟩
  refine ⟨_, rfl, ?_⟩
  have hm8 := hm6.call0 hq7
  refine Rn.v rfl rfl rfl rfl (V.notB rfl) (Rn.regEnd ?_)
  refine Rn.condS rfl (fun h9 => ?_) (fun h9 => ?_)
  · replace hM := iteT h9 hM
    refine Rn.seq (Rn.reg (Rn.v rfl rfl rfl rfl (V.as rfl) (Rn.regEnd ?_)))
    refine Rn.retG1 Try.func5 rfl (rvT rfl) ?_
    obtain rfl := someE hM
    exact ⟨rfl, hm8.pick [] rfl (by decide)⟩
  · replace hM := iteF (by rw [h9]; exact Bool.false_ne_true) hM
    refine Rn.skip (Rn.seq (Rn.seq (Rn.reg (Rn.v rfl rfl rfl rfl (V.mv rfl) (Rn.v rfl rfl rfl rfl (V.lenV Try.underlying24 rfl) (Rn.v rfl rfl rfl rfl (V.gtr rfl rfl) (Rn.v rfl rfl rfl rfl (V.mv rfl) ?_)))))))
    refine Rn.cutR [8, 9, 10, 11, 12, 13, 14, 15, 16, 17] [(0, .slice A0 (x0).length c0), (1, .slice A1 (x1).length c1), (2, .int .i64 (x2)), (3, .slice A3 (x3).length c3), (4, .int .i64 (x4)), (37, .bool (decide (((x0.length : Int) > 40) ∨ ((x1.length : Int) > 100))))] (fun hk10 => ?_) ?_
    · refine Rn.partD (t := 33) rfl (fun h11 => ?_) (fun h11 => ?_)
      · refine Rn.no rfl rfl rfl rfl (Rn.no rfl rfl rfl rfl (Rn.no rfl rfl rfl rfl (Rn.v rfl rfl rfl rfl (V.pkT rfl rfl) ?_)))
        refine hk10 _ ?_
        exact Sub.cons rfl (Sub.cons rfl (Sub.cons rfl (Sub.cons rfl (Sub.cons rfl (Sub.cons (lkv _ rfl (by first | exact andT h11 | exact andF h11 | exact orT h11 | exact orF h11 | exact nandF h11 | exact nandT h11 | exact norT h11 | exact norF h11 | (simp [h11]; done) | grind)) (Sub.nil _))))))
      · refine Rn.v rfl rfl rfl rfl (V.mv rfl) (Rn.v rfl rfl rfl rfl (V.lenV Try.underlying48 rfl) (Rn.v rfl rfl rfl rfl (V.gtr rfl rfl) (Rn.v rfl rfl rfl rfl (V.pkF rfl rfl) ?_)))
        refine hk10 _ ?_
        exact Sub.cons rfl (Sub.cons rfl (Sub.cons rfl (Sub.cons rfl (Sub.cons rfl (Sub.cons (lkv _ rfl (by first | exact andT h11 | exact andF h11 | exact orT h11 | exact orF h11 | exact nandF h11 | exact nandT h11 | exact norT h11 | exact norF h11 | (simp [h11]; done) | grind)) (Sub.nil _))))))
    refine Rn.v rfl rfl rfl rfl (V.mv rfl) ?_
    refine Rn.cutR [13, 14, 15, 16, 17] [(0, .slice A0 (x0).length c0), (1, .slice A1 (x1).length c1), (2, .int .i64 (x2)), (3, .slice A3 (x3).length c3), (4, .int .i64 (x4)), (42, .bool (decide ((((x0.length : Int) > 40) ∨ ((x1.length : Int) > 100)) ∨ ((x3.length : Int) > 10))))] (fun hk12 => ?_) ?_
    · refine Rn.partD (t := 38) rfl (fun h13 => ?_) (fun h13 => ?_)
      · refine Rn.no rfl rfl rfl rfl (Rn.no rfl rfl rfl rfl (Rn.no rfl rfl rfl rfl (Rn.v rfl rfl rfl rfl (V.pkT rfl rfl) ?_)))
        refine hk12 _ ?_
        exact Sub.cons rfl (Sub.cons rfl (Sub.cons rfl (Sub.cons rfl (Sub.cons rfl (Sub.cons (lkv _ rfl (by first | exact andT h13 | exact andF h13 | exact orT h13 | exact orF h13 | exact nandF h13 | exact nandT h13 | exact norT h13 | exact norF h13 | (simp [h13]; done) | grind)) (Sub.nil _))))))
      · refine Rn.v rfl rfl rfl rfl (V.mv rfl) (Rn.v rfl rfl rfl rfl (V.lenV Try.underlying48 rfl) (Rn.v rfl rfl rfl rfl (V.gtr rfl rfl) (Rn.v rfl rfl rfl rfl (V.pkF rfl rfl) ?_)))
        refine hk12 _ ?_
        exact Sub.cons rfl (Sub.cons rfl (Sub.cons rfl (Sub.cons rfl (Sub.cons rfl (Sub.cons (lkv _ rfl (by first | exact andT h13 | exact andF h13 | exact orT h13 | exact orF h13 | exact nandF h13 | exact nandT h13 | exact norT h13 | exact norF h13 | (simp [h13]; done) | grind)) (Sub.nil _))))))
    refine Rn.v rfl rfl rfl rfl (V.mv rfl) ?_
    obtain ⟨j1, hj1, hM⟩ := jnE hM
    refine Rn.joinR (r := r) (G := Bool) [] (fun g => [(0, .slice A0 (x0).length c0), (1, .slice A1 (x1).length c1), (2, .int .i64 (x2)), (3, .slice A3 (x3).length c3), (4, .int .i64 (x4)), (47, .bool (g))]) (fun g w' => Hp Z0 No w w' [slR A0 c0 (Rep.sl byteR) x0, slR A1 c1 (intR .i64) x1, slR A3 c3 (intR .i64) x3]) (fun g => j1 g) ?_ ?_
    · subst hj1
      clear hM
      rintro y14 w15 hm15 hM
      replace hm15 : Hp Z0 No w w15 [slR A0 c0 (Rep.sl byteR) x0, slR A1 c1 (intR .i64) x1, slR A3 c3 (intR .i64) x3] := hm15
      show Rn _ _ _ _ _ [(0, .slice A0 (x0).length c0), (1, .slice A1 (x1).length c1), (2, .int .i64 (x2)), (3, .slice A3 (x3).length c3), (4, .int .i64 (x4)), (47, .bool (y14))] _
      try dsimp only at hM
      refine Rn.regEnd ?_
      refine Rn.condS rfl (fun h16 => ?_) (fun h16 => ?_)
      · replace hM := iteT h16 hM
        refine Rn.seq (Rn.reg (Rn.v rfl rfl rfl rfl (V.as rfl) (Rn.regEnd ?_)))
        refine Rn.retG1 Try.func5 rfl (rvT rfl) ?_
        obtain rfl := someE hM
        exact ⟨rfl, hm15.pick [] rfl (by decide)⟩
      · replace hM := iteF (by rw [h16]; exact Bool.false_ne_true) hM
        refine Rn.skip (Rn.seq (Rn.reg (Rn.v rfl rfl rfl rfl (V.mv rfl) ?_)))
        have hm18 := hm15.addNil 34 T_api_File.rep
        obtain ⟨p17, e17, hM⟩ := bindE hM
        refine Rn.cl ck10 rfl rfl rfl rfl (m_disk_New_sim (Z0 := All) _ none 0 ([] : List T_api_File) x4 (own_slR (hm18.get 3 rfl)) e17) ?_
        rintro _ w17 ⟨F17_0, b17_0, rfl, hq17⟩
        refine ⟨_, rfl, ?_⟩
        have hm21 : Hp Z0 No w w17 [slR A0 c0 (Rep.sl byteR) x0, slR A1 c1 (intR .i64) x1, slR A3 c3 (intR .i64) x3, ownR 34 none 0 T_api_File.rep ([] : List T_api_File), optR p17 (fun z => diskO 63 68 5 F17_0 b17_0 z)] := hm18.callF (flC (optR_flat fun _ => diskO_flat _ _ _ _ _ _) fl0) hq17
        refine Rn.v rfl rfl rfl rfl (V.as rfl) (Rn.regEnd (Rn.seq (Rn.seq (Rn.reg (Rn.v rfl rfl rfl rfl (V.mv rfl) (Rn.v rfl rfl rfl rfl (V.eqlO Try.underlying36 rfl rfl) (Rn.regEnd ?_)))))))
        refine Rn.condS rfl (fun h22 => ?_) (fun h22 => ?_)
        · replace hM := iteT h22 hM
          refine Rn.seq (Rn.reg (Rn.v rfl rfl rfl rfl (V.as rfl) (Rn.regEnd ?_)))
          refine Rn.retG1 Try.func5 rfl (rvT rfl) ?_
          obtain rfl := someE hM
          exact ⟨rfl, hm21.pick [] rfl (by decide)⟩
        · replace hM := iteF (by rw [h22]; exact Bool.false_ne_true) hM
          refine Rn.skip (Rn.seq (Rn.reg (Rn.v rfl rfl rfl rfl (V.mv rfl) ?_)))
          obtain ⟨z24, e24, hM⟩ := bindE hM
          have hm25 : Hp Z0 No w w17 [slR A0 c0 (Rep.sl byteR) x0, slR A1 c1 (intR .i64) x1, slR A3 c3 (intR .i64) x3, ownR 34 none 0 T_api_File.rep ([] : List T_api_File), diskO 63 68 5 F17_0 b17_0 z24] := hm21.optSome 4 rfl e24
          refine Rn.say (t := 53) (.pointer (some ⟨b17_0, 0, none⟩)) rfl (by rw [e24]; rfl) ?_
          obtain ⟨p23, e23, hM⟩ := bindE hM
          have hm26 : Hp Z0 No w w17 ([slR A0 c0 (Rep.sl byteR) x0, slR A1 c1 (intR .i64) x1, slR A3 c3 (intR .i64) x3, ownR 34 none 0 T_api_File.rep ([] : List T_api_File)] ++ [diskO 63 68 5 F17_0 b17_0 z24]) := hm25.pick [0, 1, 2, 3, 4] rfl (by decide)
          refine Rn.cl ck11 rfl rfl rfl rfl (m_wal_Open_sim (Z0 := _) _ F17_0 b17_0 z24 ([119] : List UInt8) hm26.lend e23) ?_
          rintro _ w23 ⟨F23_0, b23_0, A23_1_0, c23_1_0, F23_p0, rfl, hq23⟩
          refine ⟨_, rfl, ?_⟩
          have hm30 : Hp Z0 No w w23 [slR A0 c0 (Rep.sl byteR) x0, slR A1 c1 (intR .i64) x1, slR A3 c3 (intR .i64) x3, ownR 34 none 0 T_api_File.rep ([] : List T_api_File), optR p23.1 (fun z => T_wal_Log.obj F23_0 b23_0 b17_0 z), ownR 22 A23_1_0 c23_1_0 (Rep.sl byteR) p23.2.1, diskO 63 68 5 F23_p0 b17_0 p23.2.2.2] := hm26.callAZ hq23
          refine Rn.v rfl rfl rfl rfl (V.mv rfl) (Rn.v rfl rfl rfl rfl (V.ext rfl rfl) (Rn.v rfl rfl rfl rfl (V.ext rfl rfl) (Rn.v rfl rfl rfl rfl (V.ext rfl rfl) (Rn.v rfl rfl rfl rfl (V.as rfl) (Rn.v rfl rfl rfl rfl (V.as rfl) (Rn.v rfl rfl rfl rfl (V.as rfl) (Rn.regEnd (Rn.seq (Rn.seq (Rn.reg (Rn.v rfl rfl rfl rfl (V.mv rfl) (Rn.v rfl rfl rfl rfl (V.eqlO Try.underlying38 rfl rfl) (Rn.v rfl rfl rfl rfl (V.mv rfl) ?_)))))))))))))
          refine Rn.cutR [] [(0, .slice A0 (x0).length c0), (1, .slice A1 (x1).length c1), (2, .int .i64 (x2)), (3, .slice A3 (x3).length c3), (4, .int .i64 (x4)), (11, .pointer (optP b17_0 p17)), (12, .pointer (optP b23_0 p23.1)), (63, .bool (decide ((((p23.1).isNone) = true) ∨ (p23.2.2.1 ≠ 0))))] (fun hk31 => ?_) ?_
          · refine Rn.part (t := 60) rfl (fun h32 => ?_) (fun h32 => ?_)
            · refine Rn.no rfl rfl rfl rfl (Rn.no rfl rfl rfl rfl (Rn.v rfl rfl rfl rfl (V.pkT rfl rfl) ?_))
              refine hk31 _ ?_
              exact Sub.cons rfl (Sub.cons rfl (Sub.cons rfl (Sub.cons rfl (Sub.cons rfl (Sub.cons rfl (Sub.cons rfl (Sub.cons (lkv _ rfl (by first | exact andT h32 | exact andF h32 | exact orT h32 | exact orF h32 | exact nandF h32 | exact nandT h32 | exact norT h32 | exact norF h32 | (simp [h32]; done) | grind)) (Sub.nil _))))))))
            · refine Rn.v rfl rfl rfl rfl (V.mv rfl) (Rn.v rfl rfl rfl rfl (V.neq rfl rfl) (Rn.v rfl rfl rfl rfl (V.pkF rfl rfl) ?_))
              refine hk31 _ ?_
              exact Sub.cons rfl (Sub.cons rfl (Sub.cons rfl (Sub.cons rfl (Sub.cons rfl (Sub.cons rfl (Sub.cons rfl (Sub.cons (lkv _ rfl (by first | exact andT h32 | exact andF h32 | exact orT h32 | exact orF h32 | exact nandF h32 | exact nandT h32 | exact norT h32 | exact norF h32 | (simp [h32]; done) | grind)) (Sub.nil _))))))))
          refine Rn.regEnd ?_
          refine Rn.condD rfl (fun h33 => ?_) (fun h33 => ?_)
          · replace hM := iteT h33 hM
            refine Rn.seq (Rn.reg (Rn.v rfl rfl rfl rfl (V.as rfl) (Rn.regEnd ?_)))
            refine Rn.retG1 Try.func5 rfl (rvT rfl) ?_
            obtain rfl := someE hM
            exact ⟨rfl, hm30.pick [] rfl (by decide)⟩
          · replace hM := iteF h33 hM
            refine Rn.skip (Rn.seq (Rn.reg (Rn.v rfl rfl rfl rfl (V.mv rfl) (Rn.v rfl rfl rfl rfl (V.mv rfl) ?_))))
            refine Rn.say (t := 64) (.pointer (some ⟨b17_0, 0, none⟩)) rfl (by rw [e24]; rfl) ?_
            obtain ⟨p34, e34, hM⟩ := bindE hM
            have hm35 : Hp Z0 No w w23 ([slR A0 c0 (Rep.sl byteR) x0, slR A1 c1 (intR .i64) x1, slR A3 c3 (intR .i64) x3, ownR 34 none 0 T_api_File.rep ([] : List T_api_File), optR p23.1 (fun z => T_wal_Log.obj F23_0 b23_0 b17_0 z), ownR 22 A23_1_0 c23_1_0 (Rep.sl byteR) p23.2.1] ++ [diskO 63 68 5 F23_p0 b17_0 p23.2.2.2]) := hm30.pick [0, 1, 2, 3, 4, 5, 6] rfl (by decide)
            refine Rn.cl ck18 rfl rfl rfl rfl (m_disk_Disk_Crash_sim (Z0 := _) _ F23_p0 b17_0 p23.2.2.2 x2 hm35.lend e34) ?_
            rintro _ w34 ⟨F34_p0, rfl, hq34⟩
            refine ⟨_, rfl, ?_⟩
            have hm37 : Hp Z0 No w w34 [slR A0 c0 (Rep.sl byteR) x0, slR A1 c1 (intR .i64) x1, slR A3 c3 (intR .i64) x3, ownR 34 none 0 T_api_File.rep ([] : List T_api_File), optR p23.1 (fun z => T_wal_Log.obj F23_0 b23_0 b17_0 z), ownR 22 A23_1_0 c23_1_0 (Rep.sl byteR) p23.2.1, diskO 63 68 5 F34_p0 b17_0 p34] := hm35.callAZ hq34
            refine Rn.regEnd (Rn.seq (Rn.reg (Rn.v rfl rfl rfl rfl (V.as rfl) (Rn.regEnd (Rn.seq (Rn.reg (Rn.v rfl rfl rfl rfl (V.as rfl) (Rn.regEnd (Rn.seq (Rn.seq (Rn.reg (Rn.v rfl rfl rfl rfl (V.as rfl) (Rn.regEnd ?_)))))))))))))
            obtain ⟨j2, hj2, hM⟩ := jnE hM
            refine Rn.joinG (r := r) (G := (List (List UInt8)) × Int × PD × (Option T_wal_Log) × Option Addr × Nat × (Nat → Prop) × (Nat → Prop)) (fun g => [(3, .slice A3 (x3).length c3), (4, .int .i64 (x4)), (11, .pointer (optP b17_0 p17)), (12, .pointer (optP b23_0 (g.2.2.2.1))), (15, .slice (g.2.2.2.2.1) ((g.1)).length (g.2.2.2.2.2.1)), (16, .int .i64 ((g.2.1)))]) (fun g w' => Hp Z0 No w w' [slR A0 c0 (Rep.sl byteR) x0, slR A1 c1 (intR .i64) x1, slR A3 c3 (intR .i64) x3, ownR 34 none 0 T_api_File.rep ([] : List T_api_File), ownR 22 A23_1_0 c23_1_0 (Rep.sl byteR) p23.2.1, ownR 22 (g.2.2.2.2.1) (g.2.2.2.2.2.1) (Rep.sl byteR) (g.1), diskO 63 68 5 (g.2.2.2.2.2.2.1) b17_0 (g.2.2.1), optR (g.2.2.2.1) (fun z => T_wal_Log.obj (g.2.2.2.2.2.2.2) b23_0 b17_0 z)]) (fun g => j2 g.1 g.2.1 g.2.2.1 g.2.2.2.1) ?_ ?_
            · subst hj2
              clear hM
              rintro ⟨y38, y41, y42, y43, A39, c39, F42, F43⟩ w44 hm44 hM
              replace hm44 : Hp Z0 No w w44 [slR A0 c0 (Rep.sl byteR) x0, slR A1 c1 (intR .i64) x1, slR A3 c3 (intR .i64) x3, ownR 34 none 0 T_api_File.rep ([] : List T_api_File), ownR 22 A23_1_0 c23_1_0 (Rep.sl byteR) p23.2.1, ownR 22 A39 c39 (Rep.sl byteR) y38, diskO 63 68 5 F42 b17_0 y42, optR y43 (fun z => T_wal_Log.obj F43 b23_0 b17_0 z)] := hm44
              show Rn _ _ _ _ _ [(3, .slice A3 (x3).length c3), (4, .int .i64 (x4)), (11, .pointer (optP b17_0 p17)), (12, .pointer (optP b23_0 y43)), (15, .slice A39 (y38).length c39), (16, .int .i64 (y41))] _
              try dsimp only at hM
              refine Rn.seq (Rn.seq (Rn.reg (Rn.v rfl rfl rfl rfl (V.mv rfl) ?_)))
              obtain ⟨z46, e46, hM⟩ := bindE hM
              have hm47 : Hp Z0 No w w44 [slR A0 c0 (Rep.sl byteR) x0, slR A1 c1 (intR .i64) x1, slR A3 c3 (intR .i64) x3, ownR 34 none 0 T_api_File.rep ([] : List T_api_File), ownR 22 A23_1_0 c23_1_0 (Rep.sl byteR) p23.2.1, ownR 22 A39 c39 (Rep.sl byteR) y38, diskO 63 68 5 F42 b17_0 y42, T_wal_Log.obj F43 b23_0 b17_0 z46] := hm44.optSome 7 rfl e46
              refine Rn.say (t := 121) (.pointer (some ⟨b23_0, 0, none⟩)) rfl (by rw [e46]; rfl) ?_
              obtain ⟨p45, e45, hM⟩ := bindE hM
              refine Rn.cl ck13 rfl rfl rfl rfl (m_wal_Log_Len_sim (Z0 := All) _ F43 b23_0 z46 F42 b17_0 y42 (fz_all (hm47.get 7 rfl)) (fz_all (hm47.get 6 rfl)) e45) ?_
              rintro _ w45 ⟨rfl, hq45⟩
              refine ⟨_, rfl, ?_⟩
              have hm48 := hm47.call0 hq45
              refine Rn.v rfl rfl rfl rfl (V.mv rfl) (Rn.v rfl rfl rfl rfl (V.lenV Try.underlying24 rfl) (Rn.v rfl rfl rfl rfl (V.neq rfl rfl) (Rn.regEnd ?_)))
              refine Rn.condD rfl (fun h49 => ?_) (fun h49 => ?_)
              · replace hM := iteT h49 hM
                refine Rn.seq (Rn.reg (Rn.v rfl rfl rfl rfl (V.as rfl) (Rn.regEnd ?_)))
                refine Rn.retG1 Try.func5 rfl (rvT rfl) ?_
                obtain rfl := someE hM
                exact ⟨rfl, hm48.pick [] rfl (by decide)⟩
              · replace hM := iteF h49 hM
                refine Rn.skip (Rn.seq (Rn.seq (Rn.reg (Rn.v rfl rfl rfl rfl (V.mv rfl) ?_))))
                refine Rn.say (t := 126) (.pointer (some ⟨b17_0, 0, none⟩)) rfl (by rw [e24]; rfl) ?_
                obtain ⟨p50, e50, hM⟩ := bindE hM
                refine Rn.cl ck21 rfl rfl rfl rfl (m_disk_Disk_Down_sim (Z0 := All) _ F42 b17_0 y42 (fz_all (hm48.get 6 rfl)) e50) ?_
                rintro _ w50 ⟨rfl, hq50⟩
                refine ⟨_, rfl, ?_⟩
                have hm51 := hm48.call0 hq50
                refine Rn.v rfl rfl rfl rfl (V.notB rfl) (Rn.regEnd ?_)
                obtain ⟨j3, hj3, hM⟩ := jnE hM
                refine Rn.joinG (r := r) (G := PD × (Nat → Prop) × (Nat → Prop)) (fun g => [(3, .slice A3 (x3).length c3), (4, .int .i64 (x4)), (11, .pointer (optP b17_0 p17)), (15, .slice A39 (y38).length c39), (16, .int .i64 (y41))]) (fun g w' => Hp Z0 No w w' [slR A0 c0 (Rep.sl byteR) x0, slR A1 c1 (intR .i64) x1, slR A3 c3 (intR .i64) x3, ownR 34 none 0 T_api_File.rep ([] : List T_api_File), ownR 22 A23_1_0 c23_1_0 (Rep.sl byteR) p23.2.1, ownR 22 A39 c39 (Rep.sl byteR) y38, T_wal_Log.obj (g.2.1) b23_0 b17_0 z46, diskO 63 68 5 (g.2.2) b17_0 (g.1)]) (fun g => j3 g.1) ?_ ?_
                · subst hj3
                  clear hM
                  rintro ⟨y53, F52, F53⟩ w54 hm54 hM
                  replace hm54 : Hp Z0 No w w54 [slR A0 c0 (Rep.sl byteR) x0, slR A1 c1 (intR .i64) x1, slR A3 c3 (intR .i64) x3, ownR 34 none 0 T_api_File.rep ([] : List T_api_File), ownR 22 A23_1_0 c23_1_0 (Rep.sl byteR) p23.2.1, ownR 22 A39 c39 (Rep.sl byteR) y38, T_wal_Log.obj F52 b23_0 b17_0 z46, diskO 63 68 5 F53 b17_0 y53] := hm54
                  show Rn _ _ _ _ _ [(3, .slice A3 (x3).length c3), (4, .int .i64 (x4)), (11, .pointer (optP b17_0 p17)), (15, .slice A39 (y38).length c39), (16, .int .i64 (y41))] _
                  try dsimp only at hM
                  refine Rn.seq (Rn.seq (Rn.reg (Rn.v rfl rfl rfl rfl (V.mv rfl) (Rn.v rfl rfl rfl rfl (V.mv rfl) ?_))))
                  refine Rn.say (t := 133) (.pointer (some ⟨b17_0, 0, none⟩)) rfl (by rw [e24]; rfl) ?_
                  obtain ⟨p55, e55, hM⟩ := bindE hM
                  have hm56 := hm54.dup 2 rfl (fun _ h => h)
                  have hm58 : Hp Z0 No w w54 ([slR A0 c0 (Rep.sl byteR) x0, slR A1 c1 (intR .i64) x1, slR A3 c3 (intR .i64) x3, ownR 34 none 0 T_api_File.rep ([] : List T_api_File), ownR 22 A23_1_0 c23_1_0 (Rep.sl byteR) p23.2.1, ownR 22 A39 c39 (Rep.sl byteR) y38, T_wal_Log.obj F52 b23_0 b17_0 z46] ++ [diskO 63 68 5 F53 b17_0 y53, slR A3 c3 (intR .i64) x3]) := hm56.pick [0, 1, 2, 3, 4, 5, 6, 7, 8] rfl (by decide)
                  refine Rn.cl ck22 rfl rfl rfl rfl (m_disk_Disk_Boot_sim (Z0 := _) _ F53 b17_0 y53 A3 c3 x3 hm58.lend e55) ?_
                  rintro _ w55 ⟨F55_p0, rfl, hq55⟩
                  refine ⟨_, rfl, ?_⟩
                  have hm60 : Hp Z0 No w w55 [slR A0 c0 (Rep.sl byteR) x0, slR A1 c1 (intR .i64) x1, slR A3 c3 (intR .i64) x3, ownR 34 none 0 T_api_File.rep ([] : List T_api_File), ownR 22 A23_1_0 c23_1_0 (Rep.sl byteR) p23.2.1, ownR 22 A39 c39 (Rep.sl byteR) y38, T_wal_Log.obj F52 b23_0 b17_0 z46, diskO 63 68 5 F55_p0 b17_0 p55.2] := hm58.callAZ hq55
                  refine Rn.v rfl rfl rfl rfl (V.neq rfl rfl) (Rn.regEnd ?_)
                  refine Rn.condD rfl (fun h61 => ?_) (fun h61 => ?_)
                  · replace hM := iteT h61 hM
                    refine Rn.seq (Rn.reg (Rn.v rfl rfl rfl rfl (V.as rfl) (Rn.regEnd ?_)))
                    refine Rn.retG1 Try.func5 rfl (rvT rfl) ?_
                    obtain rfl := someE hM
                    exact ⟨rfl, hm60.pick [] rfl (by decide)⟩
                  · replace hM := iteF h61 hM
                    refine Rn.skip (Rn.seq (Rn.reg (Rn.v rfl rfl rfl rfl (V.mv rfl) ?_)))
                    refine Rn.say (t := 138) (.pointer (some ⟨b17_0, 0, none⟩)) rfl (by rw [e24]; rfl) ?_
                    obtain ⟨p62, e62, hM⟩ := bindE hM
                    have hm63 : Hp Z0 No w w55 ([slR A0 c0 (Rep.sl byteR) x0, slR A1 c1 (intR .i64) x1, slR A3 c3 (intR .i64) x3, ownR 34 none 0 T_api_File.rep ([] : List T_api_File), ownR 22 A23_1_0 c23_1_0 (Rep.sl byteR) p23.2.1, ownR 22 A39 c39 (Rep.sl byteR) y38, T_wal_Log.obj F52 b23_0 b17_0 z46] ++ [diskO 63 68 5 F55_p0 b17_0 p55.2]) := hm60.pick [0, 1, 2, 3, 4, 5, 6, 7] rfl (by decide)
                    refine Rn.cl ck11 rfl rfl rfl rfl (m_wal_Open_sim (Z0 := _) _ F55_p0 b17_0 p55.2 ([119] : List UInt8) hm63.lend e62) ?_
                    rintro _ w62 ⟨F62_0, b62_0, A62_1_0, c62_1_0, F62_p0, rfl, hq62⟩
                    refine ⟨_, rfl, ?_⟩
                    have hm67 : Hp Z0 No w w62 [slR A0 c0 (Rep.sl byteR) x0, slR A1 c1 (intR .i64) x1, slR A3 c3 (intR .i64) x3, ownR 34 none 0 T_api_File.rep ([] : List T_api_File), ownR 22 A23_1_0 c23_1_0 (Rep.sl byteR) p23.2.1, ownR 22 A39 c39 (Rep.sl byteR) y38, T_wal_Log.obj F52 b23_0 b17_0 z46, optR p62.1 (fun z => T_wal_Log.obj F62_0 b62_0 b17_0 z), ownR 22 A62_1_0 c62_1_0 (Rep.sl byteR) p62.2.1, diskO 63 68 5 F62_p0 b17_0 p62.2.2.2] := hm63.callAZ hq62
                    refine Rn.v rfl rfl rfl rfl (V.mv rfl) (Rn.v rfl rfl rfl rfl (V.ext rfl rfl) (Rn.v rfl rfl rfl rfl (V.ext rfl rfl) (Rn.v rfl rfl rfl rfl (V.ext rfl rfl) (Rn.v rfl rfl rfl rfl (V.as rfl) (Rn.v rfl rfl rfl rfl (V.as rfl) (Rn.v rfl rfl rfl rfl (V.as rfl) (Rn.regEnd (Rn.seq (Rn.seq (Rn.reg (Rn.v rfl rfl rfl rfl (V.mv rfl) (Rn.v rfl rfl rfl rfl (V.eqlO Try.underlying38 rfl rfl) (Rn.v rfl rfl rfl rfl (V.mv rfl) ?_)))))))))))))
                    refine Rn.cutR [6, 7, 8, 9, 10, 11, 12, 13, 14, 15, 16, 17, 18, 19, 20, 21, 22, 23, 24, 25, 26, 27, 28, 29, 30, 31, 32, 33, 34] [(4, .int .i64 (x4)), (11, .pointer (optP b17_0 p17)), (15, .slice A39 (y38).length c39), (16, .int .i64 (y41)), (21, .pointer (optP b62_0 p62.1)), (22, .slice A62_1_0 (p62.2.1).length c62_1_0), (148, .bool (decide ((((p62.1).isNone) = true) ∨ (p62.2.2.1 ≠ 0))))] (fun hk68 => ?_) ?_
                    · refine Rn.part (t := 145) rfl (fun h69 => ?_) (fun h69 => ?_)
                      · refine Rn.no rfl rfl rfl rfl (Rn.no rfl rfl rfl rfl (Rn.v rfl rfl rfl rfl (V.pkT rfl rfl) ?_))
                        refine hk68 _ ?_
                        exact Sub.cons rfl (Sub.cons rfl (Sub.cons rfl (Sub.cons rfl (Sub.cons rfl (Sub.cons rfl (Sub.cons (lkv _ rfl (by first | exact andT h69 | exact andF h69 | exact orT h69 | exact orF h69 | exact nandF h69 | exact nandT h69 | exact norT h69 | exact norF h69 | (simp [h69]; done) | grind)) (Sub.nil _)))))))
                      · refine Rn.v rfl rfl rfl rfl (V.mv rfl) (Rn.v rfl rfl rfl rfl (V.neq rfl rfl) (Rn.v rfl rfl rfl rfl (V.pkF rfl rfl) ?_))
                        refine hk68 _ ?_
                        exact Sub.cons rfl (Sub.cons rfl (Sub.cons rfl (Sub.cons rfl (Sub.cons rfl (Sub.cons rfl (Sub.cons (lkv _ rfl (by first | exact andT h69 | exact andF h69 | exact orT h69 | exact orF h69 | exact nandF h69 | exact nandT h69 | exact norT h69 | exact norF h69 | (simp [h69]; done) | grind)) (Sub.nil _)))))))
                    refine Rn.v rfl rfl rfl rfl (V.mv rfl) ?_
                    refine Rn.cutR [12, 13, 14, 15, 16, 17, 18, 19, 20, 21, 22, 23, 24, 25, 26, 27, 28, 29, 30, 31, 32, 33, 34] [(4, .int .i64 (x4)), (11, .pointer (optP b17_0 p17)), (15, .slice A39 (y38).length c39), (21, .pointer (optP b62_0 p62.1)), (22, .slice A62_1_0 (p62.2.1).length c62_1_0), (154, .bool (decide (((((p62.1).isNone) = true) ∨ (p62.2.2.1 ≠ 0)) ∨ ((p62.2.1.length : Int) < y41))))] (fun hk70 => ?_) ?_
                    · refine Rn.partD (t := 149) rfl (fun h71 => ?_) (fun h71 => ?_)
                      · refine Rn.no rfl rfl rfl rfl (Rn.no rfl rfl rfl rfl (Rn.no rfl rfl rfl rfl (Rn.no rfl rfl rfl rfl (Rn.v rfl rfl rfl rfl (V.pkT rfl rfl) ?_))))
                        refine hk70 _ ?_
                        exact Sub.cons rfl (Sub.cons rfl (Sub.cons rfl (Sub.cons rfl (Sub.cons rfl (Sub.cons (lkv _ rfl (by first | exact andT h71 | exact andF h71 | exact orT h71 | exact orF h71 | exact nandF h71 | exact nandT h71 | exact norT h71 | exact norF h71 | (simp [h71]; done) | grind)) (Sub.nil _))))))
                      · refine Rn.v rfl rfl rfl rfl (V.mv rfl) (Rn.v rfl rfl rfl rfl (V.lenV Try.underlying24 rfl) (Rn.v rfl rfl rfl rfl (V.mv rfl) (Rn.v rfl rfl rfl rfl (V.lss rfl rfl) (Rn.v rfl rfl rfl rfl (V.pkF rfl rfl) ?_))))
                        refine hk70 _ ?_
                        exact Sub.cons rfl (Sub.cons rfl (Sub.cons rfl (Sub.cons rfl (Sub.cons rfl (Sub.cons (lkv _ rfl (by first | exact andT h71 | exact andF h71 | exact orT h71 | exact orF h71 | exact nandF h71 | exact nandT h71 | exact norT h71 | exact norF h71 | (simp [h71]; done) | grind)) (Sub.nil _))))))
                    refine Rn.v rfl rfl rfl rfl (V.mv rfl) ?_
                    refine Rn.cutR [19, 20, 21, 22, 23, 24, 25, 26, 27, 28, 29, 30, 31, 32, 33, 34] [(4, .int .i64 (x4)), (11, .pointer (optP b17_0 p17)), (15, .slice A39 (y38).length c39), (21, .pointer (optP b62_0 p62.1)), (22, .slice A62_1_0 (p62.2.1).length c62_1_0), (161, .bool (decide ((((((p62.1).isNone) = true) ∨ (p62.2.2.1 ≠ 0)) ∨ ((p62.2.1.length : Int) < y41)) ∨ ((p62.2.1.length : Int) > (y38.length : Int)))))] (fun hk72 => ?_) ?_
                    · refine Rn.partD (t := 155) rfl (fun h73 => ?_) (fun h73 => ?_)
                      · refine Rn.no rfl rfl rfl rfl (Rn.no rfl rfl rfl rfl (Rn.no rfl rfl rfl rfl (Rn.no rfl rfl rfl rfl (Rn.no rfl rfl rfl rfl (Rn.v rfl rfl rfl rfl (V.pkT rfl rfl) ?_)))))
                        refine hk72 _ ?_
                        exact Sub.cons rfl (Sub.cons rfl (Sub.cons rfl (Sub.cons rfl (Sub.cons rfl (Sub.cons (lkv _ rfl (by first | exact andT h73 | exact andF h73 | exact orT h73 | exact orF h73 | exact nandF h73 | exact nandT h73 | exact norT h73 | exact norF h73 | (simp [h73]; done) | grind)) (Sub.nil _))))))
                      · refine Rn.v rfl rfl rfl rfl (V.mv rfl) (Rn.v rfl rfl rfl rfl (V.lenV Try.underlying24 rfl) (Rn.v rfl rfl rfl rfl (V.mv rfl) (Rn.v rfl rfl rfl rfl (V.lenV Try.underlying24 rfl) (Rn.v rfl rfl rfl rfl (V.gtr rfl rfl) (Rn.v rfl rfl rfl rfl (V.pkF rfl rfl) ?_)))))
                        refine hk72 _ ?_
                        exact Sub.cons rfl (Sub.cons rfl (Sub.cons rfl (Sub.cons rfl (Sub.cons rfl (Sub.cons (lkv _ rfl (by first | exact andT h73 | exact andF h73 | exact orT h73 | exact orF h73 | exact nandF h73 | exact nandT h73 | exact norT h73 | exact norF h73 | (simp [h73]; done) | grind)) (Sub.nil _))))))
                    refine Rn.v rfl rfl rfl rfl (V.mv rfl) ?_
                    obtain ⟨j4, hj4, hM⟩ := jnE hM
                    refine Rn.joinR (r := r) (G := Bool × (Nat → Prop) × (Nat → Prop) × (Nat → Prop)) [28, 29, 30, 31, 32, 33, 34] (fun g => [(4, .int .i64 (x4)), (11, .pointer (optP b17_0 p17)), (21, .pointer (optP b62_0 p62.1)), (22, .slice A62_1_0 (p62.2.1).length c62_1_0), (170, .bool ((g.1)))]) (fun g w' => Hp Z0 No w w' [slR A0 c0 (Rep.sl byteR) x0, slR A1 c1 (intR .i64) x1, slR A3 c3 (intR .i64) x3, ownR 34 none 0 T_api_File.rep ([] : List T_api_File), ownR 22 A23_1_0 c23_1_0 (Rep.sl byteR) p23.2.1, T_wal_Log.obj (g.2.1) b23_0 b17_0 z46, optR p62.1 (fun z => T_wal_Log.obj (g.2.2.1) b62_0 b17_0 z), ownR 22 A62_1_0 c62_1_0 (Rep.sl byteR) p62.2.1, diskO 63 68 5 (g.2.2.2) b17_0 p62.2.2.2]) (fun g => j4 g.1) ?_ ?_
                    · subst hj4
                      clear hM
                      rintro ⟨y77, F74, F75, F76⟩ w78 hm78 hM
                      replace hm78 : Hp Z0 No w w78 [slR A0 c0 (Rep.sl byteR) x0, slR A1 c1 (intR .i64) x1, slR A3 c3 (intR .i64) x3, ownR 34 none 0 T_api_File.rep ([] : List T_api_File), ownR 22 A23_1_0 c23_1_0 (Rep.sl byteR) p23.2.1, T_wal_Log.obj F74 b23_0 b17_0 z46, optR p62.1 (fun z => T_wal_Log.obj F75 b62_0 b17_0 z), ownR 22 A62_1_0 c62_1_0 (Rep.sl byteR) p62.2.1, diskO 63 68 5 F76 b17_0 p62.2.2.2] := hm78
                      show Rn _ _ _ _ _ [(4, .int .i64 (x4)), (11, .pointer (optP b17_0 p17)), (21, .pointer (optP b62_0 p62.1)), (22, .slice A62_1_0 (p62.2.1).length c62_1_0), (170, .bool (y77))] _
                      try dsimp only at hM
                      refine Rn.v rfl rfl rfl rfl (V.mv rfl) ?_
                      obtain ⟨j5, hj5, hM⟩ := jnE hM
                      refine Rn.joinR (r := r) (G := Bool × (Nat → Prop) × (Nat → Prop) × (Nat → Prop)) [] (fun g => [(4, .int .i64 (x4)), (11, .pointer (optP b17_0 p17)), (21, .pointer (optP b62_0 p62.1)), (22, .slice A62_1_0 (p62.2.1).length c62_1_0), (177, .bool ((g.1)))]) (fun g w' => Hp Z0 No w w' [slR A0 c0 (Rep.sl byteR) x0, slR A1 c1 (intR .i64) x1, slR A3 c3 (intR .i64) x3, ownR 34 none 0 T_api_File.rep ([] : List T_api_File), ownR 22 A23_1_0 c23_1_0 (Rep.sl byteR) p23.2.1, T_wal_Log.obj (g.2.1) b23_0 b17_0 z46, optR p62.1 (fun z => T_wal_Log.obj (g.2.2.1) b62_0 b17_0 z), ownR 22 A62_1_0 c62_1_0 (Rep.sl byteR) p62.2.1, diskO 63 68 5 (g.2.2.2) b17_0 p62.2.2.2]) (fun g => j5 g.1) ?_ ?_
                      · subst hj5
                        clear hM
                        rintro ⟨y82, F79, F80, F81⟩ w83 hm83 hM
                        replace hm83 : Hp Z0 No w w83 [slR A0 c0 (Rep.sl byteR) x0, slR A1 c1 (intR .i64) x1, slR A3 c3 (intR .i64) x3, ownR 34 none 0 T_api_File.rep ([] : List T_api_File), ownR 22 A23_1_0 c23_1_0 (Rep.sl byteR) p23.2.1, T_wal_Log.obj F79 b23_0 b17_0 z46, optR p62.1 (fun z => T_wal_Log.obj F80 b62_0 b17_0 z), ownR 22 A62_1_0 c62_1_0 (Rep.sl byteR) p62.2.1, diskO 63 68 5 F81 b17_0 p62.2.2.2] := hm83
                        show Rn _ _ _ _ _ [(4, .int .i64 (x4)), (11, .pointer (optP b17_0 p17)), (21, .pointer (optP b62_0 p62.1)), (22, .slice A62_1_0 (p62.2.1).length c62_1_0), (177, .bool (y82))] _
                        try dsimp only at hM
                        refine Rn.regEnd ?_
                        refine Rn.condS rfl (fun h84 => ?_) (fun h84 => ?_)
                        · replace hM := iteT h84 hM
                          refine Rn.seq (Rn.reg (Rn.v rfl rfl rfl rfl (V.as rfl) (Rn.regEnd ?_)))
                          refine Rn.retG1 Try.func5 rfl (rvT rfl) ?_
                          obtain rfl := someE hM
                          exact ⟨rfl, hm83.pick [] rfl (by decide)⟩
                        · replace hM := iteF (by rw [h84]; exact Bool.false_ne_true) hM
                          refine Rn.skip (Rn.seq (Rn.reg (Rn.v rfl rfl rfl rfl (V.mv rfl) ?_)))
                          refine Rn.say (t := 179) (.pointer (some ⟨b17_0, 0, none⟩)) rfl (by rw [e24]; rfl) ?_
                          obtain ⟨p85, e85, hM⟩ := bindE hM
                          refine Rn.cl ck23 rfl rfl rfl rfl (m_disk_Disk_Size_sim (Z0 := All) _ F81 b17_0 p62.2.2.2 ([119] : List UInt8) (fz_all (hm83.get 8 rfl)) e85) ?_
                          rintro _ w85 ⟨rfl, hq85⟩
                          refine ⟨_, rfl, ?_⟩
                          have hm86 := hm83.call0 hq85
                          refine Rn.v rfl rfl rfl rfl (V.mv rfl) (Rn.v rfl rfl rfl rfl (V.ext rfl rfl) (Rn.v rfl rfl rfl rfl (V.ext rfl rfl) (Rn.v rfl rfl rfl rfl (V.ext rfl rfl) (Rn.v rfl rfl rfl rfl (V.as rfl) (Rn.v rfl rfl rfl rfl (V.as rfl) (Rn.v rfl rfl rfl rfl (V.as rfl) (Rn.regEnd (Rn.seq (Rn.seq (Rn.reg (Rn.v rfl rfl rfl rfl (V.mv rfl) (Rn.v rfl rfl rfl rfl (V.mv rfl) ?_))))))))))))
                          obtain ⟨z88, e88, hM⟩ := bindE hM
                          have hm89 : Hp Z0 No w w85 [slR A0 c0 (Rep.sl byteR) x0, slR A1 c1 (intR .i64) x1, slR A3 c3 (intR .i64) x3, ownR 34 none 0 T_api_File.rep ([] : List T_api_File), ownR 22 A23_1_0 c23_1_0 (Rep.sl byteR) p23.2.1, T_wal_Log.obj F79 b23_0 b17_0 z46, T_wal_Log.obj F80 b62_0 b17_0 z88, ownR 22 A62_1_0 c62_1_0 (Rep.sl byteR) p62.2.1, diskO 63 68 5 F81 b17_0 p62.2.2.2] := hm86.optSome 6 rfl e88
                          refine Rn.say (t := 185) (.pointer (some ⟨b62_0, 0, none⟩)) rfl (by rw [e88]; rfl) ?_
                          obtain ⟨p87, e87, hM⟩ := bindE hM
                          refine Rn.cl ck14 rfl rfl rfl rfl (m_wal_Log_Size_sim (Z0 := All) _ F80 b62_0 z88 F81 b17_0 p62.2.2.2 (fz_all (hm89.get 6 rfl)) (fz_all (hm89.get 8 rfl)) e87) ?_
                          rintro _ w87 ⟨rfl, hq87⟩
                          refine ⟨_, rfl, ?_⟩
                          have hm90 := hm89.call0 hq87
                          refine Rn.v rfl rfl rfl rfl (V.neq rfl rfl) (Rn.v rfl rfl rfl rfl (V.mv rfl) ?_)
                          obtain ⟨j6, hj6, hM⟩ := jnE hM
                          refine Rn.joinR (r := r) (G := Bool × T_wal_Log × PD × (Nat → Prop) × (Nat → Prop) × (Nat → Prop)) [] (fun g => [(11, .pointer (optP b17_0 p17)), (21, .pointer (optP b62_0 p62.1)), (22, .slice A62_1_0 (p62.2.1).length c62_1_0), (200, .bool ((g.1)))]) (fun g w' => Hp Z0 No w w' [slR A0 c0 (Rep.sl byteR) x0, slR A1 c1 (intR .i64) x1, slR A3 c3 (intR .i64) x3, ownR 34 none 0 T_api_File.rep ([] : List T_api_File), ownR 22 A23_1_0 c23_1_0 (Rep.sl byteR) p23.2.1, T_wal_Log.obj (g.2.2.2.1) b23_0 b17_0 z46, ownR 22 A62_1_0 c62_1_0 (Rep.sl byteR) p62.2.1, T_wal_Log.obj (g.2.2.2.2.1) b62_0 b17_0 (g.2.1), diskO 63 68 5 (g.2.2.2.2.2) b17_0 (g.2.2.1)]) (fun g => j6 g.1 g.2.1 g.2.2.1) ?_ ?_
                          · subst hj6
                            clear hM
                            rintro ⟨y92, y93, y94, F91, F93, F94⟩ w95 hm95 hM
                            replace hm95 : Hp Z0 No w w95 [slR A0 c0 (Rep.sl byteR) x0, slR A1 c1 (intR .i64) x1, slR A3 c3 (intR .i64) x3, ownR 34 none 0 T_api_File.rep ([] : List T_api_File), ownR 22 A23_1_0 c23_1_0 (Rep.sl byteR) p23.2.1, T_wal_Log.obj F91 b23_0 b17_0 z46, ownR 22 A62_1_0 c62_1_0 (Rep.sl byteR) p62.2.1, T_wal_Log.obj F93 b62_0 b17_0 y93, diskO 63 68 5 F94 b17_0 y94] := hm95
                            show Rn _ _ _ _ _ [(11, .pointer (optP b17_0 p17)), (21, .pointer (optP b62_0 p62.1)), (22, .slice A62_1_0 (p62.2.1).length c62_1_0), (200, .bool (y92))] _
                            try dsimp only at hM
                            refine Rn.regEnd ?_
                            refine Rn.condS rfl (fun h96 => ?_) (fun h96 => ?_)
                            · replace hM := iteT h96 hM
                              refine Rn.seq (Rn.reg (Rn.v rfl rfl rfl rfl (V.as rfl) (Rn.regEnd ?_)))
                              refine Rn.retG1 Try.func5 rfl (rvT rfl) ?_
                              obtain rfl := someE hM
                              exact ⟨rfl, hm95.pick [] rfl (by decide)⟩
                            · replace hM := iteF (by rw [h96]; exact Bool.false_ne_true) hM
                              refine Rn.skip (Rn.seq (Rn.reg (Rn.v rfl rfl rfl rfl (V.mv rfl) ?_)))
                              refine Rn.say (t := 202) (.pointer (some ⟨b17_0, 0, none⟩)) rfl (by rw [e24]; rfl) ?_
                              obtain ⟨p97, e97, hM⟩ := bindE hM
                              have hm98 : Hp Z0 No w w95 ([slR A0 c0 (Rep.sl byteR) x0, slR A1 c1 (intR .i64) x1, slR A3 c3 (intR .i64) x3, ownR 34 none 0 T_api_File.rep ([] : List T_api_File), ownR 22 A23_1_0 c23_1_0 (Rep.sl byteR) p23.2.1, T_wal_Log.obj F91 b23_0 b17_0 z46, ownR 22 A62_1_0 c62_1_0 (Rep.sl byteR) p62.2.1, T_wal_Log.obj F93 b62_0 b17_0 y93] ++ [diskO 63 68 5 F94 b17_0 y94]) := hm95.pick [0, 1, 2, 3, 4, 5, 6, 7, 8] rfl (by decide)
                              refine Rn.cl ck11 rfl rfl rfl rfl (m_wal_Open_sim (Z0 := _) _ F94 b17_0 y94 ([119] : List UInt8) hm98.lend e97) ?_
                              rintro _ w97 ⟨F97_0, b97_0, A97_1_0, c97_1_0, F97_p0, rfl, hq97⟩
                              refine ⟨_, rfl, ?_⟩
                              have hm102 : Hp Z0 No w w97 [slR A0 c0 (Rep.sl byteR) x0, slR A1 c1 (intR .i64) x1, slR A3 c3 (intR .i64) x3, ownR 34 none 0 T_api_File.rep ([] : List T_api_File), ownR 22 A23_1_0 c23_1_0 (Rep.sl byteR) p23.2.1, T_wal_Log.obj F91 b23_0 b17_0 z46, ownR 22 A62_1_0 c62_1_0 (Rep.sl byteR) p62.2.1, T_wal_Log.obj F93 b62_0 b17_0 y93, optR p97.1 (fun z => T_wal_Log.obj F97_0 b97_0 b17_0 z), ownR 22 A97_1_0 c97_1_0 (Rep.sl byteR) p97.2.1, diskO 63 68 5 F97_p0 b17_0 p97.2.2.2] := hm98.callAZ hq97
                              refine Rn.v rfl rfl rfl rfl (V.mv rfl) (Rn.v rfl rfl rfl rfl (V.ext rfl rfl) (Rn.v rfl rfl rfl rfl (V.ext rfl rfl) (Rn.v rfl rfl rfl rfl (V.ext rfl rfl) (Rn.v rfl rfl rfl rfl (V.as rfl) (Rn.v rfl rfl rfl rfl (V.as rfl) (Rn.v rfl rfl rfl rfl (V.as rfl) (Rn.regEnd (Rn.seq (Rn.reg (Rn.v rfl rfl rfl rfl (V.mv rfl) (Rn.v rfl rfl rfl rfl (V.neqO Try.underlying38 rfl rfl) (Rn.v rfl rfl rfl rfl (V.mv rfl) ?_))))))))))))
                              refine Rn.cutR [6, 7, 8, 9, 10, 11, 12, 13, 14, 15, 16, 17, 18, 19, 20, 21] [(21, .pointer (optP b62_0 p62.1)), (22, .slice A62_1_0 (p62.2.1).length c62_1_0), (26, .pointer (optP b97_0 p97.1)), (27, .slice A97_1_0 (p97.2.1).length c97_1_0), (212, .bool (decide (((!((p97.1).isNone)) = true) ∧ (p97.2.2.1 = 0))))] (fun hk103 => ?_) ?_
                              · refine Rn.part (t := 209) rfl (fun h104 => ?_) (fun h104 => ?_)
                                · refine Rn.v rfl rfl rfl rfl (V.mv rfl) (Rn.v rfl rfl rfl rfl (V.eql rfl rfl) (Rn.v rfl rfl rfl rfl (V.pkT rfl rfl) ?_))
                                  refine hk103 _ ?_
                                  exact Sub.cons rfl (Sub.cons rfl (Sub.cons rfl (Sub.cons rfl (Sub.cons (lkv _ rfl (by first | exact andT h104 | exact andF h104 | exact orT h104 | exact orF h104 | exact nandF h104 | exact nandT h104 | exact norT h104 | exact norF h104 | (simp [h104]; done) | grind)) (Sub.nil _)))))
                                · refine Rn.no rfl rfl rfl rfl (Rn.no rfl rfl rfl rfl (Rn.v rfl rfl rfl rfl (V.pkF rfl rfl) ?_))
                                  refine hk103 _ ?_
                                  exact Sub.cons rfl (Sub.cons rfl (Sub.cons rfl (Sub.cons rfl (Sub.cons (lkv _ rfl (by first | exact andT h104 | exact andF h104 | exact orT h104 | exact orF h104 | exact nandF h104 | exact nandT h104 | exact norT h104 | exact norF h104 | (simp [h104]; done) | grind)) (Sub.nil _)))))
                              refine Rn.v rfl rfl rfl rfl (V.mv rfl) ?_
                              obtain ⟨j7, hj7, hM⟩ := jnE hM
                              refine Rn.joinR (r := r) (G := Bool × (Nat → Prop) × (Nat → Prop) × (Nat → Prop) × (Nat → Prop)) [13, 14, 15, 16, 17, 18, 19, 20, 21] (fun g => [(22, .slice A62_1_0 (p62.2.1).length c62_1_0), (27, .slice A97_1_0 (p97.2.1).length c97_1_0), (219, .bool ((g.1)))]) (fun g w' => Hp Z0 No w w' [slR A0 c0 (Rep.sl byteR) x0, slR A1 c1 (intR .i64) x1, slR A3 c3 (intR .i64) x3, ownR 34 none 0 T_api_File.rep ([] : List T_api_File), ownR 22 A23_1_0 c23_1_0 (Rep.sl byteR) p23.2.1, T_wal_Log.obj (g.2.1) b23_0 b17_0 z46, ownR 22 A62_1_0 c62_1_0 (Rep.sl byteR) p62.2.1, T_wal_Log.obj (g.2.2.1) b62_0 b17_0 y93, optR p97.1 (fun z => T_wal_Log.obj (g.2.2.2.1) b97_0 b17_0 z), ownR 22 A97_1_0 c97_1_0 (Rep.sl byteR) p97.2.1, diskO 63 68 5 (g.2.2.2.2) b17_0 p97.2.2.2]) (fun g => j7 g.1) ?_ ?_
                              · subst hj7
                                clear hM
                                rintro ⟨y109, F105, F106, F107, F108⟩ w110 hm110 hM
                                replace hm110 : Hp Z0 No w w110 [slR A0 c0 (Rep.sl byteR) x0, slR A1 c1 (intR .i64) x1, slR A3 c3 (intR .i64) x3, ownR 34 none 0 T_api_File.rep ([] : List T_api_File), ownR 22 A23_1_0 c23_1_0 (Rep.sl byteR) p23.2.1, T_wal_Log.obj F105 b23_0 b17_0 z46, ownR 22 A62_1_0 c62_1_0 (Rep.sl byteR) p62.2.1, T_wal_Log.obj F106 b62_0 b17_0 y93, optR p97.1 (fun z => T_wal_Log.obj F107 b97_0 b17_0 z), ownR 22 A97_1_0 c97_1_0 (Rep.sl byteR) p97.2.1, diskO 63 68 5 F108 b17_0 p97.2.2.2] := hm110
                                show Rn _ _ _ _ _ [(22, .slice A62_1_0 (p62.2.1).length c62_1_0), (27, .slice A97_1_0 (p97.2.1).length c97_1_0), (219, .bool (y109))] _
                                try dsimp only at hM
                                refine Rn.v rfl rfl rfl rfl (V.mv rfl) ?_
                                obtain ⟨j8, hj8, hM⟩ := jnE hM
                                refine Rn.joinR (r := r) (G := Bool × (Nat → Prop) × (Nat → Prop) × (Nat → Prop) × (Nat → Prop)) [21] (fun g => [(227, .bool ((g.1)))]) (fun g w' => Hp Z0 No w w' [slR A0 c0 (Rep.sl byteR) x0, slR A1 c1 (intR .i64) x1, slR A3 c3 (intR .i64) x3, ownR 34 none 0 T_api_File.rep ([] : List T_api_File), ownR 22 A23_1_0 c23_1_0 (Rep.sl byteR) p23.2.1, T_wal_Log.obj (g.2.1) b23_0 b17_0 z46, ownR 22 A62_1_0 c62_1_0 (Rep.sl byteR) p62.2.1, T_wal_Log.obj (g.2.2.1) b62_0 b17_0 y93, optR p97.1 (fun z => T_wal_Log.obj (g.2.2.2.1) b97_0 b17_0 z), diskO 63 68 5 (g.2.2.2.2) b17_0 p97.2.2.2]) (fun g => j8 g.1) ?_ ?_
                                · subst hj8
                                  clear hM
                                  rintro ⟨y115, F111, F112, F113, F114⟩ w116 hm116 hM
                                  replace hm116 : Hp Z0 No w w116 [slR A0 c0 (Rep.sl byteR) x0, slR A1 c1 (intR .i64) x1, slR A3 c3 (intR .i64) x3, ownR 34 none 0 T_api_File.rep ([] : List T_api_File), ownR 22 A23_1_0 c23_1_0 (Rep.sl byteR) p23.2.1, T_wal_Log.obj F111 b23_0 b17_0 z46, ownR 22 A62_1_0 c62_1_0 (Rep.sl byteR) p62.2.1, T_wal_Log.obj F112 b62_0 b17_0 y93, optR p97.1 (fun z => T_wal_Log.obj F113 b97_0 b17_0 z), diskO 63 68 5 F114 b17_0 p97.2.2.2] := hm116
                                  show Rn _ _ _ _ _ [(227, .bool (y115))] _
                                  try dsimp only at hM
                                  refine Rn.v rfl rfl rfl rfl (V.as rfl) (Rn.regEnd ?_)
                                  refine Rn.retG1 Try.func5 rfl (rvT rfl) ?_
                                  obtain rfl := someE hM
                                  exact ⟨rfl, hm116.pick [] rfl (by decide)⟩
                                intro hk8
                                clear hj8
                                refine Rn.part (t := 220) rfl (fun h117 => ?_) (fun h117 => ?_)
                                · replace hM := iteT h117 hM
                                  refine Rn.v rfl rfl rfl rfl (V.mv rfl) (Rn.v rfl rfl rfl rfl (V.mv rfl) (Rn.v rfl rfl rfl rfl (V.lenV Try.underlying24 rfl) ?_))
                                  have hm120 := hm110.freeze 9 rfl
                                  obtain ⟨z118, e118, hM⟩ := bindE hM
                                  refine Rn.cutH hm120 9 rfl e118 rfl rfl rfl Try.underlying24 Try.sizeOf22 rfl rfl rfl rfl rfl ?_
                                  intro A118 c118 hm118
                                  refine Rn.v rfl rfl rfl rfl (V.mv rfl) ?_
                                  obtain ⟨p122, e122, hM⟩ := bindE hM
                                  refine Rn.cl ck9 rfl rfl rfl rfl (m_limnographref04_Same_sim (Z0 := All) _ A118 c118 z118 A62_1_0 c62_1_0 p62.2.1 (slR_all (hm118.get 11 rfl)) (own_slR (hm118.get 6 rfl)) e122) ?_
                                  rintro _ w122 ⟨rfl, hq122⟩
                                  refine ⟨_, rfl, ?_⟩
                                  have hm123 := hm118.call0 hq122
                                  refine Rn.v rfl rfl rfl rfl (V.pkT rfl rfl) ?_
                                  exact hk8 (p122, F105, F106, F107, F108) _ _ (Sub.cons rfl (Sub.nil _)) (hm123.pick [0, 1, 2, 3, 4, 5, 6, 7, 8, 10] rfl (by decide)) hM
                                · replace hM := iteF (by rw [h117]; exact Bool.false_ne_true) hM
                                  refine Rn.no rfl rfl rfl rfl (Rn.no rfl rfl rfl rfl (Rn.no rfl rfl rfl rfl (Rn.no rfl rfl rfl rfl (Rn.no rfl rfl rfl rfl (Rn.no rfl rfl rfl rfl (Rn.v rfl rfl rfl rfl (V.pkF rfl rfl) ?_))))))
                                  exact hk8 (false, F105, F106, F107, F108) _ _ (Sub.cons rfl (Sub.nil _)) (hm110.pick [0, 1, 2, 3, 4, 5, 6, 7, 8, 10] rfl (by decide)) hM
                              intro hk7
                              clear hj7
                              refine Rn.partD (t := 213) rfl (fun h124 => ?_) (fun h124 => ?_)
                              · replace hM := iteT h124 hM
                                refine Rn.v rfl rfl rfl rfl (V.mv rfl) ?_
                                obtain ⟨z126, e126, hM⟩ := bindE hM
                                have hm127 : Hp Z0 No w w97 [slR A0 c0 (Rep.sl byteR) x0, slR A1 c1 (intR .i64) x1, slR A3 c3 (intR .i64) x3, ownR 34 none 0 T_api_File.rep ([] : List T_api_File), ownR 22 A23_1_0 c23_1_0 (Rep.sl byteR) p23.2.1, T_wal_Log.obj F91 b23_0 b17_0 z46, ownR 22 A62_1_0 c62_1_0 (Rep.sl byteR) p62.2.1, T_wal_Log.obj F93 b62_0 b17_0 y93, T_wal_Log.obj F97_0 b97_0 b17_0 z126, ownR 22 A97_1_0 c97_1_0 (Rep.sl byteR) p97.2.1, diskO 63 68 5 F97_p0 b17_0 p97.2.2.2] := hm102.optSome 8 rfl e126
                                refine Rn.say (t := 214) (.pointer (some ⟨b97_0, 0, none⟩)) rfl (by rw [e126]; rfl) ?_
                                obtain ⟨p125, e125, hM⟩ := bindE hM
                                refine Rn.cl ck13 rfl rfl rfl rfl (m_wal_Log_Len_sim (Z0 := All) _ F97_0 b97_0 z126 F97_p0 b17_0 p97.2.2.2 (fz_all (hm127.get 8 rfl)) (fz_all (hm127.get 10 rfl)) e125) ?_
                                rintro _ w125 ⟨rfl, hq125⟩
                                refine ⟨_, rfl, ?_⟩
                                have hm128 := hm127.call0 hq125
                                refine Rn.v rfl rfl rfl rfl (V.mv rfl) ?_
                                refine Rn.say (t := 216) (.pointer (some ⟨b62_0, 0, none⟩)) rfl (by rw [e88]; rfl) ?_
                                obtain ⟨p129, e129, hM⟩ := bindE hM
                                refine Rn.cl ck13 rfl rfl rfl rfl (m_wal_Log_Len_sim (Z0 := All) _ F93 b62_0 y93 F97_p0 b17_0 p97.2.2.2 (fz_all (hm128.get 7 rfl)) (fz_all (hm128.get 10 rfl)) e129) ?_
                                rintro _ w129 ⟨rfl, hq129⟩
                                refine ⟨_, rfl, ?_⟩
                                have hm130 := hm128.call0 hq129
                                refine Rn.v rfl rfl rfl rfl (V.eql rfl rfl) (Rn.v rfl rfl rfl rfl (V.pkT rfl rfl) ?_)
                                have hm131 : Hp Z0 No w w129 [slR A0 c0 (Rep.sl byteR) x0, slR A1 c1 (intR .i64) x1, slR A3 c3 (intR .i64) x3, ownR 34 none 0 T_api_File.rep ([] : List T_api_File), ownR 22 A23_1_0 c23_1_0 (Rep.sl byteR) p23.2.1, T_wal_Log.obj F91 b23_0 b17_0 z46, ownR 22 A62_1_0 c62_1_0 (Rep.sl byteR) p62.2.1, T_wal_Log.obj F93 b62_0 b17_0 y93, optR p97.1 (fun z => T_wal_Log.obj F97_0 b97_0 b17_0 z), ownR 22 A97_1_0 c97_1_0 (Rep.sl byteR) p97.2.1, diskO 63 68 5 F97_p0 b17_0 p97.2.2.2] := hm130.toOpt (R := (fun z => T_wal_Log.obj F97_0 b97_0 b17_0 z)) 8 rfl e126
                                exact hk7 ((decide (p125 = p129)), F91, F93, F97_0, F97_p0) _ _ (Sub.cons rfl (Sub.cons rfl (Sub.cons rfl (Sub.nil _)))) (hm131.pick [0, 1, 2, 3, 4, 5, 6, 7, 8, 9, 10] rfl (by decide)) hM
                              · replace hM := iteF h124 hM
                                refine Rn.no rfl rfl rfl rfl (Rn.no rfl rfl rfl rfl (Rn.no rfl rfl rfl rfl (Rn.no rfl rfl rfl rfl (Rn.no rfl rfl rfl rfl (Rn.v rfl rfl rfl rfl (V.pkF rfl rfl) ?_)))))
                                exact hk7 (false, F91, F93, F97_0, F97_p0) _ _ (Sub.cons rfl (Sub.cons rfl (Sub.cons rfl (Sub.nil _)))) (hm102.pick [0, 1, 2, 3, 4, 5, 6, 7, 8, 9, 10] rfl (by decide)) hM
                          intro hk6
                          clear hj6
                          refine Rn.partD (t := 188) rfl (fun h132 => ?_) (fun h132 => ?_)
                          · replace hM := iteT h132 hM
                            refine Rn.no rfl rfl rfl rfl (Rn.no rfl rfl rfl rfl (Rn.no rfl rfl rfl rfl (Rn.no rfl rfl rfl rfl (Rn.no rfl rfl rfl rfl (Rn.no rfl rfl rfl rfl (Rn.no rfl rfl rfl rfl (Rn.no rfl rfl rfl rfl (Rn.no rfl rfl rfl rfl (Rn.no rfl rfl rfl rfl (Rn.no rfl rfl rfl rfl (Rn.v rfl rfl rfl rfl (V.pkT rfl rfl) ?_)))))))))))
                            exact hk6 (true, z88, p62.2.2.2, F79, F80, F81) _ _ (Sub.cons rfl (Sub.cons rfl (Sub.cons rfl (Sub.cons rfl (Sub.nil _))))) (hm90.pick [0, 1, 2, 3, 4, 5, 7, 6, 8] rfl (by decide)) hM
                          · replace hM := iteF h132 hM
                            refine Rn.v rfl rfl rfl rfl (V.mv rfl) (Rn.bslS rfl rfl rfl Try.underlying22 el5 rfl rfl rfl rfl (by first | exact szs rfl | (simp [Value.cells]; done)) (by decide) ?_)
                            intro b133 w133 hb133 m133 e133
                            have hm134 := hm90.addLit (rep := byteR) (xs := ([(109 : UInt8), (111 : UInt8), (114 : UInt8), (101 : UInt8)] : List UInt8)) (vss := [[.int .u8 ((((109 : UInt8)).toNat : Nat) : Int)], [.int .u8 ((((111 : UInt8)).toNat : Nat) : Int)], [.int .u8 ((((114 : UInt8)).toNat : Nat) : Int)], [.int .u8 ((((101 : UInt8)).toNat : Nat) : Int)]]) hb133 e133 m133 rfl rfl rfl ((rels_cons (fun _ _ => ⟨rfl, trivial⟩) (rels_cons (fun _ _ => ⟨rfl, trivial⟩) (rels_cons (fun _ _ => ⟨rfl, trivial⟩) (rels_cons (fun _ _ => ⟨rfl, trivial⟩) rels0)))))
                            refine Rn.cvbH hm134 9 rfl rfl rfl rfl Try.underlying22 Try.underlying5 rfl ?_
                            intro w136 hm136
                            refine Rn.say (t := 189) (.pointer (some ⟨b62_0, 0, none⟩)) rfl (by rw [e88]; rfl) ?_
                            obtain ⟨p138, e138, hM⟩ := bindE hM
                            have hm139 := hm136.dup 9 rfl (fun _ h => h)
                            have hm141 : Hp Z0 No w w136 ([slR A0 c0 (Rep.sl byteR) x0, slR A1 c1 (intR .i64) x1, slR A3 c3 (intR .i64) x3, ownR 34 none 0 T_api_File.rep ([] : List T_api_File), ownR 22 A23_1_0 c23_1_0 (Rep.sl byteR) p23.2.1, T_wal_Log.obj F79 b23_0 b17_0 z46, ownR 22 A62_1_0 c62_1_0 (Rep.sl byteR) p62.2.1, slR (some ⟨b133, 0, none⟩) 4 byteR ([(109 : UInt8), (111 : UInt8), (114 : UInt8), (101 : UInt8)] : List UInt8)] ++ [T_wal_Log.obj F80 b62_0 b17_0 z88, diskO 63 68 5 F81 b17_0 p62.2.2.2, slR (some ⟨b133, 0, none⟩) 4 byteR ([(109 : UInt8), (111 : UInt8), (114 : UInt8), (101 : UInt8)] : List UInt8)]) := hm139.pick [0, 1, 2, 3, 4, 5, 7, 9, 6, 8, 10] rfl (by decide)
                            refine Rn.cl ck19 rfl rfl rfl rfl (m_wal_Log_Append_sim (Z0 := _) _ F80 b62_0 z88 (some ⟨b133, 0, none⟩) 4 ([(109 : UInt8), (111 : UInt8), (114 : UInt8), (101 : UInt8)] : List UInt8) F81 b17_0 p62.2.2.2 hm141.lend e138) ?_
                            rintro _ w138 ⟨F138_p0, F138_pD, rfl, hq138⟩
                            refine ⟨_, rfl, ?_⟩
                            have hm144 : Hp Z0 No w w138 [slR A0 c0 (Rep.sl byteR) x0, slR A1 c1 (intR .i64) x1, slR A3 c3 (intR .i64) x3, ownR 34 none 0 T_api_File.rep ([] : List T_api_File), ownR 22 A23_1_0 c23_1_0 (Rep.sl byteR) p23.2.1, T_wal_Log.obj F79 b23_0 b17_0 z46, ownR 22 A62_1_0 c62_1_0 (Rep.sl byteR) p62.2.1, slR (some ⟨b133, 0, none⟩) 4 byteR ([(109 : UInt8), (111 : UInt8), (114 : UInt8), (101 : UInt8)] : List UInt8), T_wal_Log.obj F138_p0 b62_0 b17_0 p138.2.1, diskO 63 68 5 F138_pD b17_0 p138.2.2] := hm141.callAZ hq138
                            refine Rn.v rfl rfl rfl rfl (V.neq rfl rfl) (Rn.v rfl rfl rfl rfl (V.mv rfl) ?_)
                            obtain ⟨j9, hj9, hM⟩ := jnE hM
                            refine Rn.joinR (r := r) (G := Bool × (Nat → Prop) × (Nat → Prop) × (Nat → Prop)) [16] (fun g => [(11, .pointer (optP b17_0 p17)), (21, .pointer (optP b62_0 p62.1)), (22, .slice A62_1_0 (p62.2.1).length c62_1_0), (188, .bool false), (199, .bool ((g.1)))]) (fun g w' => Hp Z0 No w w' [slR A0 c0 (Rep.sl byteR) x0, slR A1 c1 (intR .i64) x1, slR A3 c3 (intR .i64) x3, ownR 34 none 0 T_api_File.rep ([] : List T_api_File), ownR 22 A23_1_0 c23_1_0 (Rep.sl byteR) p23.2.1, T_wal_Log.obj (g.2.1) b23_0 b17_0 z46, ownR 22 A62_1_0 c62_1_0 (Rep.sl byteR) p62.2.1, slR (some ⟨b133, 0, none⟩) 4 byteR ([(109 : UInt8), (111 : UInt8), (114 : UInt8), (101 : UInt8)] : List UInt8), T_wal_Log.obj (g.2.2.1) b62_0 b17_0 p138.2.1, diskO 63 68 5 (g.2.2.2) b17_0 p138.2.2]) (fun g => j9 g.1) ?_ ?_
                            · subst hj9
                              clear hM
                              rintro ⟨y148, F145, F146, F147⟩ w149 hm149 hM
                              replace hm149 : Hp Z0 No w w149 [slR A0 c0 (Rep.sl byteR) x0, slR A1 c1 (intR .i64) x1, slR A3 c3 (intR .i64) x3, ownR 34 none 0 T_api_File.rep ([] : List T_api_File), ownR 22 A23_1_0 c23_1_0 (Rep.sl byteR) p23.2.1, T_wal_Log.obj F145 b23_0 b17_0 z46, ownR 22 A62_1_0 c62_1_0 (Rep.sl byteR) p62.2.1, slR (some ⟨b133, 0, none⟩) 4 byteR ([(109 : UInt8), (111 : UInt8), (114 : UInt8), (101 : UInt8)] : List UInt8), T_wal_Log.obj F146 b62_0 b17_0 p138.2.1, diskO 63 68 5 F147 b17_0 p138.2.2] := hm149
                              show Rn _ _ _ _ _ [(11, .pointer (optP b17_0 p17)), (21, .pointer (optP b62_0 p62.1)), (22, .slice A62_1_0 (p62.2.1).length c62_1_0), (188, .bool false), (199, .bool (y148))] _
                              try dsimp only at hM
                              refine Rn.v rfl rfl rfl rfl (V.pkF rfl rfl) ?_
                              exact hk6 (y148, p138.2.1, p138.2.2, F145, F146, F147) _ _ (Sub.cons rfl (Sub.cons rfl (Sub.cons rfl (Sub.cons rfl (Sub.nil _))))) (hm149.pick [0, 1, 2, 3, 4, 5, 6, 8, 9] rfl (by decide)) hM
                            intro hk9
                            clear hj9
                            refine Rn.partD (t := 194) rfl (fun h150 => ?_) (fun h150 => ?_)
                            · replace hM := iteT h150 hM
                              refine Rn.v rfl rfl rfl rfl (V.mv rfl) (Rn.v rfl rfl rfl rfl (V.addW rfl rfl) (Rn.v rfl rfl rfl rfl (V.mv rfl) (Rn.v rfl rfl rfl rfl (V.leq rfl rfl) (Rn.v rfl rfl rfl rfl (V.pkT rfl rfl) ?_))))
                              exact hk9 ((decide (W64 (p85.1 + 13) ≤ x4)), F79, F138_p0, F138_pD) _ _ (Sub.cons rfl (Sub.cons rfl (Sub.cons rfl (Sub.cons rfl (Sub.cons rfl (Sub.nil _)))))) (hm144.pick [0, 1, 2, 3, 4, 5, 6, 7, 8, 9] rfl (by decide)) hM
                            · replace hM := iteF h150 hM
                              refine Rn.no rfl rfl rfl rfl (Rn.no rfl rfl rfl rfl (Rn.no rfl rfl rfl rfl (Rn.no rfl rfl rfl rfl (Rn.v rfl rfl rfl rfl (V.pkF rfl rfl) ?_))))
                              exact hk9 (false, F79, F138_p0, F138_pD) _ _ (Sub.cons rfl (Sub.cons rfl (Sub.cons rfl (Sub.cons rfl (Sub.cons rfl (Sub.nil _)))))) (hm144.pick [0, 1, 2, 3, 4, 5, 6, 7, 8, 9] rfl (by decide)) hM
                      intro hk5
                      clear hj5
                      refine Rn.part (t := 171) rfl (fun h151 => ?_) (fun h151 => ?_)
                      · replace hM := iteT h151 hM
                        refine Rn.no rfl rfl rfl rfl (Rn.no rfl rfl rfl rfl (Rn.no rfl rfl rfl rfl (Rn.no rfl rfl rfl rfl (Rn.no rfl rfl rfl rfl (Rn.v rfl rfl rfl rfl (V.pkT rfl rfl) ?_)))))
                        exact hk5 (true, F74, F75, F76) _ _ (Sub.cons rfl (Sub.cons rfl (Sub.cons rfl (Sub.cons rfl (Sub.cons rfl (Sub.nil _)))))) (hm78.pick [0, 1, 2, 3, 4, 5, 6, 7, 8] rfl (by decide)) hM
                      · replace hM := iteF (by rw [h151]; exact Bool.false_ne_true) hM
                        refine Rn.v rfl rfl rfl rfl (V.mv rfl) ?_
                        obtain ⟨z153, e153, hM⟩ := bindE hM
                        have hm154 : Hp Z0 No w w78 [slR A0 c0 (Rep.sl byteR) x0, slR A1 c1 (intR .i64) x1, slR A3 c3 (intR .i64) x3, ownR 34 none 0 T_api_File.rep ([] : List T_api_File), ownR 22 A23_1_0 c23_1_0 (Rep.sl byteR) p23.2.1, T_wal_Log.obj F74 b23_0 b17_0 z46, T_wal_Log.obj F75 b62_0 b17_0 z153, ownR 22 A62_1_0 c62_1_0 (Rep.sl byteR) p62.2.1, diskO 63 68 5 F76 b17_0 p62.2.2.2] := hm78.optSome 6 rfl e153
                        refine Rn.say (t := 172) (.pointer (some ⟨b62_0, 0, none⟩)) rfl (by rw [e153]; rfl) ?_
                        obtain ⟨p152, e152, hM⟩ := bindE hM
                        refine Rn.cl ck13 rfl rfl rfl rfl (m_wal_Log_Len_sim (Z0 := All) _ F75 b62_0 z153 F76 b17_0 p62.2.2.2 (fz_all (hm154.get 6 rfl)) (fz_all (hm154.get 8 rfl)) e152) ?_
                        rintro _ w152 ⟨rfl, hq152⟩
                        refine ⟨_, rfl, ?_⟩
                        have hm155 := hm154.call0 hq152
                        refine Rn.v rfl rfl rfl rfl (V.mv rfl) (Rn.v rfl rfl rfl rfl (V.lenV Try.underlying24 rfl) (Rn.v rfl rfl rfl rfl (V.neq rfl rfl) (Rn.v rfl rfl rfl rfl (V.pkF rfl rfl) ?_)))
                        have hm156 : Hp Z0 No w w152 [slR A0 c0 (Rep.sl byteR) x0, slR A1 c1 (intR .i64) x1, slR A3 c3 (intR .i64) x3, ownR 34 none 0 T_api_File.rep ([] : List T_api_File), ownR 22 A23_1_0 c23_1_0 (Rep.sl byteR) p23.2.1, T_wal_Log.obj F74 b23_0 b17_0 z46, optR p62.1 (fun z => T_wal_Log.obj F75 b62_0 b17_0 z), ownR 22 A62_1_0 c62_1_0 (Rep.sl byteR) p62.2.1, diskO 63 68 5 F76 b17_0 p62.2.2.2] := hm155.toOpt (R := (fun z => T_wal_Log.obj F75 b62_0 b17_0 z)) 6 rfl e153
                        exact hk5 ((decide (p152 ≠ (p62.2.1.length : Int))), F74, F75, F76) _ _ (Sub.cons rfl (Sub.cons rfl (Sub.cons rfl (Sub.cons rfl (Sub.cons rfl (Sub.nil _)))))) (hm156.pick [0, 1, 2, 3, 4, 5, 6, 7, 8] rfl (by decide)) hM
                    intro hk4
                    clear hj4
                    refine Rn.partD (t := 162) rfl (fun h157 => ?_) (fun h157 => ?_)
                    · replace hM := iteT h157 hM
                      refine Rn.no rfl rfl rfl rfl (Rn.no rfl rfl rfl rfl (Rn.no rfl rfl rfl rfl (Rn.no rfl rfl rfl rfl (Rn.no rfl rfl rfl rfl (Rn.no rfl rfl rfl rfl (Rn.no rfl rfl rfl rfl (Rn.v rfl rfl rfl rfl (V.pkT rfl rfl) ?_)))))))
                      exact hk4 (true, F52, F62_0, F62_p0) _ _ (Sub.cons rfl (Sub.cons rfl (Sub.cons rfl (Sub.cons rfl (Sub.cons rfl (Sub.nil _)))))) (hm67.pick [0, 1, 2, 3, 4, 6, 7, 8, 9] rfl (by decide)) hM
                    · replace hM := iteF h157 hM
                      refine Rn.v rfl rfl rfl rfl (V.mv rfl) (Rn.v rfl rfl rfl rfl (V.mv rfl) (Rn.v rfl rfl rfl rfl (V.mv rfl) (Rn.v rfl rfl rfl rfl (V.lenV Try.underlying24 rfl) ?_)))
                      have hm160 := hm67.freeze 5 rfl
                      obtain ⟨z158, e158, hM⟩ := bindE hM
                      refine Rn.cutH hm160 5 rfl e158 rfl rfl rfl Try.underlying24 Try.sizeOf22 rfl rfl rfl rfl rfl ?_
                      intro A158 c158 hm158
                      obtain ⟨p162, e162, hM⟩ := bindE hM
                      refine Rn.cl ck9 rfl rfl rfl rfl (m_limnographref04_Same_sim (Z0 := All) _ A62_1_0 c62_1_0 p62.2.1 A158 c158 z158 (own_slR (hm158.get 8 rfl)) (slR_all (hm158.get 10 rfl)) e162) ?_
                      rintro _ w162 ⟨rfl, hq162⟩
                      refine ⟨_, rfl, ?_⟩
                      have hm163 := hm158.call0 hq162
                      refine Rn.v rfl rfl rfl rfl (V.notB rfl) (Rn.v rfl rfl rfl rfl (V.pkF rfl rfl) ?_)
                      exact hk4 ((!p162), F52, F62_0, F62_p0) _ _ (Sub.cons rfl (Sub.cons rfl (Sub.cons rfl (Sub.cons rfl (Sub.cons rfl (Sub.nil _)))))) (hm163.pick [0, 1, 2, 3, 4, 6, 7, 8, 9] rfl (by decide)) hM
                intro hk3
                clear hj3
                refine Rn.condS rfl (fun h164 => ?_) (fun h164 => ?_)
                · replace hM := iteT h164 hM
                  refine Rn.seq (Rn.reg (Rn.v rfl rfl rfl rfl (V.mv rfl) ?_))
                  refine Rn.say (t := 129) (.pointer (some ⟨b17_0, 0, none⟩)) rfl (by rw [e24]; rfl) ?_
                  obtain ⟨p165, e165, hM⟩ := bindE hM
                  have hm166 : Hp Z0 No w w50 ([slR A0 c0 (Rep.sl byteR) x0, slR A1 c1 (intR .i64) x1, slR A3 c3 (intR .i64) x3, ownR 34 none 0 T_api_File.rep ([] : List T_api_File), ownR 22 A23_1_0 c23_1_0 (Rep.sl byteR) p23.2.1, ownR 22 A39 c39 (Rep.sl byteR) y38, T_wal_Log.obj F43 b23_0 b17_0 z46] ++ [diskO 63 68 5 F42 b17_0 y42]) := hm51.pick [0, 1, 2, 3, 4, 5, 7, 6] rfl (by decide)
                  refine Rn.cl ck18 rfl rfl rfl rfl (m_disk_Disk_Crash_sim (Z0 := _) _ F42 b17_0 y42 0 hm166.lend e165) ?_
                  rintro _ w165 ⟨F165_p0, rfl, hq165⟩
                  refine ⟨_, rfl, ?_⟩
                  have hm168 : Hp Z0 No w w165 [slR A0 c0 (Rep.sl byteR) x0, slR A1 c1 (intR .i64) x1, slR A3 c3 (intR .i64) x3, ownR 34 none 0 T_api_File.rep ([] : List T_api_File), ownR 22 A23_1_0 c23_1_0 (Rep.sl byteR) p23.2.1, ownR 22 A39 c39 (Rep.sl byteR) y38, T_wal_Log.obj F43 b23_0 b17_0 z46, diskO 63 68 5 F165_p0 b17_0 p165] := hm166.callAZ hq165
                  refine Rn.regEnd (Rn.reg (Rn.v rfl rfl rfl rfl (V.mv rfl) ?_))
                  refine Rn.say (t := 131) (.pointer (some ⟨b23_0, 0, none⟩)) rfl (by rw [e46]; rfl) ?_
                  obtain ⟨p169, e169, hM⟩ := bindE hM
                  have hm170 : Hp Z0 No w w165 ([slR A0 c0 (Rep.sl byteR) x0, slR A1 c1 (intR .i64) x1, slR A3 c3 (intR .i64) x3, ownR 34 none 0 T_api_File.rep ([] : List T_api_File), ownR 22 A23_1_0 c23_1_0 (Rep.sl byteR) p23.2.1, ownR 22 A39 c39 (Rep.sl byteR) y38] ++ [T_wal_Log.obj F43 b23_0 b17_0 z46, diskO 63 68 5 F165_p0 b17_0 p165]) := hm168.pick [0, 1, 2, 3, 4, 5, 6, 7] rfl (by decide)
                  refine Rn.cl ck20 rfl rfl rfl rfl (m_wal_Log_Sync_sim (Z0 := _) _ F43 b23_0 z46 F165_p0 b17_0 p165 hm170.lend e169) ?_
                  rintro _ w169 ⟨F169_pD, F169_p0, rfl, hq169⟩
                  refine ⟨_, rfl, ?_⟩
                  have hm173 : Hp Z0 No w w169 [slR A0 c0 (Rep.sl byteR) x0, slR A1 c1 (intR .i64) x1, slR A3 c3 (intR .i64) x3, ownR 34 none 0 T_api_File.rep ([] : List T_api_File), ownR 22 A23_1_0 c23_1_0 (Rep.sl byteR) p23.2.1, ownR 22 A39 c39 (Rep.sl byteR) y38, diskO 63 68 5 F169_pD b17_0 p169.2, T_wal_Log.obj F169_p0 b23_0 b17_0 z46] := hm170.callAZ hq169
                  refine Rn.regEnd ?_
                  exact hk3 (p169.2, F169_p0, F169_pD) _ _ (Sub.cons rfl (Sub.cons rfl (Sub.cons rfl (Sub.cons rfl (Sub.cons rfl (Sub.nil _)))))) (hm173.pick [0, 1, 2, 3, 4, 5, 7, 6] rfl (by decide)) hM
                · replace hM := iteF (by rw [h164]; exact Bool.false_ne_true) hM
                  refine Rn.skip ?_
                  exact hk3 (y42, F43, F42) _ _ (Sub.cons rfl (Sub.cons rfl (Sub.cons rfl (Sub.cons rfl (Sub.cons rfl (Sub.nil _)))))) (hm51.pick [0, 1, 2, 3, 4, 5, 7, 6] rfl (by decide)) hM
            intro hk2
            clear hj2
            refine Rn.block ?_
            have hm181 := hm37.addNil 22 (Rep.sl byteR)
            refine Rn.loopF (G := (List (List UInt8)) × Int × Int × PD × (Option T_wal_Log) × Option Addr × Nat × (Nat → Prop) × (Nat → Prop)) (fun g => [(0, .slice A0 (x0).length c0), (1, .slice A1 (x1).length c1), (3, .slice A3 (x3).length c3), (4, .int .i64 (x4)), (11, .pointer (optP b17_0 p17)), (12, .pointer (optP b23_0 (g.2.2.2.2.1))), (15, .slice (g.2.2.2.2.2.1) ((g.1)).length (g.2.2.2.2.2.2.1)), (16, .int .i64 ((g.2.1))), (17, .int .i64 ((g.2.2.1)))]) (fun g w' => Hp Z0 No w w' [slR A0 c0 (Rep.sl byteR) x0, slR A1 c1 (intR .i64) x1, slR A3 c3 (intR .i64) x3, ownR 34 none 0 T_api_File.rep ([] : List T_api_File), ownR 22 A23_1_0 c23_1_0 (Rep.sl byteR) p23.2.1, ownR 22 (g.2.2.2.2.2.1) (g.2.2.2.2.2.2.1) (Rep.sl byteR) (g.1), diskO 63 68 5 (g.2.2.2.2.2.2.2.1) b17_0 (g.2.2.2.1), optR (g.2.2.2.2.1) (fun z => T_wal_Log.obj (g.2.2.2.2.2.2.2.2) b23_0 b17_0 z)]) (fun n g => m_limnographlaw19_WalKeeps_L1 x0 x1 j2 n g.1 g.2.1 g.2.2.1 g.2.2.2.1 g.2.2.2.2.1) fuel (([] : List (List UInt8)), 0, 0, p34, p23.1, none, 0, F34_p0, F23_0) (Sub.cons rfl (Sub.cons rfl (Sub.cons rfl (Sub.cons rfl (Sub.cons rfl (Sub.cons rfl (Sub.cons rfl (Sub.cons rfl (Sub.cons rfl (Sub.nil _)))))))))) (hm181.pick [0, 1, 2, 3, 5, 7, 6, 4] rfl (by decide)) hM (fun _ => rfl) ?_
            clear hM
            rintro m183 ⟨y174, y177, y178, y179, y180, A175, c175, F179, F180⟩ w183 hm183 hM hn183
            replace hm183 : Hp Z0 No w w183 [slR A0 c0 (Rep.sl byteR) x0, slR A1 c1 (intR .i64) x1, slR A3 c3 (intR .i64) x3, ownR 34 none 0 T_api_File.rep ([] : List T_api_File), ownR 22 A23_1_0 c23_1_0 (Rep.sl byteR) p23.2.1, ownR 22 A175 c175 (Rep.sl byteR) y174, diskO 63 68 5 F179 b17_0 y179, optR y180 (fun z => T_wal_Log.obj F180 b23_0 b17_0 z)] := hm183
            show Rn _ _ _ _ _ [(0, .slice A0 (x0).length c0), (1, .slice A1 (x1).length c1), (3, .slice A3 (x3).length c3), (4, .int .i64 (x4)), (11, .pointer (optP b17_0 p17)), (12, .pointer (optP b23_0 y180)), (15, .slice A175 (y174).length c175), (16, .int .i64 (y177)), (17, .int .i64 (y178))] _
            replace hM : m_limnographlaw19_WalKeeps_L1 x0 x1 j2 (m183 + 1) y174 y177 y178 y179 y180 = some r := hM
            rw [m_limnographlaw19_WalKeeps_L1] at hM
            refine Rn.seq (Rn.seq (Rn.reg (Rn.v rfl rfl rfl rfl (V.mv rfl) (Rn.v rfl rfl rfl rfl (V.mv rfl) (Rn.v rfl rfl rfl rfl (V.lenV Try.underlying24 rfl) (Rn.v rfl rfl rfl rfl (V.lss rfl rfl) (Rn.regEnd ?_)))))))
            refine Rn.condD rfl (fun h184 => ?_) (fun h184 => ?_)
            · replace hM := iteT h184 hM
              refine Rn.skip (Rn.seq (Rn.block (Rn.seq (Rn.reg (Rn.v rfl rfl rfl rfl (V.mv rfl) ?_)))))
              obtain ⟨z186, e186, hM⟩ := bindE hM
              have hm187 : Hp Z0 No w w183 [slR A0 c0 (Rep.sl byteR) x0, slR A1 c1 (intR .i64) x1, slR A3 c3 (intR .i64) x3, ownR 34 none 0 T_api_File.rep ([] : List T_api_File), ownR 22 A23_1_0 c23_1_0 (Rep.sl byteR) p23.2.1, ownR 22 A175 c175 (Rep.sl byteR) y174, diskO 63 68 5 F179 b17_0 y179, T_wal_Log.obj F180 b23_0 b17_0 z186] := hm183.optSome 7 rfl e186
              refine Rn.say (t := 73) (.pointer (some ⟨b23_0, 0, none⟩)) rfl (by rw [e186]; rfl) ?_
              obtain ⟨p185, e185, hM⟩ := bindE hM
              refine Rn.cl ck14 rfl rfl rfl rfl (m_wal_Log_Size_sim (Z0 := All) _ F180 b23_0 z186 F179 b17_0 y179 (fz_all (hm187.get 7 rfl)) (fz_all (hm187.get 6 rfl)) e185) ?_
              rintro _ w185 ⟨rfl, hq185⟩
              refine ⟨_, rfl, ?_⟩
              have hm188 := hm187.call0 hq185
              refine Rn.v rfl rfl rfl rfl (V.as rfl) (Rn.regEnd (Rn.seq (Rn.reg (Rn.v rfl rfl rfl rfl (V.mv rfl) (Rn.v rfl rfl rfl rfl (V.mv rfl) (Rn.v rfl rfl rfl rfl (V.mv rfl) ?_))))))
              obtain ⟨z189, e189, hM⟩ := bindE hM
              refine Rn.ixH hm188 0 rfl e189 rfl rfl rfl Try.underlying24 Try.sizeOf22 rfl rfl rfl rfl ?_
              rintro b189 o189 vs189 ⟨A190, c190, rfl, p190, q190, s190⟩ hm189
              have hm193 : Hp Z0 No w w185 [slR A0 c0 (Rep.sl byteR) x0, slR A1 c1 (intR .i64) x1, slR A3 c3 (intR .i64) x3, ownR 34 none 0 T_api_File.rep ([] : List T_api_File), ownR 22 A23_1_0 c23_1_0 (Rep.sl byteR) p23.2.1, ownR 22 A175 c175 (Rep.sl byteR) y174, diskO 63 68 5 F179 b17_0 y179, T_wal_Log.obj F180 b23_0 b17_0 z186, rdR b189 o189 [.slice A190 (z189).length c190], slR A190 c190 byteR z189] := Hp.know1 (M := [slR A190 c190 byteR z189]) hm189 (fun _ h => h) (knC (fun _ h => h) ⟨p190, q190, s190⟩ kn0)
              refine Rn.v rfl rfl rfl rfl (V.ldR0 Try.isAgg22 rfl (hm193.get 8 rfl).2 rfl) ?_
              refine Rn.say (t := 75) (.pointer (some ⟨b23_0, 0, none⟩)) rfl (by rw [e186]; rfl) ?_
              obtain ⟨p194, e194, hM⟩ := bindE hM
              have hm195 := hm193.dup 9 rfl (fun _ h => h)
              have hm197 : Hp Z0 No w w185 ([slR A0 c0 (Rep.sl byteR) x0, slR A1 c1 (intR .i64) x1, slR A3 c3 (intR .i64) x3, ownR 34 none 0 T_api_File.rep ([] : List T_api_File), ownR 22 A23_1_0 c23_1_0 (Rep.sl byteR) p23.2.1, ownR 22 A175 c175 (Rep.sl byteR) y174, rdR b189 o189 [.slice A190 (z189).length c190], slR A190 c190 byteR z189] ++ [T_wal_Log.obj F180 b23_0 b17_0 z186, diskO 63 68 5 F179 b17_0 y179, slR A190 c190 byteR z189]) := hm195.pick [0, 1, 2, 3, 4, 5, 8, 9, 7, 6, 10] rfl (by decide)
              refine Rn.cl ck19 rfl rfl rfl rfl (m_wal_Log_Append_sim (Z0 := _) _ F180 b23_0 z186 A190 c190 z189 F179 b17_0 y179 hm197.lend e194) ?_
              rintro _ w194 ⟨F194_p0, F194_pD, rfl, hq194⟩
              refine ⟨_, rfl, ?_⟩
              have hm200 : Hp Z0 No w w194 [slR A0 c0 (Rep.sl byteR) x0, slR A1 c1 (intR .i64) x1, slR A3 c3 (intR .i64) x3, ownR 34 none 0 T_api_File.rep ([] : List T_api_File), ownR 22 A23_1_0 c23_1_0 (Rep.sl byteR) p23.2.1, ownR 22 A175 c175 (Rep.sl byteR) y174, rdR b189 o189 [.slice A190 (z189).length c190], slR A190 c190 byteR z189, T_wal_Log.obj F194_p0 b23_0 b17_0 p194.2.1, diskO 63 68 5 F194_pD b17_0 p194.2.2] := hm197.callAZ hq194
              refine Rn.v rfl rfl rfl rfl (V.as rfl) (Rn.regEnd (Rn.seq (Rn.seq (Rn.reg (Rn.v rfl rfl rfl rfl (V.mv rfl) (Rn.v rfl rfl rfl rfl (V.eql rfl rfl) (Rn.regEnd ?_)))))))
              obtain ⟨j10, hj10, hM⟩ := jnE hM
              refine Rn.joinG (r := r) (G := (List (List UInt8)) × (Nat → Prop) × (Nat → Prop) × Option Addr × Nat) (fun g => [(0, .slice A0 (x0).length c0), (1, .slice A1 (x1).length c1), (3, .slice A3 (x3).length c3), (4, .int .i64 (x4)), (11, .pointer (optP b17_0 p17)), (12, .pointer (optP b23_0 y180)), (15, .slice (g.2.2.2.1) ((g.1)).length (g.2.2.2.2)), (16, .int .i64 (y177)), (17, .int .i64 (y178))]) (fun g w' => Hp Z0 No w w' [slR A0 c0 (Rep.sl byteR) x0, slR A1 c1 (intR .i64) x1, slR A3 c3 (intR .i64) x3, ownR 34 none 0 T_api_File.rep ([] : List T_api_File), ownR 22 A23_1_0 c23_1_0 (Rep.sl byteR) p23.2.1, rdR b189 o189 [.slice A190 (z189).length c190], slR A190 c190 byteR z189, T_wal_Log.obj (g.2.1) b23_0 b17_0 p194.2.1, diskO 63 68 5 (g.2.2.1) b17_0 p194.2.2, ownR 22 (g.2.2.2.1) (g.2.2.2.2) (Rep.sl byteR) (g.1)]) (fun g => j10 g.1) ?_ ?_
              · subst hj10
                clear hM
                rintro ⟨y203, F201, F202, A204, c204⟩ w206 hm206 hM
                replace hm206 : Hp Z0 No w w206 [slR A0 c0 (Rep.sl byteR) x0, slR A1 c1 (intR .i64) x1, slR A3 c3 (intR .i64) x3, ownR 34 none 0 T_api_File.rep ([] : List T_api_File), ownR 22 A23_1_0 c23_1_0 (Rep.sl byteR) p23.2.1, rdR b189 o189 [.slice A190 (z189).length c190], slR A190 c190 byteR z189, T_wal_Log.obj F201 b23_0 b17_0 p194.2.1, diskO 63 68 5 F202 b17_0 p194.2.2, ownR 22 A204 c204 (Rep.sl byteR) y203] := hm206
                show Rn _ _ _ _ _ [(0, .slice A0 (x0).length c0), (1, .slice A1 (x1).length c1), (3, .slice A3 (x3).length c3), (4, .int .i64 (x4)), (11, .pointer (optP b17_0 p17)), (12, .pointer (optP b23_0 y180)), (15, .slice A204 (y203).length c204), (16, .int .i64 (y177)), (17, .int .i64 (y178))] _
                try dsimp only at hM
                refine Rn.seq (Rn.reg (Rn.v rfl rfl rfl rfl (V.as rfl) (Rn.regEnd ?_)))
                obtain ⟨j11, hj11, hM⟩ := jnE hM
                refine Rn.joinG (r := r) (G := Int × PD × (Nat → Prop) × (Nat → Prop)) (fun g => [(0, .slice A0 (x0).length c0), (1, .slice A1 (x1).length c1), (3, .slice A3 (x3).length c3), (4, .int .i64 (x4)), (11, .pointer (optP b17_0 p17)), (12, .pointer (optP b23_0 y180)), (15, .slice A204 (y203).length c204), (16, .int .i64 ((g.1))), (17, .int .i64 (y178))]) (fun g w' => Hp Z0 No w w' [slR A0 c0 (Rep.sl byteR) x0, slR A1 c1 (intR .i64) x1, slR A3 c3 (intR .i64) x3, ownR 34 none 0 T_api_File.rep ([] : List T_api_File), ownR 22 A23_1_0 c23_1_0 (Rep.sl byteR) p23.2.1, rdR b189 o189 [.slice A190 (z189).length c190], slR A190 c190 byteR z189, T_wal_Log.obj (g.2.2.1) b23_0 b17_0 p194.2.1, ownR 22 A204 c204 (Rep.sl byteR) y203, diskO 63 68 5 (g.2.2.2) b17_0 (g.2.1)]) (fun g => j11 g.1 g.2.1) ?_ ?_
                · subst hj11
                  clear hM
                  rintro ⟨y208, y209, F207, F209⟩ w210 hm210 hM
                  replace hm210 : Hp Z0 No w w210 [slR A0 c0 (Rep.sl byteR) x0, slR A1 c1 (intR .i64) x1, slR A3 c3 (intR .i64) x3, ownR 34 none 0 T_api_File.rep ([] : List T_api_File), ownR 22 A23_1_0 c23_1_0 (Rep.sl byteR) p23.2.1, rdR b189 o189 [.slice A190 (z189).length c190], slR A190 c190 byteR z189, T_wal_Log.obj F207 b23_0 b17_0 p194.2.1, ownR 22 A204 c204 (Rep.sl byteR) y203, diskO 63 68 5 F209 b17_0 y209] := hm210
                  show Rn _ _ _ _ _ [(0, .slice A0 (x0).length c0), (1, .slice A1 (x1).length c1), (3, .slice A3 (x3).length c3), (4, .int .i64 (x4)), (11, .pointer (optP b17_0 p17)), (12, .pointer (optP b23_0 y180)), (15, .slice A204 (y203).length c204), (16, .int .i64 (y208)), (17, .int .i64 (y178))] _
                  try dsimp only at hM
                  refine Rn.inBlock (Rn.reg (Rn.v rfl rfl rfl rfl (V.mv rfl) (Rn.v rfl rfl rfl rfl (V.addW rfl rfl) (Rn.v rfl rfl rfl rfl (V.as rfl) (Rn.regEnd ?_)))))
                  refine Rn.say (t := 12) (.pointer (some ⟨b23_0, 0, none⟩)) rfl (by rw [e186]; rfl) ?_
                  have hm211 := hm210.toSome (R := (fun z => T_wal_Log.obj F207 b23_0 b17_0 z)) 7 rfl
                  have hm212 : Hp Z0 No w w210 [slR A0 c0 (Rep.sl byteR) x0, slR A1 c1 (intR .i64) x1, slR A3 c3 (intR .i64) x3, ownR 34 none 0 T_api_File.rep ([] : List T_api_File), ownR 22 A23_1_0 c23_1_0 (Rep.sl byteR) p23.2.1, rdR b189 o189 [.slice A190 (z189).length c190], slR A190 c190 byteR z189, optR (some p194.2.1) (fun z => T_wal_Log.obj F207 b23_0 b17_0 z), ownR 22 A204 c204 (Rep.sl byteR) y203, diskO 63 68 5 F209 b17_0 y209] := hm211
                  exact hn183 (y203, y208, (W64 (y178 + 1)), y209, (some p194.2.1), A204, c204, F209, F207) _ _ (Sub.cons rfl (Sub.cons rfl (Sub.cons rfl (Sub.cons rfl (Sub.cons rfl (Sub.cons rfl (Sub.cons rfl (Sub.cons rfl (Sub.cons rfl (Sub.nil _)))))))))) (hm212.pick [0, 1, 2, 3, 4, 8, 9, 7] rfl (by decide)) hM
                intro hk11
                clear hj11
                refine Rn.block ?_
                refine Rn.loopF (G := Int × Int × PD × (Nat → Prop) × (Nat → Prop)) (fun g => [(0, .slice A0 (x0).length c0), (1, .slice A1 (x1).length c1), (3, .slice A3 (x3).length c3), (4, .int .i64 (x4)), (11, .pointer (optP b17_0 p17)), (12, .pointer (optP b23_0 y180)), (15, .slice A204 (y203).length c204), (16, .int .i64 ((g.1))), (17, .int .i64 (y178)), (20, .int .i64 ((g.2.1)))]) (fun g w' => Hp Z0 No w w' [slR A0 c0 (Rep.sl byteR) x0, slR A1 c1 (intR .i64) x1, slR A3 c3 (intR .i64) x3, ownR 34 none 0 T_api_File.rep ([] : List T_api_File), ownR 22 A23_1_0 c23_1_0 (Rep.sl byteR) p23.2.1, rdR b189 o189 [.slice A190 (z189).length c190], slR A190 c190 byteR z189, T_wal_Log.obj (g.2.2.2.1) b23_0 b17_0 p194.2.1, ownR 22 A204 c204 (Rep.sl byteR) y203, diskO 63 68 5 (g.2.2.2.2) b17_0 (g.2.2.1)]) (fun n g => m_limnographlaw19_WalKeeps_L2 x1 y178 p194 y203 j11 n g.1 g.2.1 g.2.2.1) fuel (y177, 0, p194.2.2, F201, F202) (Sub.cons rfl (Sub.cons rfl (Sub.cons rfl (Sub.cons rfl (Sub.cons rfl (Sub.cons rfl (Sub.cons rfl (Sub.cons rfl (Sub.cons rfl (Sub.cons rfl (Sub.nil _))))))))))) (hm206.pick [0, 1, 2, 3, 4, 5, 6, 7, 9, 8] rfl (by decide)) hM (fun _ => rfl) ?_
                clear hM
                rintro m217 ⟨y214, y215, y216, F213, F216⟩ w217 hm217 hM hn217
                replace hm217 : Hp Z0 No w w217 [slR A0 c0 (Rep.sl byteR) x0, slR A1 c1 (intR .i64) x1, slR A3 c3 (intR .i64) x3, ownR 34 none 0 T_api_File.rep ([] : List T_api_File), ownR 22 A23_1_0 c23_1_0 (Rep.sl byteR) p23.2.1, rdR b189 o189 [.slice A190 (z189).length c190], slR A190 c190 byteR z189, T_wal_Log.obj F213 b23_0 b17_0 p194.2.1, ownR 22 A204 c204 (Rep.sl byteR) y203, diskO 63 68 5 F216 b17_0 y216] := hm217
                show Rn _ _ _ _ _ [(0, .slice A0 (x0).length c0), (1, .slice A1 (x1).length c1), (3, .slice A3 (x3).length c3), (4, .int .i64 (x4)), (11, .pointer (optP b17_0 p17)), (12, .pointer (optP b23_0 y180)), (15, .slice A204 (y203).length c204), (16, .int .i64 (y214)), (17, .int .i64 (y178)), (20, .int .i64 (y215))] _
                replace hM : m_limnographlaw19_WalKeeps_L2 x1 y178 p194 y203 j11 (m217 + 1) y214 y215 y216 = some r := hM
                rw [m_limnographlaw19_WalKeeps_L2] at hM
                refine Rn.seq (Rn.seq (Rn.reg (Rn.v rfl rfl rfl rfl (V.mv rfl) (Rn.v rfl rfl rfl rfl (V.mv rfl) (Rn.v rfl rfl rfl rfl (V.lenV Try.underlying48 rfl) (Rn.v rfl rfl rfl rfl (V.lss rfl rfl) (Rn.regEnd ?_)))))))
                refine Rn.condD rfl (fun h218 => ?_) (fun h218 => ?_)
                · replace hM := iteT h218 hM
                  refine Rn.skip (Rn.seq ?_)
                  obtain ⟨j12, hj12, hM⟩ := jnE hM
                  refine Rn.joinG (r := r) (G := Int × PD × (Nat → Prop) × (Nat → Prop)) (fun g => [(0, .slice A0 (x0).length c0), (1, .slice A1 (x1).length c1), (3, .slice A3 (x3).length c3), (4, .int .i64 (x4)), (11, .pointer (optP b17_0 p17)), (12, .pointer (optP b23_0 y180)), (15, .slice A204 (y203).length c204), (16, .int .i64 ((g.1))), (17, .int .i64 (y178)), (20, .int .i64 (y215))]) (fun g w' => Hp Z0 No w w' [slR A0 c0 (Rep.sl byteR) x0, slR A1 c1 (intR .i64) x1, slR A3 c3 (intR .i64) x3, ownR 34 none 0 T_api_File.rep ([] : List T_api_File), ownR 22 A23_1_0 c23_1_0 (Rep.sl byteR) p23.2.1, rdR b189 o189 [.slice A190 (z189).length c190], slR A190 c190 byteR z189, T_wal_Log.obj (g.2.2.1) b23_0 b17_0 p194.2.1, ownR 22 A204 c204 (Rep.sl byteR) y203, diskO 63 68 5 (g.2.2.2) b17_0 (g.2.1)]) (fun g => j12 g.1 g.2.1) ?_ ?_
                  · subst hj12
                    clear hM
                    rintro ⟨y220, y221, F219, F221⟩ w222 hm222 hM
                    replace hm222 : Hp Z0 No w w222 [slR A0 c0 (Rep.sl byteR) x0, slR A1 c1 (intR .i64) x1, slR A3 c3 (intR .i64) x3, ownR 34 none 0 T_api_File.rep ([] : List T_api_File), ownR 22 A23_1_0 c23_1_0 (Rep.sl byteR) p23.2.1, rdR b189 o189 [.slice A190 (z189).length c190], slR A190 c190 byteR z189, T_wal_Log.obj F219 b23_0 b17_0 p194.2.1, ownR 22 A204 c204 (Rep.sl byteR) y203, diskO 63 68 5 F221 b17_0 y221] := hm222
                    show Rn _ _ _ _ _ [(0, .slice A0 (x0).length c0), (1, .slice A1 (x1).length c1), (3, .slice A3 (x3).length c3), (4, .int .i64 (x4)), (11, .pointer (optP b17_0 p17)), (12, .pointer (optP b23_0 y180)), (15, .slice A204 (y203).length c204), (16, .int .i64 (y220)), (17, .int .i64 (y178)), (20, .int .i64 (y215))] _
                    try dsimp only at hM
                    refine Rn.reg (Rn.v rfl rfl rfl rfl (V.mv rfl) (Rn.v rfl rfl rfl rfl (V.addW rfl rfl) (Rn.v rfl rfl rfl rfl (V.as rfl) (Rn.regEnd ?_))))
                    exact hn217 (y220, (W64 (y215 + 1)), y221, F219, F221) _ _ (Sub.cons rfl (Sub.cons rfl (Sub.cons rfl (Sub.cons rfl (Sub.cons rfl (Sub.cons rfl (Sub.cons rfl (Sub.cons rfl (Sub.cons rfl (Sub.cons rfl (Sub.nil _))))))))))) (hm222.pick [0, 1, 2, 3, 4, 5, 6, 7, 8, 9] rfl (by decide)) hM
                  intro hk12
                  clear hj12
                  refine Rn.block (Rn.seq (Rn.reg (Rn.v rfl rfl rfl rfl (V.mv rfl) (Rn.v rfl rfl rfl rfl (V.mv rfl) ?_))))
                  obtain ⟨z223, e223, hM⟩ := bindE hM
                  refine Rn.ixH hm217 1 rfl e223 rfl rfl rfl Try.underlying48 Try.sizeOf3 rfl rfl rfl rfl ?_
                  rintro b223 o223 vs223 ⟨rfl, _⟩ hm223
                  refine Rn.v rfl rfl rfl rfl (V.ldR0 Try.isAgg3 rfl (hm223.get 10 rfl).2 rfl) (Rn.v rfl rfl rfl rfl (V.mv rfl) (Rn.v rfl rfl rfl rfl (V.eql rfl rfl) (Rn.v rfl rfl rfl rfl (V.mv rfl) ?_)))
                  obtain ⟨j13, hj13, hM⟩ := jnE hM
                  refine Rn.joinR (r := r) (G := Bool × PD × (Nat → Prop) × (Nat → Prop)) [] (fun g => [(0, .slice A0 (x0).length c0), (1, .slice A1 (x1).length c1), (3, .slice A3 (x3).length c3), (4, .int .i64 (x4)), (11, .pointer (optP b17_0 p17)), (12, .pointer (optP b23_0 y180)), (15, .slice A204 (y203).length c204), (16, .int .i64 (y214)), (17, .int .i64 (y178)), (20, .int .i64 (y215)), (118, .bool ((g.1)))]) (fun g w' => Hp Z0 No w w' [slR A0 c0 (Rep.sl byteR) x0, slR A1 c1 (intR .i64) x1, slR A3 c3 (intR .i64) x3, ownR 34 none 0 T_api_File.rep ([] : List T_api_File), ownR 22 A23_1_0 c23_1_0 (Rep.sl byteR) p23.2.1, rdR b189 o189 [.slice A190 (z189).length c190], slR A190 c190 byteR z189, T_wal_Log.obj (g.2.2.1) b23_0 b17_0 p194.2.1, ownR 22 A204 c204 (Rep.sl byteR) y203, rdR b223 o223 [.int .i64 (z223)], diskO 63 68 5 (g.2.2.2) b17_0 (g.2.1)]) (fun g => j13 g.1 g.2.1) ?_ ?_
                  · subst hj13
                    clear hM
                    rintro ⟨y226, y227, F225, F227⟩ w228 hm228 hM
                    replace hm228 : Hp Z0 No w w228 [slR A0 c0 (Rep.sl byteR) x0, slR A1 c1 (intR .i64) x1, slR A3 c3 (intR .i64) x3, ownR 34 none 0 T_api_File.rep ([] : List T_api_File), ownR 22 A23_1_0 c23_1_0 (Rep.sl byteR) p23.2.1, rdR b189 o189 [.slice A190 (z189).length c190], slR A190 c190 byteR z189, T_wal_Log.obj F225 b23_0 b17_0 p194.2.1, ownR 22 A204 c204 (Rep.sl byteR) y203, rdR b223 o223 [.int .i64 (z223)], diskO 63 68 5 F227 b17_0 y227] := hm228
                    show Rn _ _ _ _ _ [(0, .slice A0 (x0).length c0), (1, .slice A1 (x1).length c1), (3, .slice A3 (x3).length c3), (4, .int .i64 (x4)), (11, .pointer (optP b17_0 p17)), (12, .pointer (optP b23_0 y180)), (15, .slice A204 (y203).length c204), (16, .int .i64 (y214)), (17, .int .i64 (y178)), (20, .int .i64 (y215)), (118, .bool (y226))] _
                    try dsimp only at hM
                    refine Rn.regEnd ?_
                    refine Rn.condS rfl (fun h229 => ?_) (fun h229 => ?_)
                    · replace hM := iteT h229 hM
                      refine Rn.reg (Rn.v rfl rfl rfl rfl (V.mv rfl) (Rn.v rfl rfl rfl rfl (V.lenV Try.underlying24 rfl) (Rn.v rfl rfl rfl rfl (V.as rfl) (Rn.regEnd (Rn.inBlock ?_)))))
                      exact hk12 ((y203.length : Int), y227, F225, F227) _ _ (Sub.cons rfl (Sub.cons rfl (Sub.cons rfl (Sub.cons rfl (Sub.cons rfl (Sub.cons rfl (Sub.cons rfl (Sub.cons rfl (Sub.cons rfl (Sub.cons rfl (Sub.nil _))))))))))) (hm228.pick [0, 1, 2, 3, 4, 5, 6, 7, 8, 10] rfl (by decide)) hM
                    · replace hM := iteF (by rw [h229]; exact Bool.false_ne_true) hM
                      refine Rn.skip (Rn.inBlock ?_)
                      exact hk12 (y214, y227, F225, F227) _ _ (Sub.cons rfl (Sub.cons rfl (Sub.cons rfl (Sub.cons rfl (Sub.cons rfl (Sub.cons rfl (Sub.cons rfl (Sub.cons rfl (Sub.cons rfl (Sub.cons rfl (Sub.nil _))))))))))) (hm228.pick [0, 1, 2, 3, 4, 5, 6, 7, 8, 10] rfl (by decide)) hM
                  intro hk13
                  clear hj13
                  refine Rn.partD (t := 114) rfl (fun h230 => ?_) (fun h230 => ?_)
                  · replace hM := iteT h230 hM
                    refine Rn.v rfl rfl rfl rfl (V.mv rfl) ?_
                    refine Rn.say (t := 115) (.pointer (some ⟨b23_0, 0, none⟩)) rfl (by rw [e186]; rfl) ?_
                    obtain ⟨p231, e231, hM⟩ := bindE hM
                    have hm232 : Hp Z0 No w w217 ([slR A0 c0 (Rep.sl byteR) x0, slR A1 c1 (intR .i64) x1, slR A3 c3 (intR .i64) x3, ownR 34 none 0 T_api_File.rep ([] : List T_api_File), ownR 22 A23_1_0 c23_1_0 (Rep.sl byteR) p23.2.1, rdR b189 o189 [.slice A190 (z189).length c190], slR A190 c190 byteR z189, ownR 22 A204 c204 (Rep.sl byteR) y203, rdR b223 o223 [.int .i64 (z223)]] ++ [T_wal_Log.obj F213 b23_0 b17_0 p194.2.1, diskO 63 68 5 F216 b17_0 y216]) := hm223.pick [0, 1, 2, 3, 4, 5, 6, 8, 10, 7, 9] rfl (by decide)
                    refine Rn.cl ck20 rfl rfl rfl rfl (m_wal_Log_Sync_sim (Z0 := _) _ F213 b23_0 p194.2.1 F216 b17_0 y216 hm232.lend e231) ?_
                    rintro _ w231 ⟨F231_pD, F231_p0, rfl, hq231⟩
                    refine ⟨_, rfl, ?_⟩
                    have hm235 : Hp Z0 No w w231 [slR A0 c0 (Rep.sl byteR) x0, slR A1 c1 (intR .i64) x1, slR A3 c3 (intR .i64) x3, ownR 34 none 0 T_api_File.rep ([] : List T_api_File), ownR 22 A23_1_0 c23_1_0 (Rep.sl byteR) p23.2.1, rdR b189 o189 [.slice A190 (z189).length c190], slR A190 c190 byteR z189, ownR 22 A204 c204 (Rep.sl byteR) y203, rdR b223 o223 [.int .i64 (z223)], diskO 63 68 5 F231_pD b17_0 p231.2, T_wal_Log.obj F231_p0 b23_0 b17_0 p194.2.1] := hm232.callAZ hq231
                    refine Rn.v rfl rfl rfl rfl (V.eql rfl rfl) (Rn.v rfl rfl rfl rfl (V.pkT rfl rfl) ?_)
                    exact hk13 ((decide (p231.1 = 0)), p231.2, F231_p0, F231_pD) _ _ (Sub.cons rfl (Sub.cons rfl (Sub.cons rfl (Sub.cons rfl (Sub.cons rfl (Sub.cons rfl (Sub.cons rfl (Sub.cons rfl (Sub.cons rfl (Sub.cons rfl (Sub.cons rfl (Sub.nil _)))))))))))) (hm235.pick [0, 1, 2, 3, 4, 5, 6, 10, 7, 8, 9] rfl (by decide)) hM
                  · replace hM := iteF h230 hM
                    refine Rn.no rfl rfl rfl rfl (Rn.no rfl rfl rfl rfl (Rn.no rfl rfl rfl rfl (Rn.v rfl rfl rfl rfl (V.pkF rfl rfl) ?_)))
                    exact hk13 (false, y216, F213, F216) _ _ (Sub.cons rfl (Sub.cons rfl (Sub.cons rfl (Sub.cons rfl (Sub.cons rfl (Sub.cons rfl (Sub.cons rfl (Sub.cons rfl (Sub.cons rfl (Sub.cons rfl (Sub.cons rfl (Sub.nil _)))))))))))) (hm223.pick [0, 1, 2, 3, 4, 5, 6, 7, 8, 10, 9] rfl (by decide)) hM
                · replace hM := iteF h218 hM
                  refine Rn.exit rfl ?_
                  exact hk11 (y214, y216, F213, F216) _ _ (Sub.cons rfl (Sub.cons rfl (Sub.cons rfl (Sub.cons rfl (Sub.cons rfl (Sub.cons rfl (Sub.cons rfl (Sub.cons rfl (Sub.cons rfl (Sub.nil _)))))))))) (hm217.pick [0, 1, 2, 3, 4, 5, 6, 7, 8, 9] rfl (by decide)) hM
              intro hk10
              clear hj10
              refine Rn.condD rfl (fun h236 => ?_) (fun h236 => ?_)
              · replace hM := iteT h236 hM
                refine Rn.reg (Rn.v rfl rfl rfl rfl (V.mv rfl) (Rn.v rfl rfl rfl rfl (V.mv rfl) (Rn.v rfl rfl rfl rfl (V.mv rfl) ?_)))
                obtain ⟨z237, e237, hM⟩ := bindE hM
                refine Rn.ixH hm200 0 rfl e237 rfl rfl rfl Try.underlying24 Try.sizeOf22 rfl rfl rfl rfl ?_
                rintro b237 o237 vs237 ⟨A238, c238, rfl, p238, q238, s238⟩ hm237
                have hm241 : Hp Z0 No w w194 [slR A0 c0 (Rep.sl byteR) x0, slR A1 c1 (intR .i64) x1, slR A3 c3 (intR .i64) x3, ownR 34 none 0 T_api_File.rep ([] : List T_api_File), ownR 22 A23_1_0 c23_1_0 (Rep.sl byteR) p23.2.1, ownR 22 A175 c175 (Rep.sl byteR) y174, rdR b189 o189 [.slice A190 (z189).length c190], slR A190 c190 byteR z189, T_wal_Log.obj F194_p0 b23_0 b17_0 p194.2.1, diskO 63 68 5 F194_pD b17_0 p194.2.2, rdR b237 o237 [.slice A238 (z237).length c238], slR A238 c238 byteR z237] := Hp.know1 (M := [slR A238 c238 byteR z237]) hm237 (fun _ h => h) (knC (fun _ h => h) ⟨p238, q238, s238⟩ kn0)
                refine Rn.v rfl rfl rfl rfl (V.ldR0 Try.isAgg22 rfl (hm241.get 10 rfl).2 rfl) ?_
                obtain ⟨z242, e242, hM⟩ := bindE hM
                refine Rn.pushH (z := z237) (vs := [.slice A238 (z237).length c238]) hm241 5 rfl e242 rfl rfl rfl rfl Try.underlying24 el22 rfl rfl rfl rfl (fun _ => rfl) (⟨_, _, rfl, (hm241.get 11 rfl).1, (hm241.get 11 rfl).2.1, (hm241.get 11 rfl).2.2⟩) ?_
                intro A242 c242 w242 u242 hm242
                refine Rn.v rfl rfl rfl rfl (V.as rfl) (Rn.regEnd ?_)
                exact hk10 (z242, F194_p0, F194_pD, A242, c242) _ _ (Sub.cons rfl (Sub.cons rfl (Sub.cons rfl (Sub.cons rfl (Sub.cons rfl (Sub.cons rfl (Sub.cons rfl (Sub.cons rfl (Sub.cons rfl (Sub.nil _)))))))))) (hm242.pick [0, 1, 2, 3, 4, 6, 7, 8, 9, 5] rfl (by decide)) hM
              · replace hM := iteF h236 hM
                refine Rn.seq (Rn.reg (Rn.v rfl rfl rfl rfl (V.mv rfl) ?_))
                refine Rn.say (t := 90) (.pointer (some ⟨b23_0, 0, none⟩)) rfl (by rw [e186]; rfl) ?_
                obtain ⟨p244, e244, hM⟩ := bindE hM
                refine Rn.cl ck14 rfl rfl rfl rfl (m_wal_Log_Size_sim (Z0 := All) _ F194_p0 b23_0 p194.2.1 F194_pD b17_0 p194.2.2 (fz_all (hm200.get 8 rfl)) (fz_all (hm200.get 9 rfl)) e244) ?_
                rintro _ w244 ⟨rfl, hq244⟩
                refine ⟨_, rfl, ?_⟩
                have hm245 := hm200.call0 hq244
                refine Rn.v rfl rfl rfl rfl (V.mv rfl) (Rn.v rfl rfl rfl rfl (V.neq rfl rfl) (Rn.v rfl rfl rfl rfl (V.mv rfl) ?_))
                refine Rn.cutR [] [(0, .slice A0 (x0).length c0), (1, .slice A1 (x1).length c1), (3, .slice A3 (x3).length c3), (4, .int .i64 (x4)), (11, .pointer (optP b17_0 p17)), (12, .pointer (optP b23_0 y180)), (15, .slice A175 (y174).length c175), (16, .int .i64 (y177)), (17, .int .i64 (y178)), (101, .bool (decide ((p244 ≠ p185) ∨ ((p194.1 ≠ 12) ∧ (p194.1 ≠ 13)))))] (fun hk246 => ?_) ?_
                · refine Rn.partD (t := 94) rfl (fun h247 => ?_) (fun h247 => ?_)
                  · refine Rn.no rfl rfl rfl rfl (Rn.no rfl rfl rfl rfl (Rn.no rfl rfl rfl rfl (Rn.no rfl rfl rfl rfl (Rn.no rfl rfl rfl rfl (Rn.no rfl rfl rfl rfl (Rn.v rfl rfl rfl rfl (V.pkT rfl rfl) ?_))))))
                    refine hk246 _ ?_
                    exact Sub.cons rfl (Sub.cons rfl (Sub.cons rfl (Sub.cons rfl (Sub.cons rfl (Sub.cons rfl (Sub.cons rfl (Sub.cons rfl (Sub.cons rfl (Sub.cons (lkv _ rfl (by first | exact andT h247 | exact andF h247 | exact orT h247 | exact orF h247 | exact nandF h247 | exact nandT h247 | exact norT h247 | exact norF h247 | (simp [h247]; done) | grind)) (Sub.nil _))))))))))
                  · refine Rn.v rfl rfl rfl rfl (V.mv rfl) (Rn.v rfl rfl rfl rfl (V.neq rfl rfl) (Rn.v rfl rfl rfl rfl (V.mv rfl) ?_))
                    refine Rn.cutR [11] [(0, .slice A0 (x0).length c0), (1, .slice A1 (x1).length c1), (3, .slice A3 (x3).length c3), (4, .int .i64 (x4)), (11, .pointer (optP b17_0 p17)), (12, .pointer (optP b23_0 y180)), (15, .slice A175 (y174).length c175), (16, .int .i64 (y177)), (17, .int .i64 (y178)), (94, .bool false), (100, .bool (decide ((p194.1 ≠ 12) ∧ (p194.1 ≠ 13))))] (fun hk248 => ?_) ?_
                    · refine Rn.partD (t := 97) rfl (fun h249 => ?_) (fun h249 => ?_)
                      · refine Rn.v rfl rfl rfl rfl (V.mv rfl) (Rn.v rfl rfl rfl rfl (V.neq rfl rfl) (Rn.v rfl rfl rfl rfl (V.pkT rfl rfl) ?_))
                        refine hk248 _ ?_
                        exact Sub.cons rfl (Sub.cons rfl (Sub.cons rfl (Sub.cons rfl (Sub.cons rfl (Sub.cons rfl (Sub.cons rfl (Sub.cons rfl (Sub.cons rfl (Sub.cons rfl (Sub.cons (lkv _ rfl (by first | exact andT h249 | exact andF h249 | exact orT h249 | exact orF h249 | exact nandF h249 | exact nandT h249 | exact norT h249 | exact norF h249 | (simp [h249]; done) | grind)) (Sub.nil _)))))))))))
                      · refine Rn.no rfl rfl rfl rfl (Rn.no rfl rfl rfl rfl (Rn.v rfl rfl rfl rfl (V.pkF rfl rfl) ?_))
                        refine hk248 _ ?_
                        exact Sub.cons rfl (Sub.cons rfl (Sub.cons rfl (Sub.cons rfl (Sub.cons rfl (Sub.cons rfl (Sub.cons rfl (Sub.cons rfl (Sub.cons rfl (Sub.cons rfl (Sub.cons (lkv _ rfl (by first | exact andT h249 | exact andF h249 | exact orT h249 | exact orF h249 | exact nandF h249 | exact nandT h249 | exact norT h249 | exact norF h249 | (simp [h249]; done) | grind)) (Sub.nil _)))))))))))
                    refine Rn.v rfl rfl rfl rfl (V.pkF rfl rfl) ?_
                    refine hk246 _ ?_
                    exact Sub.cons rfl (Sub.cons rfl (Sub.cons rfl (Sub.cons rfl (Sub.cons rfl (Sub.cons rfl (Sub.cons rfl (Sub.cons rfl (Sub.cons rfl (Sub.cons (lkv _ rfl (by first | exact andT h247 | exact andF h247 | exact orT h247 | exact orF h247 | exact nandF h247 | exact nandT h247 | exact norT h247 | exact norF h247 | (simp [h247]; done) | grind)) (Sub.nil _))))))))))
                refine Rn.regEnd ?_
                refine Rn.condD rfl (fun h250 => ?_) (fun h250 => ?_)
                · replace hM := iteT h250 hM
                  refine Rn.seq (Rn.reg (Rn.v rfl rfl rfl rfl (V.as rfl) (Rn.regEnd ?_)))
                  refine Rn.retG1 Try.func5 rfl (rvT rfl) ?_
                  obtain rfl := someE hM
                  exact ⟨rfl, hm245.pick [] rfl (by decide)⟩
                · replace hM := iteF h250 hM
                  refine Rn.skip ?_
                  exact hk10 (y174, F194_p0, F194_pD, A175, c175) _ _ (Sub.cons rfl (Sub.cons rfl (Sub.cons rfl (Sub.cons rfl (Sub.cons rfl (Sub.cons rfl (Sub.cons rfl (Sub.cons rfl (Sub.cons rfl (Sub.nil _)))))))))) (hm245.pick [0, 1, 2, 3, 4, 6, 7, 8, 9, 5] rfl (by decide)) hM
            · replace hM := iteF h184 hM
              refine Rn.exit rfl ?_
              exact hk2 (y174, y177, y179, y180, A175, c175, F179, F180) _ _ (Sub.cons rfl (Sub.cons rfl (Sub.cons rfl (Sub.cons rfl (Sub.cons rfl (Sub.cons rfl (Sub.nil _))))))) (hm183.pick [0, 1, 2, 3, 4, 5, 6, 7] rfl (by decide)) hM
    intro hk1
    clear hj1
    refine Rn.partD (t := 43) rfl (fun h251 => ?_) (fun h251 => ?_)
    · replace hM := iteT h251 hM
      refine Rn.no rfl rfl rfl rfl (Rn.no rfl rfl rfl rfl (Rn.no rfl rfl rfl rfl (Rn.v rfl rfl rfl rfl (V.pkT rfl rfl) ?_)))
      exact hk1 true _ _ (Sub.cons rfl (Sub.cons rfl (Sub.cons rfl (Sub.cons rfl (Sub.cons rfl (Sub.cons rfl (Sub.nil _))))))) (hm8.pick [0, 1, 2] rfl (by decide)) hM
    · replace hM := iteF h251 hM
      refine Rn.v rfl rfl rfl rfl (V.mv rfl) ?_
      obtain ⟨p252, e252, hM⟩ := bindE hM
      refine Rn.cl ck17 rfl rfl rfl rfl (m_limnographref04_Bulk_sim (Z0 := All) _ A0 c0 x0 8000 (slR_all (hm8.get 0 rfl)) e252) ?_
      rintro _ w252 ⟨rfl, hq252⟩
      refine ⟨_, rfl, ?_⟩
      have hm253 := hm8.call0 hq252
      refine Rn.v rfl rfl rfl rfl (V.gtr rfl rfl) (Rn.v rfl rfl rfl rfl (V.pkF rfl rfl) ?_)
      exact hk1 (decide (p252 > 8000)) _ _ (Sub.cons rfl (Sub.cons rfl (Sub.cons rfl (Sub.cons rfl (Sub.cons rfl (Sub.cons rfl (Sub.nil _))))))) (hm253.pick [0, 1, 2] rfl (by decide)) hM

end Go.Proofs.Ytopknmmckcijkaa
