/-
  The calls of functions of the program answer as their plain forms say, part 2. Printed by a program.
-/
import Derived.Test.YtpcpfjpcfcbopaaDoorRows
import Derived.Test.YtpcpfjpcfcbopaaDoorSA1
import Derived.Test.YtpcpfjpcfcbopaaDoorWv
import Derived.Test.YtpcpfjpcfcbopaaDoorV2A
set_option maxRecDepth 20000
set_option maxHeartbeats 4000000
set_option linter.unusedVariables false
set_option linter.unusedSimpArgs false
namespace Go.Proofs.YtpcpfjpcfcbopaaDoor
open Go Go.RowKit Go.Wk
theorem m_glob_Compile_sim {Z0 : Nat → Prop} {w : World} {x0 : (List UInt8)} {r : ((Option T_glob_Glob) × Int × Int)} (hM : m_glob_Compile x0 = some r) (f0 : (rdR 0 0 gl0).H Z0 w) :
    Calls Tryd.prog 23 #[Str (x0)] w fun x w' => ∃ F_0 b_0, x = .returned (.tuple #[.pointer (optP b_0 r.1), iv r.2.1, iv r.2.2]) ∧ Hp Z0 No w w' [optR r.1 (fun z => T_glob_Glob.obj F_0 b_0 z)] := by
 have hm0 := Hp.nil Z0 No w
 have hc0 := Calm.nil
 have hm2 := hm0.know (rdR 0 0 gl0) (fun _ h => h) (hm0.in0 hc0 f0)
 replace hc0 := hc0.snoc (r := rdR 0 0 gl0) (fun _ h => h)
 refine Rn.enter Tryd.func23 rfl rfl (Nat.le_of_ble_eq_true rfl) ?_
 refine gg 10 rfl (Rn.q rfl (V.lenS Tryd.underlying9 rfl) (gg 2 rfl ?_))
 refine askD hM (Rn.condD rfl) (fun h3 hM => ?_) (fun h3 hM => ?_)
 ·refine gg 6 rfl ?_
  have hm5 := hm2.addNone (fun z => T_glob_Glob.obj No 0 z)
  refine Rn.retG3 Tryd.func23 rfl (rvT rfl) (rvT rfl) (rvT rfl) ?_
  obtain rfl := someE hM
  exact ⟨No, 0, rfl, hm5.pick [1] rfl (by decide)⟩
 ·refine gg 4 rfl (Rn.q rfl (V.bldS (cs := [_, _]) st83 rfl rfl) (Rn.box rfl rfl rfl rfl rfl ?_))
  intro b6 w6 hb6 m6 e6
  have hm8 := (hm2.addBox hb6 e6 m6).nf [_, boxR _ _ [_, _]] rfl
  refine gg 7 rfl ?_
  have hm9 := hm8.addNil 87 T_glob_piece.rep
  have hm12 := (hm9.cut [0] [1, 2] rfl (by decide)).nf ([_] ++ [_, _]) rfl
  obtain ⟨F11, hm11⟩ := hm12.fold (T_glob_Glob.sh b6 ({ text := x0, pieces := ([] : List T_glob_piece) } : T_glob_Glob)) ⟨none, 0, rfl⟩
  obtain ⟨j1, hj1, hM⟩ := jnE hM
  refine Rn.joinG (r := r) (G := T_glob_Glob × (Nat → Prop)) (fun g => [(2, pt b6 0)]) (fun g w' => Hp Z0 No w w' [rdR 0 0 gl0, T_glob_Glob.obj (g.2) b6 (g.1)]) (fun g => j1 g.1) ?_ ?_
  ·subst hj1
   clear hM
   rintro ⟨y13, F13⟩ w14 hm14 hM
   try dsimp only at hM
   refine gg 7 rfl ?_
   have hm15 := hm14.toSome (R := (fun z => T_glob_Glob.obj F13 b6 z)) 1 rfl
   refine Rn.retG3 Tryd.func23 rfl (rvT rfl) (rvT rfl) (rvT rfl) ?_
   obtain rfl := someE hM
   exact ⟨F13, b6, rfl, hm15.pick [1] rfl (by decide)⟩
  intro hk1
  clear hj1
  refine gg 1 rfl ?_
  refine Rn.loopF (G := Int × T_glob_Glob × (Nat → Prop)) (fun g => [(0, Str (x0)), (2, pt b6 0), (5, iv (g.1))]) (fun g w' => Hp Z0 No w w' [rdR 0 0 gl0, T_glob_Glob.obj (g.2.2) b6 (g.2.1)]) (fun n g => m_glob_Compile_L1 x0 j1 n g.1 g.2.1) fuel (0, ({ text := x0, pieces := ([] : List T_glob_piece) } : T_glob_Glob), F11) (sb ⟨rfl, rfl, rfl, trivial⟩) (hm11.pick [0, 1] rfl (by decide)) hM (fun _ => rfl) ?_
  clear hM
  rintro m18 ⟨y16, y17, F17⟩ w18 hm18 hM hn18
  replace hM : m_glob_Compile_L1 x0 j1 (m18 + 1) y16 y17 = some r := hM
  rw [m_glob_Compile_L1] at hM
  refine gg 5 rfl (Rn.q rfl (V.lenS Tryd.underlying9 rfl) (gg 2 rfl ?_))
  refine askD hM (Rn.condD rfl) (fun h19 hM => ?_) (fun h19 hM => ?_)
  ·refine gg 6 rfl ?_
   obtain ⟨p20, e20, hM⟩ := bindE hM
   refine Rn.cl ck33 rfl rfl rfl rfl (m_glob_next_sim (Z0 := All) e20 (rdR_all (hm18.get 0 rfl)) :) ?_
   rintro _ w20 ⟨rfl, hq20⟩
   refine ⟨_, rfl, ?_⟩
   have hm21 := hm18.call0 hq20
   refine gg 4 rfl (Rn.alloc rfl rfl rfl Tryd.zeroValue87 rfl ?_)
   intro b22 w22 hb22 m22 e22
   have hm24 := (hm21.addBox hb22 e22 m22).nf [_, _, boxR _ _ [_, _, _, _, _, _, _]] rfl
   refine Rn.alloc rfl rfl rfl Tryd.zeroValue89 rfl ?_
   intro b25 w25 hb25 m25 e25
   have hm27 := (hm24.addBox hb25 e25 m25).nf [_, _, _, boxR _ _ [_, _]] rfl
   refine Rn.st rfl rfl Tryd.sizeOf87 rfl rfl rfl rfl (by first | exact ones rfl | (simp [Value.oneCell']; done)) (hm27.get 2 rfl) (by first | exact Nat.le_of_ble_eq_true rfl | (simp; done)) ?_
   intro w28 m28 x28
   have hm29 := (hm27.st 2 rfl x28 m28).nf [_, _, boxR _ _ [_, _, _, _, _, _, _], _] rfl
   refine gg 1 rfl (Rn.st rfl rfl Tryd.sizeOf89 rfl rfl rfl rfl (by first | exact ones rfl | (simp [Value.oneCell']; done)) (hm29.get 3 rfl) (by first | exact Nat.le_of_ble_eq_true rfl | (simp; done)) ?_)
   intro w30 m30 x30
   have hm31 := (hm29.st 3 rfl x30 m30).nf [_, _, _, boxR _ _ [_, _]] rfl
   refine gg 4 rfl (Rn.q rfl (V.ldBA [_, _] Tryd.isAgg89 Tryd.sizeOf89 rfl (hm31.get 3 rfl) rfl rfl) (Rn.q rfl (V.ldA (vs := [iv 0, iv 0]) Tryd.isAgg89 Tryd.sizeOf89 rfl (hm31.get 0 rfl).2 rfl) (Rn.q rfl (V.neqT Tryd.eqGuardType89 rfl rfl (eq89 _ ({ at_ := 0, e := 0 } : T_glob_fault))) (gg 1 rfl ?_))))
   refine askD hM (Rn.condD rfl) (fun h32 hM => ?_) (fun h32 hM => ?_)
   ·refine gg 1 rfl ?_
    refine Rn.drawP rfl hm31 ?_
    intro w33 hm33
    refine dd [0] (by kernel_rfl) rfl rfl ?_
    refine RH.takeP 1 (by kernel_rfl) rfl rfl rfl rfl (V.ldB Tryd.isAgg3 rfl (hm33.get 3 rfl) rfl) ?_
    refine dd [2] (by kernel_rfl) rfl rfl ?_
    refine RH.takeP 3 (by kernel_rfl) rfl rfl rfl rfl (V.ldB Tryd.isAgg33 rfl (hm33.get 3 rfl) rfl) ?_
    refine dd [4, 5, 6] (by kernel_rfl) rfl rfl ?_
    refine RH.doneP (by kernel_rfl) ?_
    have hm35 := hm33.addNone (fun z => T_glob_Glob.obj No 0 z)
    refine Rn.retG3 Tryd.func23 rfl (rvT rfl) (rvT rfl) (rvT rfl) ?_
    obtain rfl := someE hM
    exact ⟨No, 0, rfl, hm35.pick [4] rfl (by decide)⟩
   ·refine gg 2 rfl ?_
    obtain ⟨j2, hj2, hM⟩ := jnE hM
    refine Rn.joinG (r := r) (G := T_glob_Glob × (Nat → Prop)) (fun g => [(0, Str (x0)), (2, pt b6 0), (5, iv y16), (7, iv p20.2.1)]) (fun g w' => Hp Z0 No w w' [rdR 0 0 gl0, boxR b22 87 [iv p20.1.kind, u64v p20.1.set.a0, u64v p20.1.set.a1, u64v p20.1.set.a2, u64v p20.1.set.a3, .bool (p20.1.plain), u8v p20.1.c], boxR b25 89 [iv p20.2.2.at_, iv p20.2.2.e], T_glob_Glob.obj (g.2) b6 (g.1)]) (fun g => j2 g.1) ?_ ?_
    ·subst hj2
     clear hM
     rintro ⟨y36, F36⟩ w37 hm37 hM
     try dsimp only at hM
     refine gg 7 rfl ?_
     exact hn18 ((W64 (y16 + p20.2.1)), y36, F36) _ _ (sb ⟨rfl, rfl, rfl, trivial⟩) (hm37.pick [0, 3] rfl (by decide)) hM
    intro hk2
    clear hj2
    have hm40 := (hm31.cutF [2, 3] [1] [0] rfl (by decide) ⟨fun _ h => h, trivial⟩).nf ([_, _, _] ++ [_, _]) rfl
    refine Rn.drawF rfl hm40 ?_
    intro w41 hmo41 hm41
    refine dd [0, 1, 2, 3] (by kernel_rfl) rfl rfl ?_
    obtain ⟨_, ⟨A42_0, c42_0, rfl⟩, hm42⟩ := hm41.unf 0 rfl
    replace hm42 := hm42.nf [_, _, _] rfl
    refine RH.take 5 (by kernel_rfl) rfl rfl rfl rfl (fun w' hDr => V.ldBA [_, _, _, _, _, _, _] Tryd.isAgg87 Tryd.sizeOf87 rfl ((hmo41.awayK hDr).get 0 rfl) rfl rfl) ?_
    obtain ⟨z47, e47, hM⟩ := bindE hM
    refine RH.both 4 6 (by kernel_rfl) ?_ ?_
    ·refine RB.here fun hS4 => RB.one 4 rfl rfl rfl rfl (V.ldB Tryd.isAgg81 rfl (hm42.get 1 rfl) rfl) hS4 ?_
     refine RH.bslS 6 (by kernel_rfl) rfl rfl rfl Tryd.underlying81 el87 rfl rfl rfl rfl (by first | exact szs rfl | (simp [Value.cells]; done)) (by decide) ?_
     intro b53 w53 hb53 m53 e53
     have hm54 := hm42.addLit (rep := T_glob_piece.rep) (xs := ([p20.1] : List T_glob_piece)) (vss := [[iv p20.1.kind, u64v p20.1.set.a0, u64v p20.1.set.a1, u64v p20.1.set.a2, u64v p20.1.set.a3, .bool (p20.1.plain), u8v p20.1.c]]) hb53 e53 m53 rfl rfl rfl ((rels_cons (fun _ _ => ⟨_, _, rfl, ⟨rfl, trivial⟩, ⟨_, _, rfl, ⟨_, _, rfl, ⟨rfl, trivial⟩, ⟨_, _, rfl, ⟨rfl, trivial⟩, ⟨_, _, rfl, ⟨rfl, trivial⟩, ⟨rfl, trivial⟩⟩⟩⟩, ⟨_, _, rfl, ⟨rfl, trivial⟩, ⟨rfl, trivial⟩⟩⟩⟩) rels0))
     refine ⟨hm54.fr, ?_⟩
     have e56 := e47
     refine RH.appH 7 (by kernel_rfl) hm54 2 rfl e56 rfl rfl rfl Tryd.underlying81 el87 rfl rfl rfl rfl (hm54.srcO 3 rfl) ?_
     intro A56 c56 w56 hm56
     refine ⟨hm56.fr, ?_⟩
     refine dd [8, 9] (by kernel_rfl) rfl rfl ?_
     refine RH.st 10 (by kernel_rfl) rfl rfl Tryd.sizeOf81 rfl rfl rfl rfl (by first | exact ones rfl | (simp [Value.oneCell']; done)) (hm56.get 1 rfl) (by first | exact Nat.le_of_ble_eq_true rfl | (simp; done)) ?_
     intro w58 m58 x58
     have hm59 := (hm56.st 1 rfl x58 m58).nf [_, boxR _ _ [_, _], _, _] rfl
     refine ⟨hm59.fr, ?_⟩
     refine RH.doneP (by kernel_rfl) ?_
     have hm60 := hmo41.callAZ hm59
     have hm61 := (hm60.pick [0, 1, 3, 4, 5, 6] rfl (by decide)).nf [_, _, _, _, _, _] rfl
     have hm63 := (hm61.cut [0, 1, 2, 5] [3, 4] rfl (by decide)).nf ([_, _, _, _] ++ [_, _]) rfl
     obtain ⟨F62, hm62⟩ := hm63.fold (T_glob_Glob.sh b6 ({ text := y17.text, pieces := z47 } : T_glob_Glob)) ⟨A56, c56, rfl⟩
     exact hk2 (({ text := y17.text, pieces := z47 } : T_glob_Glob), F62) _ _ (sb ⟨rfl, rfl, rfl, rfl, trivial⟩) (hm62.pick [2, 0, 1, 4] rfl (by decide)) hM
    ·refine RB.bslS 6 rfl rfl rfl Tryd.underlying81 el87 rfl rfl rfl rfl (by first | exact szs rfl | (simp [Value.cells]; done)) (by decide) ?_
     intro b64 w64 hb64 m64 e64
     have hm65 := hm42.addLit (rep := T_glob_piece.rep) (xs := ([p20.1] : List T_glob_piece)) (vss := [[iv p20.1.kind, u64v p20.1.set.a0, u64v p20.1.set.a1, u64v p20.1.set.a2, u64v p20.1.set.a3, .bool (p20.1.plain), u8v p20.1.c]]) hb64 e64 m64 rfl rfl rfl ((rels_cons (fun _ _ => ⟨_, _, rfl, ⟨rfl, trivial⟩, ⟨_, _, rfl, ⟨_, _, rfl, ⟨rfl, trivial⟩, ⟨_, _, rfl, ⟨rfl, trivial⟩, ⟨_, _, rfl, ⟨rfl, trivial⟩, ⟨rfl, trivial⟩⟩⟩⟩, ⟨_, _, rfl, ⟨rfl, trivial⟩, ⟨rfl, trivial⟩⟩⟩⟩) rels0))
     refine ⟨hm65.fr, ?_⟩
     refine RH.here fun hS4 => RH.one 4 (by kernel_rfl) rfl rfl rfl rfl (V.ldB Tryd.isAgg81 rfl (hm65.get 1 rfl) rfl) hS4 ?_
     have e67 := e47
     refine RH.appH 7 (by kernel_rfl) hm65 2 rfl e67 rfl rfl rfl Tryd.underlying81 el87 rfl rfl rfl rfl (hm65.srcO 3 rfl) ?_
     intro A67 c67 w67 hm67
     refine ⟨hm67.fr, ?_⟩
     refine dd [8, 9] (by kernel_rfl) rfl rfl ?_
     refine RH.st 10 (by kernel_rfl) rfl rfl Tryd.sizeOf81 rfl rfl rfl rfl (by first | exact ones rfl | (simp [Value.oneCell']; done)) (hm67.get 1 rfl) (by first | exact Nat.le_of_ble_eq_true rfl | (simp; done)) ?_
     intro w69 m69 x69
     have hm70 := (hm67.st 1 rfl x69 m69).nf [_, boxR _ _ [_, _], _, _] rfl
     refine ⟨hm70.fr, ?_⟩
     refine RH.doneP (by kernel_rfl) ?_
     have hm71 := hmo41.callAZ hm70
     have hm72 := (hm71.pick [0, 1, 3, 4, 5, 6] rfl (by decide)).nf [_, _, _, _, _, _] rfl
     have hm74 := (hm72.cut [0, 1, 2, 5] [3, 4] rfl (by decide)).nf ([_, _, _, _] ++ [_, _]) rfl
     obtain ⟨F73, hm73⟩ := hm74.fold (T_glob_Glob.sh b6 ({ text := y17.text, pieces := z47 } : T_glob_Glob)) ⟨A67, c67, rfl⟩
     exact hk2 (({ text := y17.text, pieces := z47 } : T_glob_Glob), F73) _ _ (sb ⟨rfl, rfl, rfl, rfl, trivial⟩) (hm73.pick [2, 0, 1, 4] rfl (by decide)) hM
  ·refine gg 1 rfl ?_
   exact hk1 (y17, F17) _ _ (sb ⟨rfl, trivial⟩) (hm18.pick [0, 1] rfl (by decide)) hM

theorem m_index_Index_all_sim {Z0 : Nat → Prop} {w : World} {F0 : Nat → Prop} {b0 : Nat} {x0 : T_index_Index} {r : (List Int)} (hM : m_index_Index_all x0 = some r) (f0 : (fzR (T_index_Index.obj F0 b0 x0)).H Z0 w) :
    Calls Tryd.prog 25 #[pt b0 0] w fun x w' => ∃ A_0_0 c_0_0, x = .returned (.slice A_0_0 (r).length c_0_0) ∧ Hp Z0 No w w' [ownR 3 A_0_0 c_0_0 (intR .i64) r] := by
 have hm0 := Hp.nil Z0 No w
 have hc0 := Calm.nil
 have hm2 := hm0.know (fzR (T_index_Index.obj F0 b0 x0)) (fun _ h => h) (hm0.in0 hc0 f0)
 replace hc0 := hc0.snoc (r := fzR (T_index_Index.obj F0 b0 x0)) (fun _ h => h)
 refine Rn.enter Tryd.func25 rfl rfl (Nat.le_of_ble_eq_true rfl) ?_
 refine gg 9 rfl ?_
 obtain ⟨_, ⟨A3_0, c3_0, F3_1, m3_1, rfl⟩, hm3⟩ := hm2.unfz 0 rfl
 replace hm3 := hm3.nf [_, _, _, _] rfl
 have hm8 := hm3.fzSl 2 rfl
 refine Rn.q rfl (V.ldB Tryd.isAgg28 rfl (hm8.getz 1 rfl) rfl) (Rn.q rfl (V.lenV Tryd.underlying28 rfl) ?_)
 obtain ⟨z9, e9, hM⟩ := bindE hM
 refine Rn.mkSlH (rep := (intR .i64)) hm8 e9 rfl rfl rfl Tryd.underlying22 el3 rfl (zs := [iv 0]) (by kernel_rfl) rfl rfl (fun _ _ => ⟨rfl, trivial⟩) ?_
 intro b9 w9 hm9
 refine gg 6 rfl (Rn.q rfl (V.lenV Tryd.underlying22 rfl) (gg 2 rfl ?_))
 obtain ⟨j1, hj1, hM⟩ := jnE hM
 refine Rn.joinG (r := r) (G := (List Int)) (fun g => [(3, .slice (some ⟨b9, 0, none⟩) (z9).length (z9).length)]) (fun g w' => Hp Z0 No w w' [ownR 3 (some ⟨b9, 0, none⟩) (z9).length (intR .i64) g] ∧ g.length = (z9).length) (fun g => j1 g) ?_ ?_
 ·subst hj1
  clear hM
  rintro y11 w12 ⟨hm12, hl11⟩ hM
  replace hl11 : y11.length = (z9).length := hl11
  try dsimp only at hM
  refine gg 5 rfl ?_
  refine Rn.say (t := 2) (.slice (some ⟨b9, 0, none⟩) (y11).length (z9).length) rfl (congrArg (fun (n0 : Nat) => Value.slice (some ⟨b9, 0, none⟩) n0 (z9).length) (show (z9).length = (y11).length from (hl11).symm.trans (rfl))) ?_
  refine Rn.retG1 Tryd.func25 rfl (rvT rfl) ?_
  obtain rfl := someE hM
  exact ⟨(some ⟨b9, 0, none⟩), (z9).length, rfl, hm12.pick [0] rfl (by decide)⟩
 intro hk1
 clear hj1
 refine gg 1 rfl ?_
 refine Rn.loopF (G := (List Int) × Int) (fun g => [(3, .slice (some ⟨b9, 0, none⟩) (z9).length (z9).length), (12, iv (z9.length : Int)), (13, iv (g.2))]) (fun g w' => Hp Z0 No w w' [ownR 3 (some ⟨b9, 0, none⟩) (z9).length (intR .i64) (g.1)] ∧ (g.1).length = (z9).length) (fun n g => m_index_Index_all_L1 z9 j1 n g.1 g.2) fuel (z9, 0) (sb ⟨rfl, rfl, rfl, trivial⟩) (⟨hm9.pick [5] rfl (by decide), rfl⟩) hM (fun _ => rfl) ?_
 clear hM
 rintro m15 ⟨y13, y14⟩ w15 ⟨hm15, hl13⟩ hM hn15
 replace hl13 : y13.length = (z9).length := hl13
 replace hM : m_index_Index_all_L1 z9 j1 (m15 + 1) y13 y14 = some r := hM
 rw [m_index_Index_all_L1] at hM
 refine gg 5 rfl ?_
 refine askD hM (Rn.condD rfl) (fun h16 hM => ?_) (fun h16 hM => ?_)
 ·refine gg 12 rfl ?_
  obtain ⟨z17, e17, hM⟩ := bindE hM
  obtain ⟨kk17, ke17, kz17, kl17⟩ := idxE e17
  obtain ⟨vs17, hR17, hrel17⟩ := hm15.ownAtL 0 rfl kz17
  obtain ⟨rfl, _⟩ := hrel17
  refine Rn.q rfl (V.ixE kk17 Tryd.underlying22 Tryd.sizeOf3 rfl rfl ke17 (Nat.lt_of_lt_of_eq kl17 hl13)) (Rn.stI hm15 0 rfl ke17 kl17 rfl rfl Tryd.sizeOf3 rfl rfl rfl (vs := [iv y14]) rfl (⟨rfl, trivial⟩) ?_)
  intro w18 hm18
  refine gg 6 rfl ?_
  exact hn15 ((setI y13 y14 y14), (W64 (y14 + 1))) _ _ (sb ⟨rfl, rfl, rfl, trivial⟩) (⟨hm18.pick [0] rfl (by decide), ((length_setI _ _ _).trans hl13)⟩) hM
 ·refine gg 1 rfl ?_
  exact hk1 y13 _ _ (sb ⟨rfl, trivial⟩) (⟨hm15.pick [0] rfl (by decide), hl13⟩) hM

theorem m_index_Index_Values_sim {Z0 : Nat → Prop} {w : World} {F0 : Nat → Prop} {b0 : Nat} {x0 : T_index_Index} {x1 : (List UInt8)} {r : (List (List UInt8))} (hM : m_index_Index_Values x0 x1 = some r) (f0 : (fzR (T_index_Index.obj F0 b0 x0)).H Z0 w) :
    Calls Tryd.prog 38 #[pt b0 0, Str (x1)] w fun x w' => ∃ A_0_0 c_0_0, x = .returned (.slice A_0_0 (r).length c_0_0) ∧ Hp Z0 No w w' [ownR 9 A_0_0 c_0_0 textR r] := by
  unfold m_index_Index_Values at hM
  split at hM
  · rename_i hg
    obtain rfl := someE hM
    obtain ⟨⟨L, ⟨A1, c1, F1, mb, rfl⟩, hF, hH, hA⟩, hZ⟩ := f0
    obtain ⟨M, ⟨ms, ck, es, rfl, ha⟩, _, hH2, _⟩ := hH 2 _ rfl
    have hks : ms.map (·.1) = x0.rows.map fun p => p.1 := by rw [ha.rp.keys, ← ha.pl, plE_keys]
    refine (callsIn_wide.1 (values_G x1 w (hH 0 _ rfl) (hH2 0 _ rfl) ha.born ha.bnd (by have := congrArg List.length hks; simp only [List.length_map] at this; omega))).mono ?_
    rintro x w' ⟨v, xs, rfl, hp, hrow, hB⟩
    have hs : (fil x1 xs).mergeSort (fun x y => decide (x ≤ y)) = (fil x1 (x0.rows.map fun p => p.1)).mergeSort leK := mergeSort_of_perm (((hp.trans (hks ▸ List.Perm.refl _)).filter _).map _)
    have hl : (fil x1 xs).length = ((fil x1 (x0.rows.map fun p => p.1)).mergeSort leK).length := by rw [← hs, List.length_mergeSort]
    rw [hs] at hrow
    obtain ⟨A, c, rfl, ho⟩ := own_row hl hrow
    refine ⟨A, c, rfl, ?_⟩
    exact (Hp.nil Z0 No w).add (ownR 9 A c textR ((fil x1 (x0.rows.map fun p => p.1)).mergeSort leK)) (Ext.of_below hB) (fun x hx => by have := (ho.base x hx).1; omega) fun Z' _ => by
      have h' : Go.Wk.Own _ Z' w' 9 A c textR ((fil x1 (x0.rows.map fun p => p.1)).mergeSort leK) := Go.Wk.Own.flat text_flat ho
      exact ⟨h'.1, h'.2.1, h'.2.2.imp id fun ⟨g, cs, vss, h1, _, h2⟩ => ⟨g, cs, vss, h1, Nat.zero_le _, h2⟩⟩
  · cases hM

theorem m_index_Or_1_sim {Z0 : Nat → Prop} {w : World} {x0 : Bool} {x1 : Bool} {r : Bool} (hM : m_index_Or_1 x0 x1 = some r)  :
    Calls Tryd.prog 20 #[.bool (x0), .bool (x1)] w fun x w' => x = .returned (.bool (r)) ∧ Hp Z0 No w w' [] := by
 have hm0 := Hp.nil Z0 No w
 have hc0 := Calm.nil
 refine Rn.enter Tryd.func20 rfl rfl (Nat.le_of_ble_eq_true rfl) ?_
 refine gg 8 rfl ?_
 refine Rn.retG1 Tryd.func20 rfl (rvT rfl) ?_
 obtain rfl := someE hM
 exact ⟨rfl, hm0.pick [] rfl (by decide)⟩

theorem m_index_merge_s1_sim {Z0 : Nat → Prop} {w : World} {A0 : Option Addr} {c0 : Nat} {x0 : (List Int)} {A1 : Option Addr} {c1 : Nat} {x1 : (List Int)} {r : (List Int)} (hM : m_index_merge_s1 x0 x1 = some r) (f0 : (slR A0 c0 (intR .i64) x0).H Z0 w) (f1 : (slR A1 c1 (intR .i64) x1).H Z0 w) :
    Calls Tryd.prog 18 #[.slice A0 (x0).length c0, .slice A1 (x1).length c1, .func (.func 20) #[] [].toArray] w fun x w' => ∃ A_0_0 c_0_0, x = .returned (.slice A_0_0 (r).length c_0_0) ∧ Hp Z0 No w w' [ownR 3 A_0_0 c_0_0 (intR .i64) r] := by
 have hm0 := Hp.nil Z0 No w
 have hc0 := Calm.nil
 have hm3 := hm0.know (slR A0 c0 (intR .i64) x0) (fun _ h => h) (hm0.in0 hc0 f0)
 replace hc0 := hc0.snoc (r := slR A0 c0 (intR .i64) x0) (fun _ h => h)
 have hm4 := hm3.know (slR A1 c1 (intR .i64) x1) (fun _ h => h) (hm3.in0 hc0 f1)
 replace hc0 := hc0.snoc (r := slR A1 c1 (intR .i64) x1) (fun _ h => h)
 refine Rn.enter Tryd.func18 rfl rfl (Nat.le_of_ble_eq_true rfl) ?_
 refine gg 9 rfl ?_
 obtain ⟨j1, hj1, hM⟩ := jnE hM
 refine Rn.joinG (r := r) (G := (List Int) × Option Addr × Nat) (fun g => [(7, .slice (g.2.1) ((g.1)).length (g.2.2))]) (fun g w' => Hp Z0 No w w' [ownR 3 (g.2.1) (g.2.2) (intR .i64) (g.1)]) (fun g => j1 g.1) ?_ ?_
 ·subst hj1
  clear hM
  rintro ⟨y5, A6, c6⟩ w8 hm8 hM
  try dsimp only at hM
  refine gg 5 rfl ?_
  refine Rn.retG1 Tryd.func18 rfl (rvT rfl) ?_
  obtain rfl := someE hM
  exact ⟨A6, c6, rfl, hm8.pick [0] rfl (by decide)⟩
 intro hk1
 clear hj1
 refine gg 1 rfl ?_
 have hm18 := hm4.addNil 3 (intR .i64)
 refine Rn.loopF (G := (List Int) × (List Int) × (List Int) × Option Addr × Nat × Option Addr × Nat × Option Addr × Nat) (fun g => [(0, .slice (g.2.2.2.1) ((g.1)).length (g.2.2.2.2.1)), (1, .slice (g.2.2.2.2.2.1) ((g.2.1)).length (g.2.2.2.2.2.2.1)), (2, .func (.func 20) #[] [].toArray), (7, .slice (g.2.2.2.2.2.2.2.1) ((g.2.2.1)).length (g.2.2.2.2.2.2.2.2))]) (fun g w' => Hp Z0 No w w' [slR (g.2.2.2.1) (g.2.2.2.2.1) (intR .i64) (g.1), slR (g.2.2.2.2.2.1) (g.2.2.2.2.2.2.1) (intR .i64) (g.2.1), ownR 3 (g.2.2.2.2.2.2.2.1) (g.2.2.2.2.2.2.2.2) (intR .i64) (g.2.2.1)]) (fun n g => m_index_merge_s1_L1 j1 n g.1 g.2.1 g.2.2.1) fuel (x0, x1, ([] : List Int), A0, c0, A1, c1, none, 0) (sb ⟨rfl, rfl, rfl, rfl, trivial⟩) (hm18.pick [0, 1, 2] rfl (by decide)) hM (fun _ => rfl) ?_
 clear hM
 rintro m20 ⟨y9, y12, y15, A10, c10, A13, c13, A16, c16⟩ w20 hm20 hM hn20
 replace hM : m_index_merge_s1_L1 j1 (m20 + 1) y9 y12 y15 = some r := hM
 rw [m_index_merge_s1_L1] at hM
 refine gg 4 rfl (Rn.q rfl (V.lenV Tryd.underlying22 rfl) (gg 2 rfl ?_))
 refine Rn.cutR [] [(0, .slice A10 (y9).length c10), (1, .slice A13 (y12).length c13), (2, .func (.func 20) #[] [].toArray), (7, .slice A16 (y15).length c16), (18, .bool (decide (((y9.length : Int) > 0) ∨ ((y12.length : Int) > 0))))] (fun hk21 => ?_) ?_
 ·refine Rn.partD (t := 14) rfl (fun h22 => ?_) (fun h22 => ?_)
  ·refine gg 4 rfl ?_
   refine hk21 _ ?_
   exact Sub.cons rfl (Sub.cons rfl (Sub.cons rfl (Sub.cons rfl (Sub.cons (lkB rfl) (Sub.nil _)))))
  ·refine gg 1 rfl (Rn.q rfl (V.lenV Tryd.underlying22 rfl) (gg 2 rfl ?_))
   refine hk21 _ ?_
   exact Sub.cons rfl (Sub.cons rfl (Sub.cons rfl (Sub.cons rfl (Sub.cons (lkB rfl) (Sub.nil _)))))
 refine gg 1 rfl ?_
 refine askD hM (Rn.condD rfl) (fun h23 hM => ?_) (fun h23 hM => ?_)
 ·refine gg 3 rfl ?_
  obtain ⟨j2, hj2, hM⟩ := jnE hM
  refine Rn.joinG (r := r) (G := Bool) (fun g => [(0, .slice A10 (y9).length c10), (1, .slice A13 (y12).length c13), (2, .func (.func 20) #[] [].toArray), (7, .slice A16 (y15).length c16), (8, .bool (g))]) (fun g w' => Hp Z0 No w w' [slR A10 c10 (intR .i64) y9, slR A13 c13 (intR .i64) y12, ownR 3 A16 c16 (intR .i64) y15]) (fun g => j2 g) ?_ ?_
  ·subst hj2
   clear hM
   rintro y24 w25 hm25 hM
   try dsimp only at hM
   refine gg 1 rfl ?_
   obtain ⟨j3, hj3, hM⟩ := jnE hM
   refine Rn.joinG (r := r) (G := Bool) (fun g => [(0, .slice A10 (y9).length c10), (1, .slice A13 (y12).length c13), (2, .func (.func 20) #[] [].toArray), (7, .slice A16 (y15).length c16), (8, .bool (y24)), (9, .bool (g))]) (fun g w' => Hp Z0 No w w' [slR A10 c10 (intR .i64) y9, slR A13 c13 (intR .i64) y12, ownR 3 A16 c16 (intR .i64) y15]) (fun g => j3 g) ?_ ?_
   ·subst hj3
    clear hM
    rintro y26 w27 hm27 hM
    try dsimp only at hM
    refine gg 9 rfl ?_
    obtain ⟨j4, hj4, hM⟩ := jnE hM
    refine Rn.joinG (r := r) (G := (List Int) × Int × Option Addr × Nat) (fun g => [(0, .slice (g.2.2.1) ((g.1)).length (g.2.2.2)), (1, .slice A13 (y12).length c13), (2, .func (.func 20) #[] [].toArray), (7, .slice A16 (y15).length c16), (8, .bool (y24)), (9, .bool (y26)), (10, iv (g.2.1))]) (fun g w' => Hp Z0 No w w' [slR A10 c10 (intR .i64) y9, slR A13 c13 (intR .i64) y12, ownR 3 A16 c16 (intR .i64) y15, slR (g.2.2.1) (g.2.2.2) (intR .i64) (g.1)]) (fun g => j4 g.1 g.2.1) ?_ ?_
    ·subst hj4
     clear hM
     rintro ⟨y28, y31, A29, c29⟩ w32 hm32 hM
     try dsimp only at hM
     refine gg 5 rfl ?_
     obtain ⟨j5, hj5, hM⟩ := jnE hM
     refine Rn.joinG (r := r) (G := (List Int) × Int × Option Addr × Nat) (fun g => [(0, .slice A29 (y28).length c29), (1, .slice (g.2.2.1) ((g.1)).length (g.2.2.2)), (2, .func (.func 20) #[] [].toArray), (7, .slice A16 (y15).length c16), (8, .bool (y24)), (9, .bool (y26)), (10, iv (g.2.1))]) (fun g w' => Hp Z0 No w w' [slR A13 c13 (intR .i64) y12, ownR 3 A16 c16 (intR .i64) y15, slR A29 c29 (intR .i64) y28, slR (g.2.2.1) (g.2.2.2) (intR .i64) (g.1)]) (fun g => j5 g.1 g.2.1) ?_ ?_
     ·subst hj5
      clear hM
      rintro ⟨y33, y36, A34, c34⟩ w37 hm37 hM
      try dsimp only at hM
      refine gg 5 rfl ?_
      obtain ⟨p38, e38, hM⟩ := bindE hM
      refine Rn.clV ck20 rfl rfl rfl rfl rfl (m_index_Or_1_sim (Z0 := All) e38  :) ?_
      rintro _ w38 ⟨rfl, hq38⟩
      refine ⟨_, rfl, ?_⟩
      have hm39 := hm37.call0 hq38
      refine gg 1 rfl ?_
      refine askS hM (Rn.condS rfl) (fun h40 hM => ?_) (fun h40 hM => ?_)
      ·refine gg 3 rfl ?_
       obtain ⟨z41, e41, hM⟩ := bindE hM
       refine Rn.pushH (z := y36) (vs := [iv y36]) hm39 1 rfl e41 rfl rfl rfl rfl Tryd.underlying22 el3 rfl rfl rfl rfl (fun _ => rfl) (⟨rfl, trivial⟩) ?_
       intro A41 c41 w41 u41 hm41
       refine gg 3 rfl ?_
       exact hn20 (y28, y33, z41, A29, c29, A34, c34, A41, c41) _ _ (sb ⟨rfl, rfl, rfl, rfl, trivial⟩) (hm41.pick [2, 3, 1] rfl (by decide)) hM
      ·refine gg 2 rfl ?_
       exact hn20 (y28, y33, y15, A29, c29, A34, c34, A16, c16) _ _ (sb ⟨rfl, rfl, rfl, rfl, trivial⟩) (hm39.pick [2, 3, 1] rfl (by decide)) hM
     intro hk5
     clear hj5
     refine askS hM (Rn.condS rfl) (fun h43 hM => ?_) (fun h43 hM => ?_)
     ·refine Rn.drawP rfl hm32 ?_
      intro w44 hm44
      refine dd [0] (by kernel_rfl) rfl rfl ?_
      obtain ⟨z45, e45, hM⟩ := bindE hM
      obtain ⟨kk45, ke45, kz45, kl45⟩ := idxE e45
      obtain ⟨b45, o45, vs45, hA45, hD45, hR45, hrel45⟩ := Hp.at hm44 1 rfl kz45
      obtain ⟨rfl, _⟩ := hrel45
      have hm47 := Hp.knowL [rdR b45 (o45 + kk45 * 1) [iv z45]] _ hm44 (knC (fun _ h => h) ⟨fun _ => hD45, hR45⟩ kn0)
      refine RH.takeP 1 (by kernel_rfl) rfl rfl rfl rfl (V.ixA' hA45 kk45 Tryd.underlying22 Tryd.sizeOf3 rfl rfl ke45 kl45) ?_
      refine RH.takeP 2 (by kernel_rfl) rfl rfl rfl rfl (V.ldR0 Tryd.isAgg3 rfl (hm47.get 4 rfl).2 rfl) ?_
      refine dd [3] (by kernel_rfl) rfl rfl ?_
      obtain ⟨z48, e48, hM⟩ := bindE hM
      refine RH.cutH 4 (by kernel_rfl) hm47 1 rfl e48 rfl rfl rfl Tryd.underlying22 Tryd.sizeOf3 rfl rfl rfl rfl rfl ?_
      intro A48 c48 hm48
      refine dd [5, 6] (by kernel_rfl) rfl rfl ?_
      refine RH.doneP (by kernel_rfl) ?_
      exact hk5 (z48, z45, A48, c48) _ _ (sb ⟨rfl, rfl, rfl, rfl, rfl, rfl, rfl, trivial⟩) (hm48.pick [1, 2, 3, 5] rfl (by decide)) hM
     ·refine gg 1 rfl ?_
      have hm50 := hm32.dup 1 rfl (fun _ h => h)
      exact hk5 (y12, y31, A13, c13) _ _ (sb ⟨rfl, rfl, rfl, rfl, rfl, rfl, rfl, trivial⟩) (hm50.pick [1, 2, 3, 4] rfl (by decide)) hM
    intro hk4
    clear hj4
    refine askS hM (Rn.condS rfl) (fun h52 hM => ?_) (fun h52 hM => ?_)
    ·refine Rn.drawP rfl hm27 ?_
     intro w53 hm53
     refine dd [0] (by kernel_rfl) rfl rfl ?_
     obtain ⟨z54, e54, hM⟩ := bindE hM
     obtain ⟨kk54, ke54, kz54, kl54⟩ := idxE e54
     obtain ⟨b54, o54, vs54, hA54, hD54, hR54, hrel54⟩ := Hp.at hm53 0 rfl kz54
     obtain ⟨rfl, _⟩ := hrel54
     have hm56 := Hp.knowL [rdR b54 (o54 + kk54 * 1) [iv z54]] _ hm53 (knC (fun _ h => h) ⟨fun _ => hD54, hR54⟩ kn0)
     refine RH.takeP 1 (by kernel_rfl) rfl rfl rfl rfl (V.ixA' hA54 kk54 Tryd.underlying22 Tryd.sizeOf3 rfl rfl ke54 kl54) ?_
     refine RH.takeP 2 (by kernel_rfl) rfl rfl rfl rfl (V.ldR0 Tryd.isAgg3 rfl (hm56.get 3 rfl).2 rfl) ?_
     refine dd [3] (by kernel_rfl) rfl rfl ?_
     obtain ⟨z57, e57, hM⟩ := bindE hM
     refine RH.cutH 4 (by kernel_rfl) hm56 0 rfl e57 rfl rfl rfl Tryd.underlying22 Tryd.sizeOf3 rfl rfl rfl rfl rfl ?_
     intro A57 c57 hm57
     refine dd [5, 6] (by kernel_rfl) rfl rfl ?_
     refine RH.doneP (by kernel_rfl) ?_
     exact hk4 (z57, z54, A57, c57) _ _ (sb ⟨rfl, rfl, rfl, rfl, rfl, rfl, rfl, trivial⟩) (hm57.pick [0, 1, 2, 4] rfl (by decide)) hM
    ·refine gg 1 rfl ?_
     have hm59 := hm27.dup 0 rfl (fun _ h => h)
     exact hk4 (y9, 0, A10, c10) _ _ (sb ⟨rfl, rfl, rfl, rfl, rfl, rfl, rfl, trivial⟩) (hm59.pick [0, 1, 2, 3] rfl (by decide)) hM
   intro hk3
   clear hj3
   refine Rn.drawP rfl hm25 ?_
   intro w61 hm61
   refine dd [0] (by kernel_rfl) rfl rfl ?_
   refine RH.takeP 1 (by kernel_rfl) rfl rfl rfl rfl (V.lenV Tryd.underlying22 rfl) ?_
   refine dd [2, 3] (by kernel_rfl) rfl rfl ?_
   refine askD hM (RH.partD (t := 39) rfl) (fun h62 hM => ?_) (fun h62 hM => ?_)
   ·refine dd [4] (by kernel_rfl) rfl rfl ?_
    refine RH.takeP 5 (by kernel_rfl) rfl rfl rfl rfl (V.lenV Tryd.underlying22 rfl) ?_
    refine dd [6, 7] (by kernel_rfl) rfl rfl ?_
    refine askD hM (RH.partD (t := 43) rfl) (fun h63 hM => ?_) (fun h63 hM => ?_)
    ·refine dd [8, 9, 10, 11, 12, 13, 14, 15, 16, 17] (by kernel_rfl) rfl rfl ?_
     refine RH.doneP (by kernel_rfl) ?_
     exact hk3 true _ _ (sb ⟨rfl, rfl, rfl, rfl, rfl, rfl, trivial⟩) (hm61.pick [0, 1, 2] rfl (by decide)) hM
    ·refine dd [8] (by kernel_rfl) rfl rfl ?_
     obtain ⟨z64, e64, hM⟩ := bindE hM
     obtain ⟨kk64, ke64, kz64, kl64⟩ := idxE e64
     obtain ⟨b64, o64, vs64, hA64, hD64, hR64, hrel64⟩ := Hp.at hm61 1 rfl kz64
     obtain ⟨rfl, _⟩ := hrel64
     have hm66 := Hp.knowL [rdR b64 (o64 + kk64 * 1) [iv z64]] _ hm61 (knC (fun _ h => h) ⟨fun _ => hD64, hR64⟩ kn0)
     refine RH.takeP 9 (by kernel_rfl) rfl rfl rfl rfl (V.ixA' hA64 kk64 Tryd.underlying22 Tryd.sizeOf3 rfl rfl ke64 kl64) ?_
     refine RH.takeP 10 (by kernel_rfl) rfl rfl rfl rfl (V.ldR0 Tryd.isAgg3 rfl (hm66.get 3 rfl).2 rfl) ?_
     refine dd [11] (by kernel_rfl) rfl rfl ?_
     obtain ⟨z67, e67, hM⟩ := bindE hM
     obtain ⟨kk67, ke67, kz67, kl67⟩ := idxE e67
     obtain ⟨b67, o67, vs67, hA67, hD67, hR67, hrel67⟩ := Hp.at hm66 0 rfl kz67
     obtain ⟨rfl, _⟩ := hrel67
     have hm69 := Hp.knowL [rdR b67 (o67 + kk67 * 1) [iv z67]] _ hm66 (knC (fun _ h => h) ⟨fun _ => hD67, hR67⟩ kn0)
     refine RH.takeP 12 (by kernel_rfl) rfl rfl rfl rfl (V.ixA' hA67 kk67 Tryd.underlying22 Tryd.sizeOf3 rfl rfl ke67 kl67) ?_
     refine RH.takeP 13 (by kernel_rfl) rfl rfl rfl rfl (V.ldR0 Tryd.isAgg3 rfl (hm69.get 4 rfl).2 rfl) ?_
     refine dd [14, 15, 16, 17] (by kernel_rfl) rfl rfl ?_
     refine RH.doneP (by kernel_rfl) ?_
     exact hk3 (decide (z64 ≤ z67)) _ _ (sb ⟨rfl, rfl, rfl, rfl, rfl, rfl, trivial⟩) (hm69.pick [0, 1, 2] rfl (by decide)) hM
   ·refine dd [4, 5, 6, 7, 8, 9, 10, 11, 12, 13, 14, 15, 16, 17] (by kernel_rfl) rfl rfl ?_
    refine RH.doneP (by kernel_rfl) ?_
    exact hk3 false _ _ (sb ⟨rfl, rfl, rfl, rfl, rfl, rfl, trivial⟩) (hm61.pick [0, 1, 2] rfl (by decide)) hM
  intro hk2
  clear hj2
  refine Rn.drawP rfl hm20 ?_
  intro w70 hm70
  refine dd [0] (by kernel_rfl) rfl rfl ?_
  refine RH.takeP 1 (by kernel_rfl) rfl rfl rfl rfl (V.lenV Tryd.underlying22 rfl) ?_
  refine dd [2, 3] (by kernel_rfl) rfl rfl ?_
  refine askD hM (RH.partD (t := 22) rfl) (fun h71 hM => ?_) (fun h71 hM => ?_)
  ·refine dd [4] (by kernel_rfl) rfl rfl ?_
   refine RH.takeP 5 (by kernel_rfl) rfl rfl rfl rfl (V.lenV Tryd.underlying22 rfl) ?_
   refine dd [6, 7] (by kernel_rfl) rfl rfl ?_
   refine askD hM (RH.partD (t := 26) rfl) (fun h72 hM => ?_) (fun h72 hM => ?_)
   ·refine dd [8, 9, 10, 11, 12, 13, 14, 15, 16, 17] (by kernel_rfl) rfl rfl ?_
    refine RH.doneP (by kernel_rfl) ?_
    exact hk2 true _ _ (sb ⟨rfl, rfl, rfl, rfl, rfl, trivial⟩) (hm70.pick [0, 1, 2] rfl (by decide)) hM
   ·refine dd [8] (by kernel_rfl) rfl rfl ?_
    obtain ⟨z73, e73, hM⟩ := bindE hM
    obtain ⟨kk73, ke73, kz73, kl73⟩ := idxE e73
    obtain ⟨b73, o73, vs73, hA73, hD73, hR73, hrel73⟩ := Hp.at hm70 0 rfl kz73
    obtain ⟨rfl, _⟩ := hrel73
    have hm75 := Hp.knowL [rdR b73 (o73 + kk73 * 1) [iv z73]] _ hm70 (knC (fun _ h => h) ⟨fun _ => hD73, hR73⟩ kn0)
    refine RH.takeP 9 (by kernel_rfl) rfl rfl rfl rfl (V.ixA' hA73 kk73 Tryd.underlying22 Tryd.sizeOf3 rfl rfl ke73 kl73) ?_
    refine RH.takeP 10 (by kernel_rfl) rfl rfl rfl rfl (V.ldR0 Tryd.isAgg3 rfl (hm75.get 3 rfl).2 rfl) ?_
    refine dd [11] (by kernel_rfl) rfl rfl ?_
    obtain ⟨z76, e76, hM⟩ := bindE hM
    obtain ⟨kk76, ke76, kz76, kl76⟩ := idxE e76
    obtain ⟨b76, o76, vs76, hA76, hD76, hR76, hrel76⟩ := Hp.at hm75 1 rfl kz76
    obtain ⟨rfl, _⟩ := hrel76
    have hm78 := Hp.knowL [rdR b76 (o76 + kk76 * 1) [iv z76]] _ hm75 (knC (fun _ h => h) ⟨fun _ => hD76, hR76⟩ kn0)
    refine RH.takeP 12 (by kernel_rfl) rfl rfl rfl rfl (V.ixA' hA76 kk76 Tryd.underlying22 Tryd.sizeOf3 rfl rfl ke76 kl76) ?_
    refine RH.takeP 13 (by kernel_rfl) rfl rfl rfl rfl (V.ldR0 Tryd.isAgg3 rfl (hm78.get 4 rfl).2 rfl) ?_
    refine dd [14, 15, 16, 17] (by kernel_rfl) rfl rfl ?_
    refine RH.doneP (by kernel_rfl) ?_
    exact hk2 (decide (z73 ≤ z76)) _ _ (sb ⟨rfl, rfl, rfl, rfl, rfl, trivial⟩) (hm78.pick [0, 1, 2] rfl (by decide)) hM
  ·refine dd [4, 5, 6, 7, 8, 9, 10, 11, 12, 13, 14, 15, 16, 17] (by kernel_rfl) rfl rfl ?_
   refine RH.doneP (by kernel_rfl) ?_
   exact hk2 false _ _ (sb ⟨rfl, rfl, rfl, rfl, rfl, trivial⟩) (hm70.pick [0, 1, 2] rfl (by decide)) hM
 ·refine gg 1 rfl ?_
  exact hk1 (y15, A16, c16) _ _ (sb ⟨rfl, trivial⟩) (hm20.pick [2] rfl (by decide)) hM

theorem m_index_Or_sim {Z0 : Nat → Prop} {w : World} {A0 : Option Addr} {c0 : Nat} {x0 : (List Int)} {A1 : Option Addr} {c1 : Nat} {x1 : (List Int)} {r : (List Int)} (hM : m_index_Or x0 x1 = some r) (f0 : (slR A0 c0 (intR .i64) x0).H Z0 w) (f1 : (slR A1 c1 (intR .i64) x1).H Z0 w) :
    Calls Tryd.prog 7 #[.slice A0 (x0).length c0, .slice A1 (x1).length c1] w fun x w' => ∃ A_0_0 c_0_0, x = .returned (.slice A_0_0 (r).length c_0_0) ∧ Hp Z0 No w w' [ownR 3 A_0_0 c_0_0 (intR .i64) r] := by
 have hm0 := Hp.nil Z0 No w
 have hc0 := Calm.nil
 have hm3 := hm0.know (slR A0 c0 (intR .i64) x0) (fun _ h => h) (hm0.in0 hc0 f0)
 replace hc0 := hc0.snoc (r := slR A0 c0 (intR .i64) x0) (fun _ h => h)
 have hm4 := hm3.know (slR A1 c1 (intR .i64) x1) (fun _ h => h) (hm3.in0 hc0 f1)
 replace hc0 := hc0.snoc (r := slR A1 c1 (intR .i64) x1) (fun _ h => h)
 refine Rn.enter Tryd.func7 rfl rfl (Nat.le_of_ble_eq_true rfl) ?_
 refine gg 8 rfl ?_
 obtain ⟨p5, e5, hM⟩ := bindE hM
 refine Rn.cl ck18 rfl rfl rfl rfl (m_index_merge_s1_sim (Z0 := All) e5 (slR_all (hm4.get 0 rfl)) (slR_all (hm4.get 1 rfl)) :) ?_
 rintro _ w5 ⟨A5_0_0, c5_0_0, rfl, hq5⟩
 refine ⟨_, rfl, ?_⟩
 have hm7 := hm4.callF (flC (ownR_flat (int_flat _) _ _ _ _) fl0) hq5
 refine gg 2 rfl ?_
 refine Rn.retG1 Tryd.func7 rfl (rvT rfl) ?_
 obtain rfl := someE hM
 exact ⟨A5_0_0, c5_0_0, rfl, hm7.pick [2] rfl (by decide)⟩

theorem m_glob_set_has_sim {Z0 : Nat → Prop} {w : World} {b0 o0 : Nat} {x0 : T_glob_set} {x1 : UInt8} {r : Bool} (hM : m_glob_set_has x0 x1 = some r) (f0 : (rdR b0 o0 [u64v x0.a0, u64v x0.a1, u64v x0.a2, u64v x0.a3]).H Z0 w) :
    Calls Tryd.prog 59 #[pt b0 o0, u8v x1] w fun x w' => x = .returned (.bool (r)) ∧ Hp Z0 No w w' [] := by
 have hm0 := Hp.nil Z0 No w
 have hc0 := Calm.nil
 have hm2 := hm0.know (rdR b0 o0 [u64v x0.a0, u64v x0.a1, u64v x0.a2, u64v x0.a3]) (fun _ h => h) (hm0.in0 hc0 f0)
 replace hc0 := hc0.snoc (r := rdR b0 o0 [u64v x0.a0, u64v x0.a1, u64v x0.a2, u64v x0.a3]) (fun _ h => h)
 refine Rn.enter Tryd.func59 rfl rfl (Nat.le_of_ble_eq_true rfl) ?_
 refine gg 8 rfl ?_
 obtain ⟨z3, e3, hM⟩ := bindE hM
 refine Rn.q rfl (V.quo8 rfl rfl e3) (gg 1 rfl ?_)
 obtain ⟨z4, e4, hM⟩ := bindE hM
 obtain ⟨kk4, ke4, kz4, kl4⟩ := idxE e4
 refine Rn.q rfl (V.ixR kk4 Tryd.underlying85 Tryd.sizeOf53 rfl rfl ke4 (Nat.lt_of_lt_of_eq kl4 rfl)) (Rn.q rfl (V.ldR0 Tryd.isAgg53 rfl (ar_rd0 (fun x : UInt64 => u64v x) (show Rd _ b0 o0 (([x0.a0, x0.a1, x0.a2, x0.a3] : List UInt64).map (fun x : UInt64 => u64v x)) from (Rd.pre (hm2.get 0 rfl).2 4)) kz4) rfl) (gg 1 rfl ?_))
 obtain ⟨z5, e5, hM⟩ := bindE hM
 refine Rn.q rfl (V.rem8 rfl rfl e5) (Rn.q rfl (V.cv64 Tryd.underlying5 Tryd.underlying99 rfl) (Rn.q rfl (V.shr64 (a := z4) (m := (toU64 ((z5).toNat : Int)).toNat) rfl rfl) (Rn.q rfl (V.o64 rfl rfl (shr64 z4 ((toU64 ((z5).toNat : Int)).toNat)) (1 : UInt64) rfl rfl (b64_and _ _ _)) (Rn.q rfl (V.eql rfl rfl) (gg 2 rfl ?_)))))
 refine Rn.retG1 Tryd.func59 rfl (rvT rfl) ?_
 obtain rfl := someE hM
 exact ⟨rfl, hm2.pick [] rfl (by decide)⟩

theorem m_glob_Glob_Match_sim {Z0 : Nat → Prop} {w : World} {F0 : Nat → Prop} {b0 : Nat} {x0 : T_glob_Glob} {x1 : (List UInt8)} {r : Bool} (hM : m_glob_Glob_Match x0 x1 = some r) (f0 : (fzR (T_glob_Glob.obj F0 b0 x0)).H Z0 w) :
    Calls Tryd.prog 39 #[pt b0 0, Str (x1)] w fun x w' => x = .returned (.bool (r)) ∧ Hp Z0 No w w' [] := by
 have hm0 := Hp.nil Z0 No w
 have hc0 := Calm.nil
 have hm2 := hm0.know (fzR (T_glob_Glob.obj F0 b0 x0)) (fun _ h => h) (hm0.in0 hc0 f0)
 replace hc0 := hc0.snoc (r := fzR (T_glob_Glob.obj F0 b0 x0)) (fun _ h => h)
 refine Rn.enter Tryd.func39 rfl rfl (Nat.le_of_ble_eq_true rfl) ?_
 refine gg 5 rfl ?_
 refine Rn.loopL (r := r) (G := Int × Int × Int × Int) 0 rfl (fun g => [(0, pt b0 0), (1, Str (x1)), (5, iv (g.1)), (6, iv (g.2.1)), (7, iv (g.2.2.1)), (8, iv (g.2.2.2))]) (fun g w' => Hp Z0 No w w' [fzR (T_glob_Glob.obj F0 b0 x0)]) (fun n g => m_glob_Glob_Match_L1 x0 x1 n g.1 g.2.1 g.2.2.1 g.2.2.2) fuel (fun _ => rfl) ?_ ?_
 ·clear hM
  rintro m8 ⟨y3, y4, y5, y6⟩ w8 hm8 hM hn8
  replace hM : m_glob_Glob_Match_L1 x0 x1 (m8 + 1) y3 y4 y5 y6 = some r := hM
  rw [m_glob_Glob_Match_L1] at hM
  refine gg 8 rfl ?_
  obtain ⟨_, ⟨A9_0, c9_0, rfl⟩, hm9⟩ := hm8.unfz 0 rfl
  replace hm9 := hm9.nf [_, _, _] rfl
  have hm13 := hm9.fzSl 2 rfl
  refine Rn.q rfl (V.ldB Tryd.isAgg81 rfl (hm13.getz 1 rfl) rfl) (Rn.q rfl (V.lenV Tryd.underlying81 rfl) (gg 2 rfl ?_))
  obtain ⟨j2, hj2, hM⟩ := jnE hM
  refine Rn.joinR (r := r) (G := Bool) [18] (fun g => [(0, pt b0 0), (1, Str (x1)), (5, iv y3), (6, iv y4), (7, iv y5), (8, iv y6), (27, .bool (g))]) (fun g w' => Hp Z0 No w w' [fzR (T_glob_Glob.obj F0 b0 x0), fzR (boxR b0 83 [Str (x0.text), .slice A9_0 (x0.pieces).length c9_0]), slR A9_0 c9_0 T_glob_piece.rep x0.pieces]) (fun g => j2 g) ?_ ?_
  ·subst hj2
   clear hM
   rintro y14 w15 hm15 hM
   try dsimp only at hM
   refine gg 2 rfl ?_
   refine askS hM (Rn.condS rfl) (fun h16 hM => ?_) (fun h16 hM => ?_)
   ·refine gg 16 rfl ?_
    exact hn8 (y3, (W64 (y4 + 1)), y4, y3) _ _ (sb ⟨rfl, rfl, rfl, rfl, rfl, rfl, trivial⟩) (hm15.pick [0] rfl (by decide)) hM
   ·refine gg 1 rfl ?_
    obtain ⟨j3, hj3, hM⟩ := jnE hM
    refine Rn.joinG (r := r) (G := Bool) (fun g => [(0, pt b0 0), (1, Str (x1)), (5, iv y3), (6, iv y4), (7, iv y5), (8, iv y6), (32, .bool (g))]) (fun g w' => Hp Z0 No w w' [fzR (T_glob_Glob.obj F0 b0 x0), fzR (boxR b0 83 [Str (x0.text), .slice A9_0 (x0.pieces).length c9_0]), slR A9_0 c9_0 T_glob_piece.rep x0.pieces]) (fun g => j3 g) ?_ ?_
    ·subst hj3
     clear hM
     rintro y17 w18 hm18 hM
     try dsimp only at hM
     refine askS hM (Rn.condS rfl) (fun h19 hM => ?_) (fun h19 hM => ?_)
     ·refine gg 15 rfl ?_
      exact hn8 ((W64 (y3 + 1)), (W64 (y4 + 1)), y5, y6) _ _ (sb ⟨rfl, rfl, rfl, rfl, rfl, rfl, trivial⟩) (hm18.pick [0] rfl (by decide)) hM
     ·refine gg 6 rfl (Rn.q rfl (V.ldB Tryd.isAgg81 rfl (hm18.getz 1 rfl) rfl) (Rn.q rfl (V.lenV Tryd.underlying81 rfl) (gg 2 rfl ?_)))
      refine Rn.cutR [13] [(0, pt b0 0), (1, Str (x1)), (7, iv y5), (8, iv y6), (76, .bool (decide ((y4 = (x0.pieces.length : Int)) ∧ (y3 = (x1.length : Int)))))] (fun hk20 => ?_) ?_
      ·refine Rn.partD (t := 71) rfl (fun h21 => ?_) (fun h21 => ?_)
       ·refine gg 2 rfl (Rn.q rfl (V.lenS Tryd.underlying9 rfl) (gg 2 rfl ?_))
        refine hk20 _ ?_
        exact Sub.cons rfl (Sub.cons rfl (Sub.cons rfl (Sub.cons rfl (Sub.cons (lkB rfl) (Sub.nil _)))))
       ·refine gg 5 rfl ?_
        refine hk20 _ ?_
        exact Sub.cons rfl (Sub.cons rfl (Sub.cons rfl (Sub.cons rfl (Sub.cons (lkB rfl) (Sub.nil _)))))
      refine gg 2 rfl ?_
      refine askD hM (Rn.condD rfl) (fun h22 hM => ?_) (fun h22 hM => ?_)
      ·refine gg 4 rfl ?_
       refine Rn.retG1 Tryd.func39 rfl (rvT rfl) ?_
       obtain rfl := someE hM
       exact ⟨rfl, hm18.pick [] rfl (by decide)⟩
      ·refine gg 5 rfl ?_
       refine Rn.cutR [8] [(0, pt b0 0), (1, Str (x1)), (7, iv y5), (8, iv y6), (85, .bool (decide ((y5 ≥ 0) ∧ (y6 < (x1.length : Int)))))] (fun hk23 => ?_) ?_
       ·refine Rn.partD (t := 80) rfl (fun h24 => ?_) (fun h24 => ?_)
        ·refine gg 2 rfl (Rn.q rfl (V.lenS Tryd.underlying9 rfl) (gg 2 rfl ?_))
         refine hk23 _ ?_
         exact Sub.cons rfl (Sub.cons rfl (Sub.cons rfl (Sub.cons rfl (Sub.cons (lkB rfl) (Sub.nil _)))))
        ·refine gg 5 rfl ?_
         refine hk23 _ ?_
         exact Sub.cons rfl (Sub.cons rfl (Sub.cons rfl (Sub.cons rfl (Sub.cons (lkB rfl) (Sub.nil _)))))
       refine gg 2 rfl ?_
       refine askD hM (Rn.condD rfl) (fun h25 hM => ?_) (fun h25 hM => ?_)
       ·refine gg 17 rfl ?_
        exact hn8 ((W64 (y6 + 1)), (W64 (y5 + 1)), y5, (W64 (y6 + 1))) _ _ (sb ⟨rfl, rfl, rfl, rfl, rfl, rfl, trivial⟩) (hm18.pick [0] rfl (by decide)) hM
       ·refine gg 6 rfl ?_
        refine Rn.retG1 Tryd.func39 rfl (rvT rfl) ?_
        obtain rfl := someE hM
        exact ⟨rfl, hm18.pick [] rfl (by decide)⟩
    intro hk3
    clear hj3
    refine Rn.drawH rfl hm15 ?_
    intro w26 hm26
    refine dd [0, 1, 2, 3] (by kernel_rfl) rfl rfl ?_
    refine RH.here fun hS4 => RH.one 4 (by kernel_rfl) rfl rfl rfl rfl (V.ldB Tryd.isAgg81 rfl (hm26.getz 1 rfl) rfl) hS4 ?_
    refine RH.here fun hS5 => RH.one 5 (by kernel_rfl) rfl rfl rfl rfl (V.lenV Tryd.underlying81 rfl) hS5 ?_
    refine dd [6, 7] (by kernel_rfl) rfl rfl ?_
    refine askD hM (RH.partD (t := 40) rfl) (fun h27 hM => ?_) (fun h27 hM => ?_)
    ·refine dd [8, 9] (by kernel_rfl) rfl rfl ?_
     refine RH.here fun hS10 => RH.one 10 (by kernel_rfl) rfl rfl rfl rfl (V.lenS Tryd.underlying9 rfl) hS10 ?_
     refine dd [11, 12, 13] (by kernel_rfl) rfl rfl ?_
     refine askD hM (RH.partD (t := 46) rfl) (fun h28 hM => ?_) (fun h28 hM => ?_)
     ·refine dd [14, 15, 16] (by kernel_rfl) rfl rfl ?_
      refine RH.take 17 (by kernel_rfl) rfl rfl rfl rfl (fun w' hDr => V.ldB Tryd.isAgg81 rfl ((hm26.ext hDr).getz 1 rfl) rfl) ?_
      refine dd [18] (by kernel_rfl) rfl rfl ?_
      obtain ⟨z29, e29, hM⟩ := bindE hM
      obtain ⟨kk29, ke29, kz29, kl29⟩ := idxE e29
      obtain ⟨b29, o29, vs29, hA29, hD29, hR29, hrel29⟩ := Hp.at hm26 2 rfl kz29
      obtain rfl := T_glob_piece.relE hrel29
      have hm31 := Hp.knowL [rdR b29 (o29 + kk29 * 7) [iv z29.kind, u64v z29.set.a0, u64v z29.set.a1, u64v z29.set.a2, u64v z29.set.a3, .bool (z29.plain), u8v z29.c]] _ hm26 (knC (fun _ h => h) ⟨fun _ => hD29, hR29⟩ kn0)
      refine RH.take 19 (by kernel_rfl) rfl rfl rfl rfl (fun w' hDr => V.ixA' hA29 kk29 Tryd.underlying81 Tryd.sizeOf87 rfl rfl ke29 kl29) ?_
      refine dd [20, 21, 22] (by kernel_rfl) rfl rfl ?_
      obtain ⟨z32, e32, hM⟩ := bindE hM
      refine RH.here fun hS23 => RH.one 23 (by kernel_rfl) rfl rfl rfl rfl (V.idxSZ Tryd.underlying9 rfl rfl e32) hS23 ?_
      obtain ⟨p33, e33, hM⟩ := bindE hM
      refine RH.cl ck59 24 (by kernel_rfl) rfl rfl rfl rfl (m_glob_set_has_sim (Z0 := All) e33 (rdR_sub (rdR_all (hm31.get 3 rfl)) 1 4) :) ?_
      rintro _ w33 ⟨rfl, hq33⟩
      refine ⟨_, rfl, ((Ext.refl _).trans hq33.fr), ?_⟩
      have hm34 := hm31.call0 hq33
      refine dd [25, 26] (by kernel_rfl) rfl rfl ?_
      refine RH.doneP (by kernel_rfl) ?_
      exact hk3 p33 _ _ (sb ⟨rfl, rfl, rfl, rfl, rfl, rfl, rfl, trivial⟩) (hm34.pick [0, 1, 2] rfl (by decide)) hM
     ·refine dd [14, 15, 16, 17, 18, 19, 20, 21, 22, 23, 24, 25, 26] (by kernel_rfl) rfl rfl ?_
      refine RH.doneP (by kernel_rfl) ?_
      exact hk3 false _ _ (sb ⟨rfl, rfl, rfl, rfl, rfl, rfl, rfl, trivial⟩) (hm26.pick [0, 1, 2] rfl (by decide)) hM
    ·refine dd [8, 9, 10, 11, 12, 13, 14, 15, 16, 17, 18, 19, 20, 21, 22, 23, 24, 25, 26] (by kernel_rfl) rfl rfl ?_
     refine RH.doneP (by kernel_rfl) ?_
     exact hk3 false _ _ (sb ⟨rfl, rfl, rfl, rfl, rfl, rfl, rfl, trivial⟩) (hm26.pick [0, 1, 2] rfl (by decide)) hM
  intro hk2
  clear hj2
  refine askD hM (Rn.partD (t := 17) rfl) (fun h35 hM => ?_) (fun h35 hM => ?_)
  ·refine gg 3 rfl (Rn.q rfl (V.ldB Tryd.isAgg81 rfl (hm13.getz 1 rfl) rfl) (gg 1 rfl ?_))
   obtain ⟨z36, e36, hM⟩ := bindE hM
   refine Rn.ixH hm13 3 rfl e36 rfl rfl rfl Tryd.underlying81 Tryd.sizeOf87 rfl rfl rfl rfl ?_
   rintro b36 o36 vs36 hr36 hm36
   obtain rfl := T_glob_piece.relE hr36
   refine gg 1 rfl (Rn.q rfl (V.ldR0 Tryd.isAgg3 rfl (hm36.get 4 rfl).2 rfl) (gg 2 rfl ?_))
   exact hk2 (decide (z36.kind = 1)) _ _ (sb ⟨rfl, rfl, rfl, rfl, rfl, rfl, rfl, trivial⟩) (hm36.pick [0, 1, 3] rfl (by decide)) hM
  ·refine gg 10 rfl ?_
   exact hk2 false _ _ (sb ⟨rfl, rfl, rfl, rfl, rfl, rfl, rfl, trivial⟩) (hm13.pick [0, 1, 3] rfl (by decide)) hM
 intro hk1
 refine gg 12 rfl ?_
 exact hk1 (0, 0, (-1), 0) _ _ (sb ⟨rfl, rfl, rfl, rfl, rfl, rfl, trivial⟩) (hm2.pick [0] rfl (by decide)) hM

theorem m_index_Less_1_sim {Z0 : Nat → Prop} {w : World} {x0 : Bool} {x1 : Bool} {r : Bool} (hM : m_index_Less_1 x0 x1 = some r)  :
    Calls Tryd.prog 21 #[.bool (x0), .bool (x1)] w fun x w' => x = .returned (.bool (r)) ∧ Hp Z0 No w w' [] := by
 have hm0 := Hp.nil Z0 No w
 have hc0 := Calm.nil
 refine Rn.enter Tryd.func21 rfl rfl (Nat.le_of_ble_eq_true rfl) ?_
 refine gg 7 rfl (Rn.q rfl (V.notB rfl) (gg 2 rfl ?_))
 refine Rn.retG1 Tryd.func21 rfl (rvT rfl) ?_
 obtain rfl := someE hM
 exact ⟨rfl, hm0.pick [] rfl (by decide)⟩

theorem m_index_merge_s2_sim {Z0 : Nat → Prop} {w : World} {A0 : Option Addr} {c0 : Nat} {x0 : (List Int)} {A1 : Option Addr} {c1 : Nat} {x1 : (List Int)} {r : (List Int)} (hM : m_index_merge_s2 x0 x1 = some r) (f0 : (slR A0 c0 (intR .i64) x0).H Z0 w) (f1 : (slR A1 c1 (intR .i64) x1).H Z0 w) :
    Calls Tryd.prog 18 #[.slice A0 (x0).length c0, .slice A1 (x1).length c1, .func (.func 21) #[] [].toArray] w fun x w' => ∃ A_0_0 c_0_0, x = .returned (.slice A_0_0 (r).length c_0_0) ∧ Hp Z0 No w w' [ownR 3 A_0_0 c_0_0 (intR .i64) r] := by
 have hm0 := Hp.nil Z0 No w
 have hc0 := Calm.nil
 have hm3 := hm0.know (slR A0 c0 (intR .i64) x0) (fun _ h => h) (hm0.in0 hc0 f0)
 replace hc0 := hc0.snoc (r := slR A0 c0 (intR .i64) x0) (fun _ h => h)
 have hm4 := hm3.know (slR A1 c1 (intR .i64) x1) (fun _ h => h) (hm3.in0 hc0 f1)
 replace hc0 := hc0.snoc (r := slR A1 c1 (intR .i64) x1) (fun _ h => h)
 refine Rn.enter Tryd.func18 rfl rfl (Nat.le_of_ble_eq_true rfl) ?_
 refine gg 9 rfl ?_
 obtain ⟨j1, hj1, hM⟩ := jnE hM
 refine Rn.joinG (r := r) (G := (List Int) × Option Addr × Nat) (fun g => [(7, .slice (g.2.1) ((g.1)).length (g.2.2))]) (fun g w' => Hp Z0 No w w' [ownR 3 (g.2.1) (g.2.2) (intR .i64) (g.1)]) (fun g => j1 g.1) ?_ ?_
 ·subst hj1
  clear hM
  rintro ⟨y5, A6, c6⟩ w8 hm8 hM
  try dsimp only at hM
  refine gg 5 rfl ?_
  refine Rn.retG1 Tryd.func18 rfl (rvT rfl) ?_
  obtain rfl := someE hM
  exact ⟨A6, c6, rfl, hm8.pick [0] rfl (by decide)⟩
 intro hk1
 clear hj1
 refine gg 1 rfl ?_
 have hm18 := hm4.addNil 3 (intR .i64)
 refine Rn.loopF (G := (List Int) × (List Int) × (List Int) × Option Addr × Nat × Option Addr × Nat × Option Addr × Nat) (fun g => [(0, .slice (g.2.2.2.1) ((g.1)).length (g.2.2.2.2.1)), (1, .slice (g.2.2.2.2.2.1) ((g.2.1)).length (g.2.2.2.2.2.2.1)), (2, .func (.func 21) #[] [].toArray), (7, .slice (g.2.2.2.2.2.2.2.1) ((g.2.2.1)).length (g.2.2.2.2.2.2.2.2))]) (fun g w' => Hp Z0 No w w' [slR (g.2.2.2.1) (g.2.2.2.2.1) (intR .i64) (g.1), slR (g.2.2.2.2.2.1) (g.2.2.2.2.2.2.1) (intR .i64) (g.2.1), ownR 3 (g.2.2.2.2.2.2.2.1) (g.2.2.2.2.2.2.2.2) (intR .i64) (g.2.2.1)]) (fun n g => m_index_merge_s2_L1 j1 n g.1 g.2.1 g.2.2.1) fuel (x0, x1, ([] : List Int), A0, c0, A1, c1, none, 0) (sb ⟨rfl, rfl, rfl, rfl, trivial⟩) (hm18.pick [0, 1, 2] rfl (by decide)) hM (fun _ => rfl) ?_
 clear hM
 rintro m20 ⟨y9, y12, y15, A10, c10, A13, c13, A16, c16⟩ w20 hm20 hM hn20
 replace hM : m_index_merge_s2_L1 j1 (m20 + 1) y9 y12 y15 = some r := hM
 rw [m_index_merge_s2_L1] at hM
 refine gg 4 rfl (Rn.q rfl (V.lenV Tryd.underlying22 rfl) (gg 2 rfl ?_))
 refine Rn.cutR [] [(0, .slice A10 (y9).length c10), (1, .slice A13 (y12).length c13), (2, .func (.func 21) #[] [].toArray), (7, .slice A16 (y15).length c16), (18, .bool (decide (((y9.length : Int) > 0) ∨ ((y12.length : Int) > 0))))] (fun hk21 => ?_) ?_
 ·refine Rn.partD (t := 14) rfl (fun h22 => ?_) (fun h22 => ?_)
  ·refine gg 4 rfl ?_
   refine hk21 _ ?_
   exact Sub.cons rfl (Sub.cons rfl (Sub.cons rfl (Sub.cons rfl (Sub.cons (lkB rfl) (Sub.nil _)))))
  ·refine gg 1 rfl (Rn.q rfl (V.lenV Tryd.underlying22 rfl) (gg 2 rfl ?_))
   refine hk21 _ ?_
   exact Sub.cons rfl (Sub.cons rfl (Sub.cons rfl (Sub.cons rfl (Sub.cons (lkB rfl) (Sub.nil _)))))
 refine gg 1 rfl ?_
 refine askD hM (Rn.condD rfl) (fun h23 hM => ?_) (fun h23 hM => ?_)
 ·refine gg 3 rfl ?_
  obtain ⟨j2, hj2, hM⟩ := jnE hM
  refine Rn.joinG (r := r) (G := Bool) (fun g => [(0, .slice A10 (y9).length c10), (1, .slice A13 (y12).length c13), (2, .func (.func 21) #[] [].toArray), (7, .slice A16 (y15).length c16), (8, .bool (g))]) (fun g w' => Hp Z0 No w w' [slR A10 c10 (intR .i64) y9, slR A13 c13 (intR .i64) y12, ownR 3 A16 c16 (intR .i64) y15]) (fun g => j2 g) ?_ ?_
  ·subst hj2
   clear hM
   rintro y24 w25 hm25 hM
   try dsimp only at hM
   refine gg 1 rfl ?_
   obtain ⟨j3, hj3, hM⟩ := jnE hM
   refine Rn.joinG (r := r) (G := Bool) (fun g => [(0, .slice A10 (y9).length c10), (1, .slice A13 (y12).length c13), (2, .func (.func 21) #[] [].toArray), (7, .slice A16 (y15).length c16), (8, .bool (y24)), (9, .bool (g))]) (fun g w' => Hp Z0 No w w' [slR A10 c10 (intR .i64) y9, slR A13 c13 (intR .i64) y12, ownR 3 A16 c16 (intR .i64) y15]) (fun g => j3 g) ?_ ?_
   ·subst hj3
    clear hM
    rintro y26 w27 hm27 hM
    try dsimp only at hM
    refine gg 9 rfl ?_
    obtain ⟨j4, hj4, hM⟩ := jnE hM
    refine Rn.joinG (r := r) (G := (List Int) × Int × Option Addr × Nat) (fun g => [(0, .slice (g.2.2.1) ((g.1)).length (g.2.2.2)), (1, .slice A13 (y12).length c13), (2, .func (.func 21) #[] [].toArray), (7, .slice A16 (y15).length c16), (8, .bool (y24)), (9, .bool (y26)), (10, iv (g.2.1))]) (fun g w' => Hp Z0 No w w' [slR A10 c10 (intR .i64) y9, slR A13 c13 (intR .i64) y12, ownR 3 A16 c16 (intR .i64) y15, slR (g.2.2.1) (g.2.2.2) (intR .i64) (g.1)]) (fun g => j4 g.1 g.2.1) ?_ ?_
    ·subst hj4
     clear hM
     rintro ⟨y28, y31, A29, c29⟩ w32 hm32 hM
     try dsimp only at hM
     refine gg 5 rfl ?_
     obtain ⟨j5, hj5, hM⟩ := jnE hM
     refine Rn.joinG (r := r) (G := (List Int) × Int × Option Addr × Nat) (fun g => [(0, .slice A29 (y28).length c29), (1, .slice (g.2.2.1) ((g.1)).length (g.2.2.2)), (2, .func (.func 21) #[] [].toArray), (7, .slice A16 (y15).length c16), (8, .bool (y24)), (9, .bool (y26)), (10, iv (g.2.1))]) (fun g w' => Hp Z0 No w w' [slR A13 c13 (intR .i64) y12, ownR 3 A16 c16 (intR .i64) y15, slR A29 c29 (intR .i64) y28, slR (g.2.2.1) (g.2.2.2) (intR .i64) (g.1)]) (fun g => j5 g.1 g.2.1) ?_ ?_
     ·subst hj5
      clear hM
      rintro ⟨y33, y36, A34, c34⟩ w37 hm37 hM
      try dsimp only at hM
      refine gg 5 rfl ?_
      obtain ⟨p38, e38, hM⟩ := bindE hM
      refine Rn.clV ck21 rfl rfl rfl rfl rfl (m_index_Less_1_sim (Z0 := All) e38  :) ?_
      rintro _ w38 ⟨rfl, hq38⟩
      refine ⟨_, rfl, ?_⟩
      have hm39 := hm37.call0 hq38
      refine gg 1 rfl ?_
      refine askS hM (Rn.condS rfl) (fun h40 hM => ?_) (fun h40 hM => ?_)
      ·refine gg 3 rfl ?_
       obtain ⟨z41, e41, hM⟩ := bindE hM
       refine Rn.pushH (z := y36) (vs := [iv y36]) hm39 1 rfl e41 rfl rfl rfl rfl Tryd.underlying22 el3 rfl rfl rfl rfl (fun _ => rfl) (⟨rfl, trivial⟩) ?_
       intro A41 c41 w41 u41 hm41
       refine gg 3 rfl ?_
       exact hn20 (y28, y33, z41, A29, c29, A34, c34, A41, c41) _ _ (sb ⟨rfl, rfl, rfl, rfl, trivial⟩) (hm41.pick [2, 3, 1] rfl (by decide)) hM
      ·refine gg 2 rfl ?_
       exact hn20 (y28, y33, y15, A29, c29, A34, c34, A16, c16) _ _ (sb ⟨rfl, rfl, rfl, rfl, trivial⟩) (hm39.pick [2, 3, 1] rfl (by decide)) hM
     intro hk5
     clear hj5
     refine askS hM (Rn.condS rfl) (fun h43 hM => ?_) (fun h43 hM => ?_)
     ·refine Rn.drawP rfl hm32 ?_
      intro w44 hm44
      refine dd [0] (by kernel_rfl) rfl rfl ?_
      obtain ⟨z45, e45, hM⟩ := bindE hM
      obtain ⟨kk45, ke45, kz45, kl45⟩ := idxE e45
      obtain ⟨b45, o45, vs45, hA45, hD45, hR45, hrel45⟩ := Hp.at hm44 1 rfl kz45
      obtain ⟨rfl, _⟩ := hrel45
      have hm47 := Hp.knowL [rdR b45 (o45 + kk45 * 1) [iv z45]] _ hm44 (knC (fun _ h => h) ⟨fun _ => hD45, hR45⟩ kn0)
      refine RH.takeP 1 (by kernel_rfl) rfl rfl rfl rfl (V.ixA' hA45 kk45 Tryd.underlying22 Tryd.sizeOf3 rfl rfl ke45 kl45) ?_
      refine RH.takeP 2 (by kernel_rfl) rfl rfl rfl rfl (V.ldR0 Tryd.isAgg3 rfl (hm47.get 4 rfl).2 rfl) ?_
      refine dd [3] (by kernel_rfl) rfl rfl ?_
      obtain ⟨z48, e48, hM⟩ := bindE hM
      refine RH.cutH 4 (by kernel_rfl) hm47 1 rfl e48 rfl rfl rfl Tryd.underlying22 Tryd.sizeOf3 rfl rfl rfl rfl rfl ?_
      intro A48 c48 hm48
      refine dd [5, 6] (by kernel_rfl) rfl rfl ?_
      refine RH.doneP (by kernel_rfl) ?_
      exact hk5 (z48, z45, A48, c48) _ _ (sb ⟨rfl, rfl, rfl, rfl, rfl, rfl, rfl, trivial⟩) (hm48.pick [1, 2, 3, 5] rfl (by decide)) hM
     ·refine gg 1 rfl ?_
      have hm50 := hm32.dup 1 rfl (fun _ h => h)
      exact hk5 (y12, y31, A13, c13) _ _ (sb ⟨rfl, rfl, rfl, rfl, rfl, rfl, rfl, trivial⟩) (hm50.pick [1, 2, 3, 4] rfl (by decide)) hM
    intro hk4
    clear hj4
    refine askS hM (Rn.condS rfl) (fun h52 hM => ?_) (fun h52 hM => ?_)
    ·refine Rn.drawP rfl hm27 ?_
     intro w53 hm53
     refine dd [0] (by kernel_rfl) rfl rfl ?_
     obtain ⟨z54, e54, hM⟩ := bindE hM
     obtain ⟨kk54, ke54, kz54, kl54⟩ := idxE e54
     obtain ⟨b54, o54, vs54, hA54, hD54, hR54, hrel54⟩ := Hp.at hm53 0 rfl kz54
     obtain ⟨rfl, _⟩ := hrel54
     have hm56 := Hp.knowL [rdR b54 (o54 + kk54 * 1) [iv z54]] _ hm53 (knC (fun _ h => h) ⟨fun _ => hD54, hR54⟩ kn0)
     refine RH.takeP 1 (by kernel_rfl) rfl rfl rfl rfl (V.ixA' hA54 kk54 Tryd.underlying22 Tryd.sizeOf3 rfl rfl ke54 kl54) ?_
     refine RH.takeP 2 (by kernel_rfl) rfl rfl rfl rfl (V.ldR0 Tryd.isAgg3 rfl (hm56.get 3 rfl).2 rfl) ?_
     refine dd [3] (by kernel_rfl) rfl rfl ?_
     obtain ⟨z57, e57, hM⟩ := bindE hM
     refine RH.cutH 4 (by kernel_rfl) hm56 0 rfl e57 rfl rfl rfl Tryd.underlying22 Tryd.sizeOf3 rfl rfl rfl rfl rfl ?_
     intro A57 c57 hm57
     refine dd [5, 6] (by kernel_rfl) rfl rfl ?_
     refine RH.doneP (by kernel_rfl) ?_
     exact hk4 (z57, z54, A57, c57) _ _ (sb ⟨rfl, rfl, rfl, rfl, rfl, rfl, rfl, trivial⟩) (hm57.pick [0, 1, 2, 4] rfl (by decide)) hM
    ·refine gg 1 rfl ?_
     have hm59 := hm27.dup 0 rfl (fun _ h => h)
     exact hk4 (y9, 0, A10, c10) _ _ (sb ⟨rfl, rfl, rfl, rfl, rfl, rfl, rfl, trivial⟩) (hm59.pick [0, 1, 2, 3] rfl (by decide)) hM
   intro hk3
   clear hj3
   refine Rn.drawP rfl hm25 ?_
   intro w61 hm61
   refine dd [0] (by kernel_rfl) rfl rfl ?_
   refine RH.takeP 1 (by kernel_rfl) rfl rfl rfl rfl (V.lenV Tryd.underlying22 rfl) ?_
   refine dd [2, 3] (by kernel_rfl) rfl rfl ?_
   refine askD hM (RH.partD (t := 39) rfl) (fun h62 hM => ?_) (fun h62 hM => ?_)
   ·refine dd [4] (by kernel_rfl) rfl rfl ?_
    refine RH.takeP 5 (by kernel_rfl) rfl rfl rfl rfl (V.lenV Tryd.underlying22 rfl) ?_
    refine dd [6, 7] (by kernel_rfl) rfl rfl ?_
    refine askD hM (RH.partD (t := 43) rfl) (fun h63 hM => ?_) (fun h63 hM => ?_)
    ·refine dd [8, 9, 10, 11, 12, 13, 14, 15, 16, 17] (by kernel_rfl) rfl rfl ?_
     refine RH.doneP (by kernel_rfl) ?_
     exact hk3 true _ _ (sb ⟨rfl, rfl, rfl, rfl, rfl, rfl, trivial⟩) (hm61.pick [0, 1, 2] rfl (by decide)) hM
    ·refine dd [8] (by kernel_rfl) rfl rfl ?_
     obtain ⟨z64, e64, hM⟩ := bindE hM
     obtain ⟨kk64, ke64, kz64, kl64⟩ := idxE e64
     obtain ⟨b64, o64, vs64, hA64, hD64, hR64, hrel64⟩ := Hp.at hm61 1 rfl kz64
     obtain ⟨rfl, _⟩ := hrel64
     have hm66 := Hp.knowL [rdR b64 (o64 + kk64 * 1) [iv z64]] _ hm61 (knC (fun _ h => h) ⟨fun _ => hD64, hR64⟩ kn0)
     refine RH.takeP 9 (by kernel_rfl) rfl rfl rfl rfl (V.ixA' hA64 kk64 Tryd.underlying22 Tryd.sizeOf3 rfl rfl ke64 kl64) ?_
     refine RH.takeP 10 (by kernel_rfl) rfl rfl rfl rfl (V.ldR0 Tryd.isAgg3 rfl (hm66.get 3 rfl).2 rfl) ?_
     refine dd [11] (by kernel_rfl) rfl rfl ?_
     obtain ⟨z67, e67, hM⟩ := bindE hM
     obtain ⟨kk67, ke67, kz67, kl67⟩ := idxE e67
     obtain ⟨b67, o67, vs67, hA67, hD67, hR67, hrel67⟩ := Hp.at hm66 0 rfl kz67
     obtain ⟨rfl, _⟩ := hrel67
     have hm69 := Hp.knowL [rdR b67 (o67 + kk67 * 1) [iv z67]] _ hm66 (knC (fun _ h => h) ⟨fun _ => hD67, hR67⟩ kn0)
     refine RH.takeP 12 (by kernel_rfl) rfl rfl rfl rfl (V.ixA' hA67 kk67 Tryd.underlying22 Tryd.sizeOf3 rfl rfl ke67 kl67) ?_
     refine RH.takeP 13 (by kernel_rfl) rfl rfl rfl rfl (V.ldR0 Tryd.isAgg3 rfl (hm69.get 4 rfl).2 rfl) ?_
     refine dd [14, 15, 16, 17] (by kernel_rfl) rfl rfl ?_
     refine RH.doneP (by kernel_rfl) ?_
     exact hk3 (decide (z64 ≤ z67)) _ _ (sb ⟨rfl, rfl, rfl, rfl, rfl, rfl, trivial⟩) (hm69.pick [0, 1, 2] rfl (by decide)) hM
   ·refine dd [4, 5, 6, 7, 8, 9, 10, 11, 12, 13, 14, 15, 16, 17] (by kernel_rfl) rfl rfl ?_
    refine RH.doneP (by kernel_rfl) ?_
    exact hk3 false _ _ (sb ⟨rfl, rfl, rfl, rfl, rfl, rfl, trivial⟩) (hm61.pick [0, 1, 2] rfl (by decide)) hM
  intro hk2
  clear hj2
  refine Rn.drawP rfl hm20 ?_
  intro w70 hm70
  refine dd [0] (by kernel_rfl) rfl rfl ?_
  refine RH.takeP 1 (by kernel_rfl) rfl rfl rfl rfl (V.lenV Tryd.underlying22 rfl) ?_
  refine dd [2, 3] (by kernel_rfl) rfl rfl ?_
  refine askD hM (RH.partD (t := 22) rfl) (fun h71 hM => ?_) (fun h71 hM => ?_)
  ·refine dd [4] (by kernel_rfl) rfl rfl ?_
   refine RH.takeP 5 (by kernel_rfl) rfl rfl rfl rfl (V.lenV Tryd.underlying22 rfl) ?_
   refine dd [6, 7] (by kernel_rfl) rfl rfl ?_
   refine askD hM (RH.partD (t := 26) rfl) (fun h72 hM => ?_) (fun h72 hM => ?_)
   ·refine dd [8, 9, 10, 11, 12, 13, 14, 15, 16, 17] (by kernel_rfl) rfl rfl ?_
    refine RH.doneP (by kernel_rfl) ?_
    exact hk2 true _ _ (sb ⟨rfl, rfl, rfl, rfl, rfl, trivial⟩) (hm70.pick [0, 1, 2] rfl (by decide)) hM
   ·refine dd [8] (by kernel_rfl) rfl rfl ?_
    obtain ⟨z73, e73, hM⟩ := bindE hM
    obtain ⟨kk73, ke73, kz73, kl73⟩ := idxE e73
    obtain ⟨b73, o73, vs73, hA73, hD73, hR73, hrel73⟩ := Hp.at hm70 0 rfl kz73
    obtain ⟨rfl, _⟩ := hrel73
    have hm75 := Hp.knowL [rdR b73 (o73 + kk73 * 1) [iv z73]] _ hm70 (knC (fun _ h => h) ⟨fun _ => hD73, hR73⟩ kn0)
    refine RH.takeP 9 (by kernel_rfl) rfl rfl rfl rfl (V.ixA' hA73 kk73 Tryd.underlying22 Tryd.sizeOf3 rfl rfl ke73 kl73) ?_
    refine RH.takeP 10 (by kernel_rfl) rfl rfl rfl rfl (V.ldR0 Tryd.isAgg3 rfl (hm75.get 3 rfl).2 rfl) ?_
    refine dd [11] (by kernel_rfl) rfl rfl ?_
    obtain ⟨z76, e76, hM⟩ := bindE hM
    obtain ⟨kk76, ke76, kz76, kl76⟩ := idxE e76
    obtain ⟨b76, o76, vs76, hA76, hD76, hR76, hrel76⟩ := Hp.at hm75 1 rfl kz76
    obtain ⟨rfl, _⟩ := hrel76
    have hm78 := Hp.knowL [rdR b76 (o76 + kk76 * 1) [iv z76]] _ hm75 (knC (fun _ h => h) ⟨fun _ => hD76, hR76⟩ kn0)
    refine RH.takeP 12 (by kernel_rfl) rfl rfl rfl rfl (V.ixA' hA76 kk76 Tryd.underlying22 Tryd.sizeOf3 rfl rfl ke76 kl76) ?_
    refine RH.takeP 13 (by kernel_rfl) rfl rfl rfl rfl (V.ldR0 Tryd.isAgg3 rfl (hm78.get 4 rfl).2 rfl) ?_
    refine dd [14, 15, 16, 17] (by kernel_rfl) rfl rfl ?_
    refine RH.doneP (by kernel_rfl) ?_
    exact hk2 (decide (z73 ≤ z76)) _ _ (sb ⟨rfl, rfl, rfl, rfl, rfl, trivial⟩) (hm78.pick [0, 1, 2] rfl (by decide)) hM
  ·refine dd [4, 5, 6, 7, 8, 9, 10, 11, 12, 13, 14, 15, 16, 17] (by kernel_rfl) rfl rfl ?_
   refine RH.doneP (by kernel_rfl) ?_
   exact hk2 false _ _ (sb ⟨rfl, rfl, rfl, rfl, rfl, trivial⟩) (hm70.pick [0, 1, 2] rfl (by decide)) hM
 ·refine gg 1 rfl ?_
  exact hk1 (y15, A16, c16) _ _ (sb ⟨rfl, trivial⟩) (hm20.pick [2] rfl (by decide)) hM

theorem m_index_Less_sim {Z0 : Nat → Prop} {w : World} {A0 : Option Addr} {c0 : Nat} {x0 : (List Int)} {A1 : Option Addr} {c1 : Nat} {x1 : (List Int)} {r : (List Int)} (hM : m_index_Less x0 x1 = some r) (f0 : (slR A0 c0 (intR .i64) x0).H Z0 w) (f1 : (slR A1 c1 (intR .i64) x1).H Z0 w) :
    Calls Tryd.prog 8 #[.slice A0 (x0).length c0, .slice A1 (x1).length c1] w fun x w' => ∃ A_0_0 c_0_0, x = .returned (.slice A_0_0 (r).length c_0_0) ∧ Hp Z0 No w w' [ownR 3 A_0_0 c_0_0 (intR .i64) r] := by
 have hm0 := Hp.nil Z0 No w
 have hc0 := Calm.nil
 have hm3 := hm0.know (slR A0 c0 (intR .i64) x0) (fun _ h => h) (hm0.in0 hc0 f0)
 replace hc0 := hc0.snoc (r := slR A0 c0 (intR .i64) x0) (fun _ h => h)
 have hm4 := hm3.know (slR A1 c1 (intR .i64) x1) (fun _ h => h) (hm3.in0 hc0 f1)
 replace hc0 := hc0.snoc (r := slR A1 c1 (intR .i64) x1) (fun _ h => h)
 refine Rn.enter Tryd.func8 rfl rfl (Nat.le_of_ble_eq_true rfl) ?_
 refine gg 8 rfl ?_
 obtain ⟨p5, e5, hM⟩ := bindE hM
 refine Rn.cl ck18 rfl rfl rfl rfl (m_index_merge_s2_sim (Z0 := All) e5 (slR_all (hm4.get 0 rfl)) (slR_all (hm4.get 1 rfl)) :) ?_
 rintro _ w5 ⟨A5_0_0, c5_0_0, rfl, hq5⟩
 refine ⟨_, rfl, ?_⟩
 have hm7 := hm4.callF (flC (ownR_flat (int_flat _) _ _ _ _) fl0) hq5
 refine gg 2 rfl ?_
 refine Rn.retG1 Tryd.func8 rfl (rvT rfl) ?_
 obtain rfl := someE hM
 exact ⟨A5_0_0, c5_0_0, rfl, hm7.pick [2] rfl (by decide)⟩

theorem m_index_Index_ask_sim {Z0 : Nat → Prop} {w : World} {F0 : Nat → Prop} {b0 : Nat} {x0 : T_index_Index} {x1 : T_api_Match} {F2 : Nat → Prop} {b2 : Nat} {x2 : T_glob_Glob} {r : (List Int)} (hM : m_index_Index_ask x0 x1 x2 = some r) (f0 : (fzR (T_index_Index.obj F0 b0 x0)).H Z0 w) (f1 : (fzR (T_glob_Glob.obj F2 b2 x2)).H Z0 w) :
    Calls Tryd.prog 26 #[pt b0 0, .agg [Str (x1.Key), Str (x1.Glob), .bool (x1.Not)].toArray, pt b2 0] w fun x w' => ∃ A_0_0 c_0_0, x = .returned (.slice A_0_0 (r).length c_0_0) ∧ Hp Z0 No w w' [ownR 3 A_0_0 c_0_0 (intR .i64) r] := by
 have hm0 := Hp.nil Z0 No w
 have hc0 := Calm.nil
 have hm3 := hm0.know (fzR (T_index_Index.obj F0 b0 x0)) (fun _ h => h) (hm0.in0 hc0 f0)
 replace hc0 := hc0.snoc (r := fzR (T_index_Index.obj F0 b0 x0)) (fun _ h => h)
 have hm4 := hm3.know (fzR (T_glob_Glob.obj F2 b2 x2)) (fun _ h => h) (hm3.in0 hc0 f1)
 replace hc0 := hc0.snoc (r := fzR (T_glob_Glob.obj F2 b2 x2)) (fun _ h => h)
 refine Rn.enter Tryd.func26 rfl rfl (Nat.le_of_ble_eq_true rfl) ?_
 refine gg 2 rfl (Rn.box rfl rfl rfl rfl rfl ?_)
 intro b5 w5 hb5 m5 e5
 have hm7 := (hm4.addBox hb5 e5 m5).nf [_, _, boxR _ _ [_, _, _]] rfl
 refine gg 12 rfl (Rn.q rfl (V.ldB Tryd.isAgg9 rfl (hm7.get 2 rfl) rfl) ?_)
 obtain ⟨p8, e8, hM⟩ := bindE hM
 refine Rn.cl ck38 rfl rfl rfl rfl (m_index_Index_Values_sim (Z0 := All) e8 (fz_fz (hm7.get 0 rfl)) :) ?_
 rintro _ w8 ⟨A8_0_0, c8_0_0, rfl, hq8⟩
 refine ⟨_, rfl, ?_⟩
 have hm10 := hm7.callF (flC (ownR_flat text_flat _ _ _ _) fl0) hq8
 refine Rn.q rfl (V.lenV Tryd.underlying28 rfl) (gg 2 rfl ?_)
 obtain ⟨j1, hj1, hM⟩ := jnE hM
 refine Rn.joinG (r := r) (G := (List Int) × (List Int) × Option Addr × Nat × Option Addr × Nat) (fun g => [(0, pt b0 0), (2, pt b2 0), (4, pt b5 0), (7, .slice (g.2.2.1) ((g.1)).length (g.2.2.2.1)), (8, .slice (g.2.2.2.2.1) ((g.2.1)).length (g.2.2.2.2.2))]) (fun g w' => Hp Z0 No w w' [fzR (T_index_Index.obj F0 b0 x0), fzR (T_glob_Glob.obj F2 b2 x2), boxR b5 40 [Str (x1.Key), Str (x1.Glob), .bool (x1.Not)], ownR 9 A8_0_0 c8_0_0 textR p8, ownR 3 (g.2.2.1) (g.2.2.2.1) (intR .i64) (g.1), ownR 3 (g.2.2.2.2.1) (g.2.2.2.2.2) (intR .i64) (g.2.1)]) (fun g => j1 g.1 g.2.1) ?_ ?_
 ·subst hj1
  clear hM
  rintro ⟨y11, y14, A12, c12, A15, c15⟩ w17 hm17 hM
  try dsimp only at hM
  refine gg 4 rfl ?_
  obtain ⟨p18, e18, hM⟩ := bindE hM
  refine Rn.cl ck39 rfl rfl rfl rfl (m_glob_Glob_Match_sim (Z0 := All) e18 (fz_fz (hm17.get 1 rfl)) :) ?_
  rintro _ w18 ⟨rfl, hq18⟩
  refine ⟨_, rfl, ?_⟩
  have hm19 := hm17.call0 hq18
  refine gg 1 rfl ?_
  obtain ⟨j2, hj2, hM⟩ := jnE hM
  refine Rn.joinG (r := r) (G := (List Int) × Option Addr × Nat) (fun g => [(0, pt b0 0), (4, pt b5 0), (7, .slice (g.2.1) ((g.1)).length (g.2.2))]) (fun g w' => Hp Z0 No w w' [fzR (T_index_Index.obj F0 b0 x0), boxR b5 40 [Str (x1.Key), Str (x1.Glob), .bool (x1.Not)], ownR 9 A8_0_0 c8_0_0 textR p8, ownR 3 A15 c15 (intR .i64) y14, ownR 3 (g.2.1) (g.2.2) (intR .i64) (g.1)]) (fun g => j2 g.1) ?_ ?_
  ·subst hj2
   clear hM
   rintro ⟨y20, A21, c21⟩ w23 hm23 hM
   try dsimp only at hM
   refine gg 4 rfl (Rn.q rfl (V.ldB Tryd.isAgg4 rfl (hm23.get 1 rfl) rfl) (gg 1 rfl ?_))
   refine askS hM (Rn.condS rfl) (fun h24 hM => ?_) (fun h24 hM => ?_)
   ·refine gg 3 rfl ?_
    obtain ⟨p25, e25, hM⟩ := bindE hM
    refine Rn.cl ck25 rfl rfl rfl rfl (m_index_Index_all_sim (Z0 := All) e25 (fz_fz (hm23.get 0 rfl)) :) ?_
    rintro _ w25 ⟨A25_0_0, c25_0_0, rfl, hq25⟩
    refine ⟨_, rfl, ?_⟩
    have hm27 := hm23.callF (flC (ownR_flat (int_flat _) _ _ _ _) fl0) hq25
    refine gg 1 rfl ?_
    obtain ⟨p28, e28, hM⟩ := bindE hM
    refine Rn.cl ck8 rfl rfl rfl rfl (m_index_Less_sim (Z0 := All) e28 (own_slR (hm27.get 5 rfl)) (own_slR (hm27.get 4 rfl)) :) ?_
    rintro _ w28 ⟨A28_0_0, c28_0_0, rfl, hq28⟩
    refine ⟨_, rfl, ?_⟩
    have hm30 := hm27.callF (flC (ownR_flat (int_flat _) _ _ _ _) fl0) hq28
    refine gg 2 rfl ?_
    refine Rn.retG1 Tryd.func26 rfl (rvT rfl) ?_
    obtain rfl := someE hM
    exact ⟨A28_0_0, c28_0_0, rfl, hm30.pick [6] rfl (by decide)⟩
   ·refine gg 6 rfl ?_
    refine Rn.retG1 Tryd.func26 rfl (rvT rfl) ?_
    obtain rfl := someE hM
    exact ⟨A21, c21, rfl, hm23.pick [4] rfl (by decide)⟩
  intro hk2
  clear hj2
  refine askS hM (Rn.condS rfl) (fun h31 hM => ?_) (fun h31 hM => ?_)
  ·refine gg 3 rfl ?_
   obtain ⟨p32, e32, hM⟩ := bindE hM
   refine Rn.cl ck25 rfl rfl rfl rfl (m_index_Index_all_sim (Z0 := All) e32 (fz_fz (hm19.get 0 rfl)) :) ?_
   rintro _ w32 ⟨A32_0_0, c32_0_0, rfl, hq32⟩
   refine ⟨_, rfl, ?_⟩
   have hm34 := hm19.callF (flC (ownR_flat (int_flat _) _ _ _ _) fl0) hq32
   refine gg 1 rfl ?_
   obtain ⟨p35, e35, hM⟩ := bindE hM
   refine Rn.cl ck8 rfl rfl rfl rfl (m_index_Less_sim (Z0 := All) e35 (own_slR (hm34.get 6 rfl)) (own_slR (hm34.get 5 rfl)) :) ?_
   rintro _ w35 ⟨A35_0_0, c35_0_0, rfl, hq35⟩
   refine ⟨_, rfl, ?_⟩
   have hm37 := hm34.callF (flC (ownR_flat (int_flat _) _ _ _ _) fl0) hq35
   obtain ⟨p38, e38, hM⟩ := bindE hM
   refine Rn.cl ck7 rfl rfl rfl rfl (m_index_Or_sim (Z0 := All) e38 (own_slR (hm37.get 4 rfl)) (own_slR (hm37.get 7 rfl)) :) ?_
   rintro _ w38 ⟨A38_0_0, c38_0_0, rfl, hq38⟩
   refine ⟨_, rfl, ?_⟩
   have hm40 := hm37.callF (flC (ownR_flat (int_flat _) _ _ _ _) fl0) hq38
   replace hm40 := hm40.nf [_, _, _, _, _, _, _, _, _] rfl
   refine gg 2 rfl ?_
   exact hk2 (p38, A38_0_0, c38_0_0) _ _ (sb ⟨rfl, rfl, rfl, trivial⟩) (hm40.pick [0, 2, 3, 5, 8] rfl (by decide)) hM
  ·refine gg 1 rfl ?_
   exact hk2 (y11, A12, c12) _ _ (sb ⟨rfl, rfl, rfl, trivial⟩) (hm19.pick [0, 2, 3, 5, 4] rfl (by decide)) hM
 intro hk1
 clear hj1
 refine gg 1 rfl ?_
 have hm48 := hm10.addNil 3 (intR .i64)
 have hm50 := hm48.addNil 3 (intR .i64)
 refine Rn.loopF (G := (List Int) × (List Int) × Int × Option Addr × Nat × Option Addr × Nat) (fun g => [(0, pt b0 0), (2, pt b2 0), (4, pt b5 0), (7, .slice (g.2.2.2.1) ((g.1)).length (g.2.2.2.2.1)), (8, .slice (g.2.2.2.2.2.1) ((g.2.1)).length (g.2.2.2.2.2.2)), (15, .slice A8_0_0 (p8).length c8_0_0), (16, iv (p8.length : Int)), (17, iv (g.2.2.1))]) (fun g w' => Hp Z0 No w w' [fzR (T_index_Index.obj F0 b0 x0), fzR (T_glob_Glob.obj F2 b2 x2), boxR b5 40 [Str (x1.Key), Str (x1.Glob), .bool (x1.Not)], ownR 9 A8_0_0 c8_0_0 textR p8, ownR 3 (g.2.2.2.1) (g.2.2.2.2.1) (intR .i64) (g.1), ownR 3 (g.2.2.2.2.2.1) (g.2.2.2.2.2.2) (intR .i64) (g.2.1)]) (fun n g => m_index_Index_ask_L1 x0 x1 x2 p8 j1 n g.1 g.2.1 g.2.2.1) fuel (([] : List Int), ([] : List Int), 0, none, 0, none, 0) (sb ⟨rfl, rfl, rfl, rfl, rfl, rfl, rfl, rfl, trivial⟩) (hm50.pick [0, 1, 2, 3, 4, 5] rfl (by decide)) hM (fun _ => rfl) ?_
 clear hM
 rintro m52 ⟨y41, y44, y47, A42, c42, A45, c45⟩ w52 hm52 hM hn52
 replace hM : m_index_Index_ask_L1 x0 x1 x2 p8 j1 (m52 + 1) y41 y44 y47 = some r := hM
 rw [m_index_Index_ask_L1] at hM
 refine gg 5 rfl ?_
 refine askD hM (Rn.condD rfl) (fun h53 hM => ?_) (fun h53 hM => ?_)
 ·refine gg 2 rfl ?_
  obtain ⟨j3, hj3, hM⟩ := jnE hM
  refine Rn.joinG (r := r) (G := (List Int) × (List Int) × Option Addr × Nat × Option Addr × Nat) (fun g => [(0, pt b0 0), (2, pt b2 0), (4, pt b5 0), (7, .slice (g.2.2.1) ((g.1)).length (g.2.2.2.1)), (8, .slice (g.2.2.2.2.1) ((g.2.1)).length (g.2.2.2.2.2)), (15, .slice A8_0_0 (p8).length c8_0_0), (16, iv (p8.length : Int)), (17, iv y47)]) (fun g w' => Hp Z0 No w w' [fzR (T_index_Index.obj F0 b0 x0), fzR (T_glob_Glob.obj F2 b2 x2), boxR b5 40 [Str (x1.Key), Str (x1.Glob), .bool (x1.Not)], ownR 9 A8_0_0 c8_0_0 textR p8, ownR 3 A45 c45 (intR .i64) y44, ownR 3 (g.2.2.1) (g.2.2.2.1) (intR .i64) (g.1), ownR 3 (g.2.2.2.2.1) (g.2.2.2.2.2) (intR .i64) (g.2.1)]) (fun g => j3 g.1 g.2.1) ?_ ?_
  ·subst hj3
   clear hM
   rintro ⟨y54, y57, A55, c55, A58, c58⟩ w60 hm60 hM
   try dsimp only at hM
   refine gg 4 rfl ?_
   exact hn52 (y54, y57, (W64 (y47 + 1)), A55, c55, A58, c58) _ _ (sb ⟨rfl, rfl, rfl, rfl, rfl, rfl, rfl, rfl, trivial⟩) (hm60.pick [0, 1, 2, 3, 5, 6] rfl (by decide)) hM
  intro hk3
  clear hj3
  refine gg 3 rfl ?_
  obtain ⟨z61, e61, hM⟩ := bindE hM
  obtain ⟨kk61, ke61, kz61, kl61⟩ := idxE e61
  obtain ⟨g61, vs61, hA61, hR61, hrel61⟩ := hm52.ownAt 3 rfl kz61
  subst hA61
  obtain ⟨rfl, _⟩ := hrel61
  refine Rn.q rfl (V.ixE kk61 Tryd.underlying28 Tryd.sizeOf9 rfl rfl ke61 kl61) (Rn.q rfl (V.ldR0 Tryd.isAgg9 rfl hR61 rfl) (gg 3 rfl ?_))
  obtain ⟨_, ⟨A63_0, c63_0, F63_1, m63_1, rfl⟩, hm63⟩ := hm52.unfz 0 rfl
  replace hm63 := hm63.nf [_, _, _, _, _, _, _, _, _] rfl
  have hm68 := hm63.fzSl 7 rfl
  refine Rn.drawP rfl hm68 ?_
  intro w62 hm62
  refine dd [0, 1, 2] (by kernel_rfl) rfl rfl ?_
  refine RH.takeP 3 (by kernel_rfl) rfl rfl rfl rfl (V.ldB Tryd.isAgg48 rfl (hm62.getz 6 rfl) rfl) ?_
  refine dd [4] (by kernel_rfl) rfl rfl ?_
  refine RH.takeP 5 (by kernel_rfl) rfl rfl rfl rfl (V.ldB Tryd.isAgg9 rfl (hm62.get 2 rfl) rfl) ?_
  refine dd [6] (by kernel_rfl) rfl rfl ?_
  refine RH.takeP 7 (by kernel_rfl) rfl rfl rfl rfl (V.bldS (cs := [_, _]) st64 rfl rfl) ?_
  obtain ⟨A69, c69, ms69, cl69, hl69, hv69, hm69⟩ := hm62.moReadZ 8 rfl ({ Key := x1.Key, Val := z61 } : T_api_Pair)
  replace hm69 := hm69.nf [_, _, _, _, _, _, _, _, _, _, _] rfl
  refine RH.takeP 8 (by kernel_rfl) rfl rfl rfl rfl (V.to (V.lkpK (key := ({ Key := x1.Key, Val := z61 } : T_api_Pair)) kk64 Tryd.underlying48 Tryd.zeroValue22 rfl rfl hl69) hv69) ?_
  refine dd [9] (by kernel_rfl) rfl rfl ?_
  refine RH.doneP (by kernel_rfl) ?_
  refine gg 4 rfl ?_
  obtain ⟨p71, e71, hM⟩ := bindE hM
  refine Rn.cl ck7 rfl rfl rfl rfl (m_index_Or_sim (Z0 := All) e71 (own_slR (hm69.get 5 rfl)) (slR_all (hm69.get 10 rfl)) :) ?_
  rintro _ w71 ⟨A71_0_0, c71_0_0, rfl, hq71⟩
  refine ⟨_, rfl, ?_⟩
  have hm73 := hm69.callF (flC (ownR_flat (int_flat _) _ _ _ _) fl0) hq71
  replace hm73 := hm73.nf [_, _, _, _, _, _, _, _, _, _, _, _] rfl
  refine gg 6 rfl ?_
  obtain ⟨p74, e74, hM⟩ := bindE hM
  refine Rn.cl ck39 rfl rfl rfl rfl (m_glob_Glob_Match_sim (Z0 := All) e74 (fz_fz (hm73.get 1 rfl)) :) ?_
  rintro _ w74 ⟨rfl, hq74⟩
  refine ⟨_, rfl, ?_⟩
  have hm75 := hm73.call0 hq74
  replace hm75 := hm75.nf [_, _, _, _, _, _, _, _, _, _, _, _] rfl
  refine gg 1 rfl ?_
  refine askS hM (Rn.condS rfl) (fun h76 hM => ?_) (fun h76 hM => ?_)
  ·refine gg 3 rfl ?_
   obtain ⟨p77, e77, hM⟩ := bindE hM
   refine Rn.cl ck7 rfl rfl rfl rfl (m_index_Or_sim (Z0 := All) e77 (own_slR (hm75.get 4 rfl)) (slR_all (hm75.get 10 rfl)) :) ?_
   rintro _ w77 ⟨A77_0_0, c77_0_0, rfl, hq77⟩
   refine ⟨_, rfl, ?_⟩
   have hm79 := hm75.callF (flC (ownR_flat (int_flat _) _ _ _ _) fl0) hq77
   replace hm79 := hm79.nf [_, _, _, _, _, _, _, _, _, _, _, _, _] rfl
   refine gg 3 rfl ?_
   exact hk3 (p77, p71, A77_0_0, c77_0_0, A71_0_0, c71_0_0) _ _ (sb ⟨rfl, rfl, rfl, rfl, rfl, rfl, rfl, rfl, trivial⟩) (hm79.pick [0, 1, 2, 3, 5, 12, 11] rfl (by decide)) hM
  ·refine gg 2 rfl ?_
   exact hk3 (y41, p71, A42, c42, A71_0_0, c71_0_0) _ _ (sb ⟨rfl, rfl, rfl, rfl, rfl, rfl, rfl, rfl, trivial⟩) (hm75.pick [0, 1, 2, 3, 5, 4, 11] rfl (by decide)) hM
 ·refine gg 1 rfl ?_
  exact hk1 (y41, y44, A42, c42, A45, c45) _ _ (sb ⟨rfl, rfl, rfl, rfl, rfl, trivial⟩) (hm52.pick [0, 1, 2, 3, 4, 5] rfl (by decide)) hM

theorem m_index_And_1_sim {Z0 : Nat → Prop} {w : World} {x0 : Bool} {x1 : Bool} {r : Bool} (hM : m_index_And_1 x0 x1 = some r)  :
    Calls Tryd.prog 19 #[.bool (x0), .bool (x1)] w fun x w' => x = .returned (.bool (r)) ∧ Hp Z0 No w w' [] := by
 have hm0 := Hp.nil Z0 No w
 have hc0 := Calm.nil
 refine Rn.enter Tryd.func19 rfl rfl (Nat.le_of_ble_eq_true rfl) ?_
 refine gg 8 rfl ?_
 refine Rn.cutR [4] [(8, .bool (decide ((x0 = true) ∧ (x1 = true))))] (fun hk1 => ?_) ?_
 ·refine Rn.part (t := 6) rfl (fun h2 => ?_) (fun h2 => ?_)
  ·refine gg 2 rfl ?_
   refine hk1 _ ?_
   exact Sub.cons (lkB rfl) (Sub.nil _)
  ·refine gg 2 rfl ?_
   refine hk1 _ ?_
   exact Sub.cons (lkB rfl) (Sub.nil _)
 refine gg 2 rfl ?_
 refine Rn.retG1 Tryd.func19 rfl (rvT rfl) ?_
 obtain rfl := someE hM
 exact ⟨rfl, hm0.pick [] rfl (by decide)⟩

theorem m_index_merge_s3_sim {Z0 : Nat → Prop} {w : World} {A0 : Option Addr} {c0 : Nat} {x0 : (List Int)} {A1 : Option Addr} {c1 : Nat} {x1 : (List Int)} {r : (List Int)} (hM : m_index_merge_s3 x0 x1 = some r) (f0 : (slR A0 c0 (intR .i64) x0).H Z0 w) (f1 : (slR A1 c1 (intR .i64) x1).H Z0 w) :
    Calls Tryd.prog 18 #[.slice A0 (x0).length c0, .slice A1 (x1).length c1, .func (.func 19) #[] [].toArray] w fun x w' => ∃ A_0_0 c_0_0, x = .returned (.slice A_0_0 (r).length c_0_0) ∧ Hp Z0 No w w' [ownR 3 A_0_0 c_0_0 (intR .i64) r] := by
 have hm0 := Hp.nil Z0 No w
 have hc0 := Calm.nil
 have hm3 := hm0.know (slR A0 c0 (intR .i64) x0) (fun _ h => h) (hm0.in0 hc0 f0)
 replace hc0 := hc0.snoc (r := slR A0 c0 (intR .i64) x0) (fun _ h => h)
 have hm4 := hm3.know (slR A1 c1 (intR .i64) x1) (fun _ h => h) (hm3.in0 hc0 f1)
 replace hc0 := hc0.snoc (r := slR A1 c1 (intR .i64) x1) (fun _ h => h)
 refine Rn.enter Tryd.func18 rfl rfl (Nat.le_of_ble_eq_true rfl) ?_
 refine gg 9 rfl ?_
 obtain ⟨j1, hj1, hM⟩ := jnE hM
 refine Rn.joinG (r := r) (G := (List Int) × Option Addr × Nat) (fun g => [(7, .slice (g.2.1) ((g.1)).length (g.2.2))]) (fun g w' => Hp Z0 No w w' [ownR 3 (g.2.1) (g.2.2) (intR .i64) (g.1)]) (fun g => j1 g.1) ?_ ?_
 ·subst hj1
  clear hM
  rintro ⟨y5, A6, c6⟩ w8 hm8 hM
  try dsimp only at hM
  refine gg 5 rfl ?_
  refine Rn.retG1 Tryd.func18 rfl (rvT rfl) ?_
  obtain rfl := someE hM
  exact ⟨A6, c6, rfl, hm8.pick [0] rfl (by decide)⟩
 intro hk1
 clear hj1
 refine gg 1 rfl ?_
 have hm18 := hm4.addNil 3 (intR .i64)
 refine Rn.loopF (G := (List Int) × (List Int) × (List Int) × Option Addr × Nat × Option Addr × Nat × Option Addr × Nat) (fun g => [(0, .slice (g.2.2.2.1) ((g.1)).length (g.2.2.2.2.1)), (1, .slice (g.2.2.2.2.2.1) ((g.2.1)).length (g.2.2.2.2.2.2.1)), (2, .func (.func 19) #[] [].toArray), (7, .slice (g.2.2.2.2.2.2.2.1) ((g.2.2.1)).length (g.2.2.2.2.2.2.2.2))]) (fun g w' => Hp Z0 No w w' [slR (g.2.2.2.1) (g.2.2.2.2.1) (intR .i64) (g.1), slR (g.2.2.2.2.2.1) (g.2.2.2.2.2.2.1) (intR .i64) (g.2.1), ownR 3 (g.2.2.2.2.2.2.2.1) (g.2.2.2.2.2.2.2.2) (intR .i64) (g.2.2.1)]) (fun n g => m_index_merge_s3_L1 j1 n g.1 g.2.1 g.2.2.1) fuel (x0, x1, ([] : List Int), A0, c0, A1, c1, none, 0) (sb ⟨rfl, rfl, rfl, rfl, trivial⟩) (hm18.pick [0, 1, 2] rfl (by decide)) hM (fun _ => rfl) ?_
 clear hM
 rintro m20 ⟨y9, y12, y15, A10, c10, A13, c13, A16, c16⟩ w20 hm20 hM hn20
 replace hM : m_index_merge_s3_L1 j1 (m20 + 1) y9 y12 y15 = some r := hM
 rw [m_index_merge_s3_L1] at hM
 refine gg 4 rfl (Rn.q rfl (V.lenV Tryd.underlying22 rfl) (gg 2 rfl ?_))
 refine Rn.cutR [] [(0, .slice A10 (y9).length c10), (1, .slice A13 (y12).length c13), (2, .func (.func 19) #[] [].toArray), (7, .slice A16 (y15).length c16), (18, .bool (decide (((y9.length : Int) > 0) ∨ ((y12.length : Int) > 0))))] (fun hk21 => ?_) ?_
 ·refine Rn.partD (t := 14) rfl (fun h22 => ?_) (fun h22 => ?_)
  ·refine gg 4 rfl ?_
   refine hk21 _ ?_
   exact Sub.cons rfl (Sub.cons rfl (Sub.cons rfl (Sub.cons rfl (Sub.cons (lkB rfl) (Sub.nil _)))))
  ·refine gg 1 rfl (Rn.q rfl (V.lenV Tryd.underlying22 rfl) (gg 2 rfl ?_))
   refine hk21 _ ?_
   exact Sub.cons rfl (Sub.cons rfl (Sub.cons rfl (Sub.cons rfl (Sub.cons (lkB rfl) (Sub.nil _)))))
 refine gg 1 rfl ?_
 refine askD hM (Rn.condD rfl) (fun h23 hM => ?_) (fun h23 hM => ?_)
 ·refine gg 3 rfl ?_
  obtain ⟨j2, hj2, hM⟩ := jnE hM
  refine Rn.joinG (r := r) (G := Bool) (fun g => [(0, .slice A10 (y9).length c10), (1, .slice A13 (y12).length c13), (2, .func (.func 19) #[] [].toArray), (7, .slice A16 (y15).length c16), (8, .bool (g))]) (fun g w' => Hp Z0 No w w' [slR A10 c10 (intR .i64) y9, slR A13 c13 (intR .i64) y12, ownR 3 A16 c16 (intR .i64) y15]) (fun g => j2 g) ?_ ?_
  ·subst hj2
   clear hM
   rintro y24 w25 hm25 hM
   try dsimp only at hM
   refine gg 1 rfl ?_
   obtain ⟨j3, hj3, hM⟩ := jnE hM
   refine Rn.joinG (r := r) (G := Bool) (fun g => [(0, .slice A10 (y9).length c10), (1, .slice A13 (y12).length c13), (2, .func (.func 19) #[] [].toArray), (7, .slice A16 (y15).length c16), (8, .bool (y24)), (9, .bool (g))]) (fun g w' => Hp Z0 No w w' [slR A10 c10 (intR .i64) y9, slR A13 c13 (intR .i64) y12, ownR 3 A16 c16 (intR .i64) y15]) (fun g => j3 g) ?_ ?_
   ·subst hj3
    clear hM
    rintro y26 w27 hm27 hM
    try dsimp only at hM
    refine gg 9 rfl ?_
    obtain ⟨j4, hj4, hM⟩ := jnE hM
    refine Rn.joinG (r := r) (G := (List Int) × Int × Option Addr × Nat) (fun g => [(0, .slice (g.2.2.1) ((g.1)).length (g.2.2.2)), (1, .slice A13 (y12).length c13), (2, .func (.func 19) #[] [].toArray), (7, .slice A16 (y15).length c16), (8, .bool (y24)), (9, .bool (y26)), (10, iv (g.2.1))]) (fun g w' => Hp Z0 No w w' [slR A10 c10 (intR .i64) y9, slR A13 c13 (intR .i64) y12, ownR 3 A16 c16 (intR .i64) y15, slR (g.2.2.1) (g.2.2.2) (intR .i64) (g.1)]) (fun g => j4 g.1 g.2.1) ?_ ?_
    ·subst hj4
     clear hM
     rintro ⟨y28, y31, A29, c29⟩ w32 hm32 hM
     try dsimp only at hM
     refine gg 5 rfl ?_
     obtain ⟨j5, hj5, hM⟩ := jnE hM
     refine Rn.joinG (r := r) (G := (List Int) × Int × Option Addr × Nat) (fun g => [(0, .slice A29 (y28).length c29), (1, .slice (g.2.2.1) ((g.1)).length (g.2.2.2)), (2, .func (.func 19) #[] [].toArray), (7, .slice A16 (y15).length c16), (8, .bool (y24)), (9, .bool (y26)), (10, iv (g.2.1))]) (fun g w' => Hp Z0 No w w' [slR A13 c13 (intR .i64) y12, ownR 3 A16 c16 (intR .i64) y15, slR A29 c29 (intR .i64) y28, slR (g.2.2.1) (g.2.2.2) (intR .i64) (g.1)]) (fun g => j5 g.1 g.2.1) ?_ ?_
     ·subst hj5
      clear hM
      rintro ⟨y33, y36, A34, c34⟩ w37 hm37 hM
      try dsimp only at hM
      refine gg 5 rfl ?_
      obtain ⟨p38, e38, hM⟩ := bindE hM
      refine Rn.clV ck19 rfl rfl rfl rfl rfl (m_index_And_1_sim (Z0 := All) e38  :) ?_
      rintro _ w38 ⟨rfl, hq38⟩
      refine ⟨_, rfl, ?_⟩
      have hm39 := hm37.call0 hq38
      refine gg 1 rfl ?_
      refine askS hM (Rn.condS rfl) (fun h40 hM => ?_) (fun h40 hM => ?_)
      ·refine gg 3 rfl ?_
       obtain ⟨z41, e41, hM⟩ := bindE hM
       refine Rn.pushH (z := y36) (vs := [iv y36]) hm39 1 rfl e41 rfl rfl rfl rfl Tryd.underlying22 el3 rfl rfl rfl rfl (fun _ => rfl) (⟨rfl, trivial⟩) ?_
       intro A41 c41 w41 u41 hm41
       refine gg 3 rfl ?_
       exact hn20 (y28, y33, z41, A29, c29, A34, c34, A41, c41) _ _ (sb ⟨rfl, rfl, rfl, rfl, trivial⟩) (hm41.pick [2, 3, 1] rfl (by decide)) hM
      ·refine gg 2 rfl ?_
       exact hn20 (y28, y33, y15, A29, c29, A34, c34, A16, c16) _ _ (sb ⟨rfl, rfl, rfl, rfl, trivial⟩) (hm39.pick [2, 3, 1] rfl (by decide)) hM
     intro hk5
     clear hj5
     refine askS hM (Rn.condS rfl) (fun h43 hM => ?_) (fun h43 hM => ?_)
     ·refine Rn.drawP rfl hm32 ?_
      intro w44 hm44
      refine dd [0] (by kernel_rfl) rfl rfl ?_
      obtain ⟨z45, e45, hM⟩ := bindE hM
      obtain ⟨kk45, ke45, kz45, kl45⟩ := idxE e45
      obtain ⟨b45, o45, vs45, hA45, hD45, hR45, hrel45⟩ := Hp.at hm44 1 rfl kz45
      obtain ⟨rfl, _⟩ := hrel45
      have hm47 := Hp.knowL [rdR b45 (o45 + kk45 * 1) [iv z45]] _ hm44 (knC (fun _ h => h) ⟨fun _ => hD45, hR45⟩ kn0)
      refine RH.takeP 1 (by kernel_rfl) rfl rfl rfl rfl (V.ixA' hA45 kk45 Tryd.underlying22 Tryd.sizeOf3 rfl rfl ke45 kl45) ?_
      refine RH.takeP 2 (by kernel_rfl) rfl rfl rfl rfl (V.ldR0 Tryd.isAgg3 rfl (hm47.get 4 rfl).2 rfl) ?_
      refine dd [3] (by kernel_rfl) rfl rfl ?_
      obtain ⟨z48, e48, hM⟩ := bindE hM
      refine RH.cutH 4 (by kernel_rfl) hm47 1 rfl e48 rfl rfl rfl Tryd.underlying22 Tryd.sizeOf3 rfl rfl rfl rfl rfl ?_
      intro A48 c48 hm48
      refine dd [5, 6] (by kernel_rfl) rfl rfl ?_
      refine RH.doneP (by kernel_rfl) ?_
      exact hk5 (z48, z45, A48, c48) _ _ (sb ⟨rfl, rfl, rfl, rfl, rfl, rfl, rfl, trivial⟩) (hm48.pick [1, 2, 3, 5] rfl (by decide)) hM
     ·refine gg 1 rfl ?_
      have hm50 := hm32.dup 1 rfl (fun _ h => h)
      exact hk5 (y12, y31, A13, c13) _ _ (sb ⟨rfl, rfl, rfl, rfl, rfl, rfl, rfl, trivial⟩) (hm50.pick [1, 2, 3, 4] rfl (by decide)) hM
    intro hk4
    clear hj4
    refine askS hM (Rn.condS rfl) (fun h52 hM => ?_) (fun h52 hM => ?_)
    ·refine Rn.drawP rfl hm27 ?_
     intro w53 hm53
     refine dd [0] (by kernel_rfl) rfl rfl ?_
     obtain ⟨z54, e54, hM⟩ := bindE hM
     obtain ⟨kk54, ke54, kz54, kl54⟩ := idxE e54
     obtain ⟨b54, o54, vs54, hA54, hD54, hR54, hrel54⟩ := Hp.at hm53 0 rfl kz54
     obtain ⟨rfl, _⟩ := hrel54
     have hm56 := Hp.knowL [rdR b54 (o54 + kk54 * 1) [iv z54]] _ hm53 (knC (fun _ h => h) ⟨fun _ => hD54, hR54⟩ kn0)
     refine RH.takeP 1 (by kernel_rfl) rfl rfl rfl rfl (V.ixA' hA54 kk54 Tryd.underlying22 Tryd.sizeOf3 rfl rfl ke54 kl54) ?_
     refine RH.takeP 2 (by kernel_rfl) rfl rfl rfl rfl (V.ldR0 Tryd.isAgg3 rfl (hm56.get 3 rfl).2 rfl) ?_
     refine dd [3] (by kernel_rfl) rfl rfl ?_
     obtain ⟨z57, e57, hM⟩ := bindE hM
     refine RH.cutH 4 (by kernel_rfl) hm56 0 rfl e57 rfl rfl rfl Tryd.underlying22 Tryd.sizeOf3 rfl rfl rfl rfl rfl ?_
     intro A57 c57 hm57
     refine dd [5, 6] (by kernel_rfl) rfl rfl ?_
     refine RH.doneP (by kernel_rfl) ?_
     exact hk4 (z57, z54, A57, c57) _ _ (sb ⟨rfl, rfl, rfl, rfl, rfl, rfl, rfl, trivial⟩) (hm57.pick [0, 1, 2, 4] rfl (by decide)) hM
    ·refine gg 1 rfl ?_
     have hm59 := hm27.dup 0 rfl (fun _ h => h)
     exact hk4 (y9, 0, A10, c10) _ _ (sb ⟨rfl, rfl, rfl, rfl, rfl, rfl, rfl, trivial⟩) (hm59.pick [0, 1, 2, 3] rfl (by decide)) hM
   intro hk3
   clear hj3
   refine Rn.drawP rfl hm25 ?_
   intro w61 hm61
   refine dd [0] (by kernel_rfl) rfl rfl ?_
   refine RH.takeP 1 (by kernel_rfl) rfl rfl rfl rfl (V.lenV Tryd.underlying22 rfl) ?_
   refine dd [2, 3] (by kernel_rfl) rfl rfl ?_
   refine askD hM (RH.partD (t := 39) rfl) (fun h62 hM => ?_) (fun h62 hM => ?_)
   ·refine dd [4] (by kernel_rfl) rfl rfl ?_
    refine RH.takeP 5 (by kernel_rfl) rfl rfl rfl rfl (V.lenV Tryd.underlying22 rfl) ?_
    refine dd [6, 7] (by kernel_rfl) rfl rfl ?_
    refine askD hM (RH.partD (t := 43) rfl) (fun h63 hM => ?_) (fun h63 hM => ?_)
    ·refine dd [8, 9, 10, 11, 12, 13, 14, 15, 16, 17] (by kernel_rfl) rfl rfl ?_
     refine RH.doneP (by kernel_rfl) ?_
     exact hk3 true _ _ (sb ⟨rfl, rfl, rfl, rfl, rfl, rfl, trivial⟩) (hm61.pick [0, 1, 2] rfl (by decide)) hM
    ·refine dd [8] (by kernel_rfl) rfl rfl ?_
     obtain ⟨z64, e64, hM⟩ := bindE hM
     obtain ⟨kk64, ke64, kz64, kl64⟩ := idxE e64
     obtain ⟨b64, o64, vs64, hA64, hD64, hR64, hrel64⟩ := Hp.at hm61 1 rfl kz64
     obtain ⟨rfl, _⟩ := hrel64
     have hm66 := Hp.knowL [rdR b64 (o64 + kk64 * 1) [iv z64]] _ hm61 (knC (fun _ h => h) ⟨fun _ => hD64, hR64⟩ kn0)
     refine RH.takeP 9 (by kernel_rfl) rfl rfl rfl rfl (V.ixA' hA64 kk64 Tryd.underlying22 Tryd.sizeOf3 rfl rfl ke64 kl64) ?_
     refine RH.takeP 10 (by kernel_rfl) rfl rfl rfl rfl (V.ldR0 Tryd.isAgg3 rfl (hm66.get 3 rfl).2 rfl) ?_
     refine dd [11] (by kernel_rfl) rfl rfl ?_
     obtain ⟨z67, e67, hM⟩ := bindE hM
     obtain ⟨kk67, ke67, kz67, kl67⟩ := idxE e67
     obtain ⟨b67, o67, vs67, hA67, hD67, hR67, hrel67⟩ := Hp.at hm66 0 rfl kz67
     obtain ⟨rfl, _⟩ := hrel67
     have hm69 := Hp.knowL [rdR b67 (o67 + kk67 * 1) [iv z67]] _ hm66 (knC (fun _ h => h) ⟨fun _ => hD67, hR67⟩ kn0)
     refine RH.takeP 12 (by kernel_rfl) rfl rfl rfl rfl (V.ixA' hA67 kk67 Tryd.underlying22 Tryd.sizeOf3 rfl rfl ke67 kl67) ?_
     refine RH.takeP 13 (by kernel_rfl) rfl rfl rfl rfl (V.ldR0 Tryd.isAgg3 rfl (hm69.get 4 rfl).2 rfl) ?_
     refine dd [14, 15, 16, 17] (by kernel_rfl) rfl rfl ?_
     refine RH.doneP (by kernel_rfl) ?_
     exact hk3 (decide (z64 ≤ z67)) _ _ (sb ⟨rfl, rfl, rfl, rfl, rfl, rfl, trivial⟩) (hm69.pick [0, 1, 2] rfl (by decide)) hM
   ·refine dd [4, 5, 6, 7, 8, 9, 10, 11, 12, 13, 14, 15, 16, 17] (by kernel_rfl) rfl rfl ?_
    refine RH.doneP (by kernel_rfl) ?_
    exact hk3 false _ _ (sb ⟨rfl, rfl, rfl, rfl, rfl, rfl, trivial⟩) (hm61.pick [0, 1, 2] rfl (by decide)) hM
  intro hk2
  clear hj2
  refine Rn.drawP rfl hm20 ?_
  intro w70 hm70
  refine dd [0] (by kernel_rfl) rfl rfl ?_
  refine RH.takeP 1 (by kernel_rfl) rfl rfl rfl rfl (V.lenV Tryd.underlying22 rfl) ?_
  refine dd [2, 3] (by kernel_rfl) rfl rfl ?_
  refine askD hM (RH.partD (t := 22) rfl) (fun h71 hM => ?_) (fun h71 hM => ?_)
  ·refine dd [4] (by kernel_rfl) rfl rfl ?_
   refine RH.takeP 5 (by kernel_rfl) rfl rfl rfl rfl (V.lenV Tryd.underlying22 rfl) ?_
   refine dd [6, 7] (by kernel_rfl) rfl rfl ?_
   refine askD hM (RH.partD (t := 26) rfl) (fun h72 hM => ?_) (fun h72 hM => ?_)
   ·refine dd [8, 9, 10, 11, 12, 13, 14, 15, 16, 17] (by kernel_rfl) rfl rfl ?_
    refine RH.doneP (by kernel_rfl) ?_
    exact hk2 true _ _ (sb ⟨rfl, rfl, rfl, rfl, rfl, trivial⟩) (hm70.pick [0, 1, 2] rfl (by decide)) hM
   ·refine dd [8] (by kernel_rfl) rfl rfl ?_
    obtain ⟨z73, e73, hM⟩ := bindE hM
    obtain ⟨kk73, ke73, kz73, kl73⟩ := idxE e73
    obtain ⟨b73, o73, vs73, hA73, hD73, hR73, hrel73⟩ := Hp.at hm70 0 rfl kz73
    obtain ⟨rfl, _⟩ := hrel73
    have hm75 := Hp.knowL [rdR b73 (o73 + kk73 * 1) [iv z73]] _ hm70 (knC (fun _ h => h) ⟨fun _ => hD73, hR73⟩ kn0)
    refine RH.takeP 9 (by kernel_rfl) rfl rfl rfl rfl (V.ixA' hA73 kk73 Tryd.underlying22 Tryd.sizeOf3 rfl rfl ke73 kl73) ?_
    refine RH.takeP 10 (by kernel_rfl) rfl rfl rfl rfl (V.ldR0 Tryd.isAgg3 rfl (hm75.get 3 rfl).2 rfl) ?_
    refine dd [11] (by kernel_rfl) rfl rfl ?_
    obtain ⟨z76, e76, hM⟩ := bindE hM
    obtain ⟨kk76, ke76, kz76, kl76⟩ := idxE e76
    obtain ⟨b76, o76, vs76, hA76, hD76, hR76, hrel76⟩ := Hp.at hm75 1 rfl kz76
    obtain ⟨rfl, _⟩ := hrel76
    have hm78 := Hp.knowL [rdR b76 (o76 + kk76 * 1) [iv z76]] _ hm75 (knC (fun _ h => h) ⟨fun _ => hD76, hR76⟩ kn0)
    refine RH.takeP 12 (by kernel_rfl) rfl rfl rfl rfl (V.ixA' hA76 kk76 Tryd.underlying22 Tryd.sizeOf3 rfl rfl ke76 kl76) ?_
    refine RH.takeP 13 (by kernel_rfl) rfl rfl rfl rfl (V.ldR0 Tryd.isAgg3 rfl (hm78.get 4 rfl).2 rfl) ?_
    refine dd [14, 15, 16, 17] (by kernel_rfl) rfl rfl ?_
    refine RH.doneP (by kernel_rfl) ?_
    exact hk2 (decide (z73 ≤ z76)) _ _ (sb ⟨rfl, rfl, rfl, rfl, rfl, trivial⟩) (hm78.pick [0, 1, 2] rfl (by decide)) hM
  ·refine dd [4, 5, 6, 7, 8, 9, 10, 11, 12, 13, 14, 15, 16, 17] (by kernel_rfl) rfl rfl ?_
   refine RH.doneP (by kernel_rfl) ?_
   exact hk2 false _ _ (sb ⟨rfl, rfl, rfl, rfl, rfl, trivial⟩) (hm70.pick [0, 1, 2] rfl (by decide)) hM
 ·refine gg 1 rfl ?_
  exact hk1 (y15, A16, c16) _ _ (sb ⟨rfl, trivial⟩) (hm20.pick [2] rfl (by decide)) hM

theorem m_index_And_sim {Z0 : Nat → Prop} {w : World} {A0 : Option Addr} {c0 : Nat} {x0 : (List Int)} {A1 : Option Addr} {c1 : Nat} {x1 : (List Int)} {r : (List Int)} (hM : m_index_And x0 x1 = some r) (f0 : (slR A0 c0 (intR .i64) x0).H Z0 w) (f1 : (slR A1 c1 (intR .i64) x1).H Z0 w) :
    Calls Tryd.prog 6 #[.slice A0 (x0).length c0, .slice A1 (x1).length c1] w fun x w' => ∃ A_0_0 c_0_0, x = .returned (.slice A_0_0 (r).length c_0_0) ∧ Hp Z0 No w w' [ownR 3 A_0_0 c_0_0 (intR .i64) r] := by
 have hm0 := Hp.nil Z0 No w
 have hc0 := Calm.nil
 have hm3 := hm0.know (slR A0 c0 (intR .i64) x0) (fun _ h => h) (hm0.in0 hc0 f0)
 replace hc0 := hc0.snoc (r := slR A0 c0 (intR .i64) x0) (fun _ h => h)
 have hm4 := hm3.know (slR A1 c1 (intR .i64) x1) (fun _ h => h) (hm3.in0 hc0 f1)
 replace hc0 := hc0.snoc (r := slR A1 c1 (intR .i64) x1) (fun _ h => h)
 refine Rn.enter Tryd.func6 rfl rfl (Nat.le_of_ble_eq_true rfl) ?_
 refine gg 8 rfl ?_
 obtain ⟨p5, e5, hM⟩ := bindE hM
 refine Rn.cl ck18 rfl rfl rfl rfl (m_index_merge_s3_sim (Z0 := All) e5 (slR_all (hm4.get 0 rfl)) (slR_all (hm4.get 1 rfl)) :) ?_
 rintro _ w5 ⟨A5_0_0, c5_0_0, rfl, hq5⟩
 refine ⟨_, rfl, ?_⟩
 have hm7 := hm4.callF (flC (ownR_flat (int_flat _) _ _ _ _) fl0) hq5
 refine gg 2 rfl ?_
 refine Rn.retG1 Tryd.func6 rfl (rvT rfl) ?_
 obtain rfl := someE hM
 exact ⟨A5_0_0, c5_0_0, rfl, hm7.pick [2] rfl (by decide)⟩

theorem m_index_Index_Select_sim {Z0 : Nat → Prop} {w : World} {F0 : Nat → Prop} {b0 : Nat} {x0 : T_index_Index} {A1 : Option Addr} {c1 : Nat} {x1 : (List T_api_Match)} {r : ((List Int) × Int × Int)} (hM : m_index_Index_Select x0 x1 = some r) (f0 : (fzR (T_index_Index.obj F0 b0 x0)).H Z0 w) (f1 : (slR A1 c1 T_api_Match.rep x1).H Z0 w) (f2 : (rdR 0 0 gl0).H Z0 w) :
    Calls Tryd.prog 14 #[pt b0 0, .slice A1 (x1).length c1] w fun x w' => ∃ A_0_0 c_0_0, x = .returned (.tuple #[.slice A_0_0 (r.1).length c_0_0, iv r.2.1, iv r.2.2]) ∧ Hp Z0 No w w' [ownR 3 A_0_0 c_0_0 (intR .i64) r.1] := by
 have hm0 := Hp.nil Z0 No w
 have hc0 := Calm.nil
 have hm4 := hm0.know (fzR (T_index_Index.obj F0 b0 x0)) (fun _ h => h) (hm0.in0 hc0 f0)
 replace hc0 := hc0.snoc (r := fzR (T_index_Index.obj F0 b0 x0)) (fun _ h => h)
 have hm5 := hm4.know (slR A1 c1 T_api_Match.rep x1) (fun _ h => h) (hm4.in0 hc0 f1)
 replace hc0 := hc0.snoc (r := slR A1 c1 T_api_Match.rep x1) (fun _ h => h)
 have hm6 := hm5.know (rdR 0 0 gl0) (fun _ h => h) (hm5.in0 hc0 f2)
 replace hc0 := hc0.snoc (r := rdR 0 0 gl0) (fun _ h => h)
 refine Rn.enter Tryd.func14 rfl rfl (Nat.le_of_ble_eq_true rfl) ?_
 refine gg 14 rfl (Rn.q rfl (V.lenV Tryd.underlying29 rfl) (gg 2 rfl ?_))
 obtain ⟨j1, hj1, hM⟩ := jnE hM
 refine Rn.joinG (r := r) (G := (List T_glob_Glob) × (Nat → Prop) × Option Addr × Nat) (fun g => [(0, pt b0 0), (1, .slice A1 (x1).length c1), (7, .slice (g.2.2.1) ((g.1)).length (g.2.2.2))]) (fun g w' => Hp Z0 No w w' [fzR (T_index_Index.obj F0 b0 x0), slR A1 c1 T_api_Match.rep x1, rdR 0 0 gl0, plR (g.2.1) 66 (g.2.2.1) (g.2.2.2) T_glob_Glob.obj (g.1)]) (fun g => j1 g.1) ?_ ?_
 ·subst hj1
  clear hM
  rintro ⟨y7, F8, A8, c8⟩ w10 hm10 hM
  try dsimp only at hM
  refine gg 3 rfl ?_
  obtain ⟨p11, e11, hM⟩ := bindE hM
  refine Rn.cl ck25 rfl rfl rfl rfl (m_index_Index_all_sim (Z0 := All) e11 (fz_fz (hm10.get 0 rfl)) :) ?_
  rintro _ w11 ⟨A11_0_0, c11_0_0, rfl, hq11⟩
  refine ⟨_, rfl, ?_⟩
  have hm13 := hm10.callF (flC (ownR_flat (int_flat _) _ _ _ _) fl0) hq11
  refine gg 6 rfl (Rn.q rfl (V.lenV Tryd.underlying29 rfl) (gg 2 rfl ?_))
  obtain ⟨j2, hj2, hM⟩ := jnE hM
  refine Rn.joinG (r := r) (G := (List Int) × Option Addr × Nat) (fun g => [(13, .slice (g.2.1) ((g.1)).length (g.2.2))]) (fun g w' => Hp Z0 No w w' [rdR 0 0 gl0, ownR 3 (g.2.1) (g.2.2) (intR .i64) (g.1)]) (fun g => j2 g.1) ?_ ?_
  ·subst hj2
   clear hM
   rintro ⟨y14, A15, c15⟩ w17 hm17 hM
   try dsimp only at hM
   refine gg 7 rfl ?_
   refine Rn.retG3 Tryd.func14 rfl (rvT rfl) (rvT rfl) (rvT rfl) ?_
   obtain rfl := someE hM
   exact ⟨A15, c15, rfl, hm17.pick [1] rfl (by decide)⟩
  intro hk2
  clear hj2
  refine gg 1 rfl ?_
  have hm19 := hm13.frz 3 rfl
  replace hm19 := hm19.nf [_, _, _, _, _] rfl
  refine Rn.loopF (G := (List Int) × Int × Option Addr × Nat) (fun g => [(0, pt b0 0), (7, .slice A8 (y7).length c8), (13, .slice (g.2.2.1) ((g.1)).length (g.2.2.2)), (54, .slice A1 (x1).length c1), (55, iv (x1.length : Int)), (56, iv (g.2.1))]) (fun g w' => Hp Z0 No w w' [fzR (T_index_Index.obj F0 b0 x0), slR A1 c1 T_api_Match.rep x1, rdR 0 0 gl0, fzR (plR F8 66 A8 c8 T_glob_Glob.obj y7), ownR 3 (g.2.2.1) (g.2.2.2) (intR .i64) (g.1)]) (fun n g => m_index_Index_Select_L1 x0 x1 y7 j2 n g.1 g.2.1) fuel (p11, 0, A11_0_0, c11_0_0) (sb ⟨rfl, rfl, rfl, rfl, rfl, rfl, trivial⟩) (hm19.pick [0, 1, 2, 3, 4] rfl (by decide)) hM (fun _ => rfl) ?_
  clear hM
  rintro m24 ⟨y20, y23, A21, c21⟩ w24 hm24 hM hn24
  replace hM : m_index_Index_Select_L1 x0 x1 y7 j2 (m24 + 1) y20 y23 = some r := hM
  rw [m_index_Index_Select_L1] at hM
  refine gg 5 rfl ?_
  refine askD hM (Rn.condD rfl) (fun h25 hM => ?_) (fun h25 hM => ?_)
  ·refine gg 6 rfl ?_
   obtain ⟨z26, e26, hM⟩ := bindE hM
   refine Rn.ixH hm24 1 rfl e26 rfl rfl rfl Tryd.underlying29 Tryd.sizeOf40 rfl rfl rfl rfl ?_
   rintro b26 o26 vs26 hr26 hm26
   obtain rfl := T_api_Match.relE hr26
   refine Rn.q rfl (V.ldA (vs := [_, _, _]) Tryd.isAgg40 Tryd.sizeOf40 rfl (Rd.pre (hm26.get 5 rfl).2 3) rfl) (Rn.alloc rfl rfl rfl Tryd.zeroValue40 rfl ?_)
   intro b28 w28 hb28 m28 e28
   have hm30 := (hm26.addBox hb28 e28 m28).nf [_, _, _, _, _, _, boxR _ _ [_, _, _]] rfl
   refine gg 1 rfl (Rn.st rfl rfl Tryd.sizeOf40 rfl rfl rfl rfl (by first | exact ones rfl | (simp [Value.oneCell']; done)) (hm30.get 6 rfl) (by first | exact Nat.le_of_ble_eq_true rfl | (simp; done)) ?_)
   intro w31 m31 x31
   have hm32 := (hm30.st 6 rfl x31 m31).nf [_, _, _, _, _, _, boxR _ _ [_, _, _]] rfl
   refine gg 1 rfl ?_
   refine Rn.drawH rfl hm32 ?_
   intro w33 hm33
   refine dd [0, 1] (by kernel_rfl) rfl rfl ?_
   refine RH.take 2 (by kernel_rfl) rfl rfl rfl rfl (fun w' hDr => V.ldBA [_, _, _] Tryd.isAgg40 Tryd.sizeOf40 rfl ((hm33.ext hDr).get 6 rfl) rfl rfl) ?_
   refine dd [3, 4] (by kernel_rfl) rfl rfl ?_
   obtain ⟨z34, e34, hM⟩ := bindE hM
   obtain ⟨kk34, ke34, kz34, kl34⟩ := idxE e34
   obtain ⟨g34, o34, F34, b34, hA34, hm34⟩ := hm33.plAt 3 rfl kz34
   replace hm34 := hm34.nf [_, _, _, _, _, _, _, _, _] rfl
   refine RH.here fun hS5 => RH.one 5 (by kernel_rfl) rfl rfl rfl rfl (V.ixA' hA34 kk34 Tryd.underlying65 Tryd.sizeOf66 rfl rfl ke34 kl34) hS5 ?_
   refine RH.here fun hS6 => RH.one 6 (by kernel_rfl) rfl rfl rfl rfl (V.ldR0 Tryd.isAgg66 rfl (hm34.get 8 rfl).2 rfl) hS6 ?_
   obtain ⟨p37, e37, hM⟩ := bindE hM
   refine RH.cl ck26 7 (by kernel_rfl) rfl rfl rfl rfl (m_index_Index_ask_sim (Z0 := All) e37 (fz_fz (hm34.get 0 rfl)) (fz_fz (hm34.get 7 rfl)) :) ?_
   rintro _ w37 ⟨A37_0_0, c37_0_0, rfl, hq37⟩
   refine ⟨_, rfl, ((Ext.refl _).trans hq37.fr), ?_⟩
   have hm39 := hm34.callF (flC (ownR_flat (int_flat _) _ _ _ _) fl0) hq37
   obtain ⟨p40, e40, hM⟩ := bindE hM
   refine RH.cl ck6 8 (by kernel_rfl) rfl rfl rfl rfl (m_index_And_sim (Z0 := All) e40 (own_slR (hm39.get 4 rfl)) (own_slR (hm39.get 9 rfl)) :) ?_
   rintro _ w40 ⟨A40_0_0, c40_0_0, rfl, hq40⟩
   refine ⟨_, rfl, (((Ext.refl _).trans hq37.fr).trans hq40.fr), ?_⟩
   have hm42 := hm39.callF (flC (ownR_flat (int_flat _) _ _ _ _) fl0) hq40
   refine dd [9] (by kernel_rfl) rfl rfl ?_
   refine RH.doneP (by kernel_rfl) ?_
   refine gg 5 rfl ?_
   exact hn24 (p40, (W64 (y23 + 1)), A40_0_0, c40_0_0) _ _ (sb ⟨rfl, rfl, rfl, rfl, rfl, rfl, trivial⟩) (hm42.pick [0, 1, 2, 3, 10] rfl (by decide)) hM
  ·refine gg 1 rfl ?_
   exact hk2 (y20, A21, c21) _ _ (sb ⟨rfl, trivial⟩) (hm24.pick [2, 4] rfl (by decide)) hM
 intro hk1
 clear hj1
 refine gg 1 rfl ?_
 obtain ⟨F47, hm47⟩ := hm6.plNil 66 T_glob_Glob.obj
 replace hm47 := hm47.nf [_, _, _, _] rfl
 refine Rn.loopF (G := (List T_glob_Glob) × Int × (Nat → Prop) × Option Addr × Nat) (fun g => [(0, pt b0 0), (1, .slice A1 (x1).length c1), (7, .slice (g.2.2.2.1) ((g.1)).length (g.2.2.2.2)), (16, .slice A1 (x1).length c1), (17, iv (x1.length : Int)), (18, iv (g.2.1))]) (fun g w' => Hp Z0 No w w' [fzR (T_index_Index.obj F0 b0 x0), slR A1 c1 T_api_Match.rep x1, rdR 0 0 gl0, plR (g.2.2.1) 66 (g.2.2.2.1) (g.2.2.2.2) T_glob_Glob.obj (g.1)]) (fun n g => m_index_Index_Select_L2 x1 j1 n g.1 g.2.1) fuel (([] : List T_glob_Glob), 0, F47, none, 0) (sb ⟨rfl, rfl, rfl, rfl, rfl, rfl, trivial⟩) (hm47.pick [0, 1, 2, 3] rfl (by decide)) hM (fun _ => rfl) ?_
 clear hM
 rintro m49 ⟨y43, y46, F44, A44, c44⟩ w49 hm49 hM hn49
 replace hM : m_index_Index_Select_L2 x1 j1 (m49 + 1) y43 y46 = some r := hM
 rw [m_index_Index_Select_L2] at hM
 refine gg 5 rfl ?_
 refine askD hM (Rn.condD rfl) (fun h50 hM => ?_) (fun h50 hM => ?_)
 ·refine gg 6 rfl ?_
  obtain ⟨z51, e51, hM⟩ := bindE hM
  refine Rn.ixH hm49 1 rfl e51 rfl rfl rfl Tryd.underlying29 Tryd.sizeOf40 rfl rfl rfl rfl ?_
  rintro b51 o51 vs51 hr51 hm51
  obtain rfl := T_api_Match.relE hr51
  refine Rn.q rfl (V.ldA (vs := [_, _, _]) Tryd.isAgg40 Tryd.sizeOf40 rfl (Rd.pre (hm51.get 4 rfl).2 3) rfl) (Rn.alloc rfl rfl rfl Tryd.zeroValue40 rfl ?_)
  intro b53 w53 hb53 m53 e53
  have hm55 := (hm51.addBox hb53 e53 m53).nf [_, _, _, _, _, boxR _ _ [_, _, _]] rfl
  refine gg 1 rfl (Rn.st rfl rfl Tryd.sizeOf40 rfl rfl rfl rfl (by first | exact ones rfl | (simp [Value.oneCell']; done)) (hm55.get 5 rfl) (by first | exact Nat.le_of_ble_eq_true rfl | (simp; done)) ?_)
  intro w56 m56 x56
  have hm57 := (hm55.st 5 rfl x56 m56).nf [_, _, _, _, _, boxR _ _ [_, _, _]] rfl
  refine gg 4 rfl (Rn.q rfl (V.ldB Tryd.isAgg9 rfl (hm57.get 5 rfl) rfl) ?_)
  obtain ⟨p58, e58, hM⟩ := bindE hM
  refine Rn.cl ck23 rfl rfl rfl rfl (m_glob_Compile_sim (Z0 := All) e58 (rdR_all (hm57.get 2 rfl)) :) ?_
  rintro _ w58 ⟨F58_0, b58_0, rfl, hq58⟩
  refine ⟨_, rfl, ?_⟩
  have hm60 := hm57.callF (flC (optR_flat fun _ => (T_glob_Glob.oflat _ _ _)) fl0) hq58
  refine gg 14 rfl ?_
  refine Rn.cutR [7, 8, 9, 10, 11, 12] [(0, pt b0 0), (1, .slice A1 (x1).length c1), (7, .slice A44 (y43).length c44), (8, iv y46), (9, pt b53 0), (10, .pointer (optP b58_0 p58.1)), (12, iv p58.2.2), (16, .slice A1 (x1).length c1), (17, iv (x1.length : Int)), (18, iv y46), (36, .bool (decide ((p58.2.2 = 0) ∧ (z51.Key ≠ ([] : List UInt8)))))] (fun hk61 => ?_) ?_
  ·refine Rn.partD (t := 32) rfl (fun h62 => ?_) (fun h62 => ?_)
   ·refine gg 1 rfl (Rn.q rfl (V.ldB Tryd.isAgg9 rfl (hm60.get 5 rfl) rfl) (Rn.q rfl (V.neqS rfl rfl) (gg 1 rfl ?_)))
    refine hk61 _ ?_
    exact Sub.cons rfl (Sub.cons rfl (Sub.cons rfl (Sub.cons rfl (Sub.cons rfl (Sub.cons rfl (Sub.cons rfl (Sub.cons rfl (Sub.cons rfl (Sub.cons rfl (Sub.cons (lkB rfl) (Sub.nil _)))))))))))
   ·refine gg 4 rfl ?_
    refine hk61 _ ?_
    exact Sub.cons rfl (Sub.cons rfl (Sub.cons rfl (Sub.cons rfl (Sub.cons rfl (Sub.cons rfl (Sub.cons rfl (Sub.cons rfl (Sub.cons rfl (Sub.cons rfl (Sub.cons (lkB rfl) (Sub.nil _)))))))))))
  refine gg 1 rfl ?_
  obtain ⟨j3, hj3, hM⟩ := jnE hM
  refine Rn.joinR (r := r) (G := Bool × (Nat → Prop)) [] (fun g => [(0, pt b0 0), (1, .slice A1 (x1).length c1), (7, .slice A44 (y43).length c44), (8, iv y46), (10, .pointer (optP b58_0 p58.1)), (12, iv p58.2.2), (16, .slice A1 (x1).length c1), (17, iv (x1.length : Int)), (18, iv y46), (42, .bool ((g.1)))]) (fun g w' => Hp Z0 No w w' [fzR (T_index_Index.obj F0 b0 x0), slR A1 c1 T_api_Match.rep x1, rdR 0 0 gl0, plR F44 66 A44 c44 T_glob_Glob.obj y43, boxR b53 40 [Str (z51.Key), Str (z51.Glob), .bool (z51.Not)], optR p58.1 (fun z => T_glob_Glob.obj (g.2) b58_0 z)]) (fun g => j3 g.1) ?_ ?_
  ·subst hj3
   clear hM
   rintro ⟨y64, F63⟩ w65 hm65 hM
   try dsimp only at hM
   refine gg 1 rfl ?_
   obtain ⟨j4, hj4, hM⟩ := jnE hM
   refine Rn.joinG (r := r) (G := Int × (Nat → Prop)) (fun g => [(0, pt b0 0), (1, .slice A1 (x1).length c1), (7, .slice A44 (y43).length c44), (8, iv y46), (10, .pointer (optP b58_0 p58.1)), (12, iv (g.1)), (16, .slice A1 (x1).length c1), (17, iv (x1.length : Int)), (18, iv y46)]) (fun g w' => Hp Z0 No w w' [fzR (T_index_Index.obj F0 b0 x0), slR A1 c1 T_api_Match.rep x1, rdR 0 0 gl0, plR F44 66 A44 c44 T_glob_Glob.obj y43, boxR b53 40 [Str (z51.Key), Str (z51.Glob), .bool (z51.Not)], optR p58.1 (fun z => T_glob_Glob.obj (g.2) b58_0 z)]) (fun g => j4 g.1) ?_ ?_
   ·subst hj4
    clear hM
    rintro ⟨y67, F66⟩ w68 hm68 hM
    try dsimp only at hM
    refine gg 6 rfl ?_
    refine askD hM (Rn.condD rfl) (fun h69 hM => ?_) (fun h69 hM => ?_)
    ·refine gg 8 rfl ?_
     have hm70 := hm68.addNil 3 (intR .i64)
     refine Rn.retG3 Tryd.func14 rfl (rvT rfl) (rvT rfl) (rvT rfl) ?_
     obtain rfl := someE hM
     exact ⟨none, 0, rfl, hm70.pick [6] rfl (by decide)⟩
    ·refine gg 4 rfl ?_
     obtain ⟨z72, e72, hM⟩ := bindE hM
     have hm73 := hm68.optSome 5 rfl e72
     refine Rn.say (t := 48) (pt b58_0 0) rfl (by rw [e72]; rfl) ?_
     obtain ⟨z74, e74, hM⟩ := bindE hM
     have hm75 := (hm73.cut [0, 1, 2, 4] [5, 3] rfl (by decide)).nf ([_, _, _, _] ++ [_, _]) rfl
     refine Rn.pushP (K := [_, _, _, _]) hm75 e74 rfl rfl rfl rfl Tryd.underlying65 el66 rfl rfl (fun _ => rfl) ?_
     intro F74 A74 c74 w74 u74 hm74
     replace hm74 := hm74.nf [_, _, _, _, _] rfl
     refine gg 7 rfl ?_
     exact hn49 (z74, (W64 (y46 + 1)), F74, A74, c74) _ _ (sb ⟨rfl, rfl, rfl, rfl, rfl, rfl, trivial⟩) (hm74.pick [0, 1, 2, 4] rfl (by decide)) hM
   intro hk4
   clear hj4
   refine askS hM (Rn.condS rfl) (fun h77 hM => ?_) (fun h77 hM => ?_)
   ·refine gg 3 rfl ?_
    exact hk4 (3, F63) _ _ (sb ⟨rfl, rfl, rfl, rfl, rfl, rfl, rfl, rfl, rfl, trivial⟩) (hm65.pick [0, 1, 2, 3, 4, 5] rfl (by decide)) hM
   ·refine gg 1 rfl ?_
    exact hk4 (p58.2.2, F63) _ _ (sb ⟨rfl, rfl, rfl, rfl, rfl, rfl, rfl, rfl, rfl, trivial⟩) (hm65.pick [0, 1, 2, 3, 4, 5] rfl (by decide)) hM
  intro hk3
  clear hj3
  refine askD hM (Rn.partD (t := 37) rfl) (fun h78 hM => ?_) (fun h78 hM => ?_)
  ·refine gg 1 rfl (Rn.q rfl (V.ldB Tryd.isAgg9 rfl (hm60.get 5 rfl) rfl) ?_)
   have hm80 := hm60.addNil 64 T_api_Pair.rep
   obtain ⟨p79, e79, hM⟩ := bindE hM
   refine Rn.cl ck24 rfl rfl rfl rfl (m_label_Check_sim (Z0 := All) e79 (own_slR (hm80.get 7 rfl)) :) ?_
   rintro _ w79 ⟨rfl, hq79⟩
   refine ⟨_, rfl, ?_⟩
   have hm82 := hm80.call0 hq79
   refine gg 2 rfl ?_
   exact hk3 ((decide (p79 ≠ 0)), F58_0) _ _ (sb ⟨rfl, rfl, rfl, rfl, rfl, rfl, rfl, rfl, rfl, rfl, trivial⟩) (hm82.pick [0, 1, 2, 3, 5, 6] rfl (by decide)) hM
  ·refine gg 5 rfl ?_
   exact hk3 (false, F58_0) _ _ (sb ⟨rfl, rfl, rfl, rfl, rfl, rfl, rfl, rfl, rfl, rfl, trivial⟩) (hm60.pick [0, 1, 2, 3, 5, 6] rfl (by decide)) hM
 ·refine gg 1 rfl ?_
  exact hk1 (y43, F44, A44, c44) _ _ (sb ⟨rfl, rfl, rfl, trivial⟩) (hm49.pick [0, 1, 2, 3] rfl (by decide)) hM

theorem m_pack_NewWriter_sim {Z0 : Nat → Prop} {w : World}  {r : T_pack_Writer} (hM : m_pack_NewWriter  = some r)  :
    Calls Tryd.prog 27 #[] w fun x w' => ∃ F_0 b_0, x = .returned (pt b_0 0) ∧ Hp Z0 No w w' [T_pack_Writer.obj F_0 b_0 r] := by
 have hm0 := Hp.nil Z0 No w
 have hc0 := Calm.nil
 refine Rn.enter Tryd.func27 rfl rfl (Nat.le_of_ble_eq_true rfl) ?_
 refine gg 6 rfl (Rn.q rfl (V.bldS (cs := [_]) st97 rfl rfl) (Rn.box rfl rfl rfl rfl rfl ?_))
 intro b1 w1 hb1 m1 e1
 have hm3 := (hm0.addBox hb1 e1 m1).nf [boxR _ _ [_]] rfl
 refine gg 2 rfl ?_
 have hm4 := hm3.addNil 5 byteR
 have hm7 := (hm4.cut [] [0, 1] rfl (by decide)).nf ([] ++ [_, _]) rfl
 obtain ⟨F6, hm6⟩ := hm7.fold (T_pack_Writer.sh b1 ({ b := ([] : List UInt8) } : T_pack_Writer)) ⟨none, 0, rfl⟩
 refine Rn.retG1 Tryd.func27 rfl (rvT rfl) ?_
 obtain rfl := someE hM
 exact ⟨F6, b1, rfl, hm6.pick [0] rfl (by decide)⟩

theorem m_math_bits_Len64_sim {Z0 : Nat → Prop} {w : World} {x0 : UInt64} {r : Int} (hM : m_math_bits_Len64 x0 = some r)  :
    Calls Tryd.prog 60 #[u64v x0] w fun x w' => x = .returned (iv r) ∧ Hp Z0 No w w' [] := by
 have hm0 := Hp.nil Z0 No w
 have hc0 := Calm.nil
 refine Rn.enter Tryd.func60 rfl rfl (Nat.le_of_ble_eq_true rfl) ?_
 refine gg 8 rfl (Rn.q rfl (V.geq rfl rfl) (gg 1 rfl ?_))
 obtain ⟨j1, hj1, hM⟩ := jnE hM
 refine Rn.joinG (r := r) (G := UInt64 × Int) (fun g => [(0, u64v (g.1)), (2, iv (g.2))]) (fun g w' => Hp Z0 No w w' []) (fun g => j1 g.1 g.2) ?_ ?_
 ·subst hj1
  clear hM
  rintro ⟨y1, y2⟩ w3 hm3 hM
  try dsimp only at hM
  refine gg 4 rfl (Rn.q rfl (V.geq rfl rfl) (gg 1 rfl ?_))
  obtain ⟨j2, hj2, hM⟩ := jnE hM
  refine Rn.joinG (r := r) (G := UInt64 × Int) (fun g => [(0, u64v (g.1)), (2, iv (g.2))]) (fun g w' => Hp Z0 No w w' []) (fun g => j2 g.1 g.2) ?_ ?_
  ·subst hj2
   clear hM
   rintro ⟨y4, y5⟩ w6 hm6 hM
   try dsimp only at hM
   refine gg 4 rfl (Rn.q rfl (V.geq rfl rfl) (gg 1 rfl ?_))
   obtain ⟨j3, hj3, hM⟩ := jnE hM
   refine Rn.joinG (r := r) (G := UInt64 × Int) (fun g => [(0, u64v (g.1)), (2, iv (g.2))]) (fun g w' => Hp Z0 No w w' []) (fun g => j3 g.1 g.2) ?_ ?_
   ·subst hj3
    clear hM
    rintro ⟨y7, y8⟩ w9 hm9 hM
    try dsimp only at hM
    refine gg 4 rfl (Rn.q rfl (V.cv8 Tryd.underlying53 Tryd.underlying5 rfl) ?_)
    obtain ⟨z10, e10, hM⟩ := bindE hM
    refine Rn.q rfl (V.idxSZ Tryd.underlying9 rfl rfl e10) (Rn.q rfl (V.cv8i (a := z10) Tryd.underlying5 Tryd.underlying3 rfl) (gg 3 rfl ?_))
    refine Rn.retG1 Tryd.func60 rfl (rvT rfl) ?_
    obtain rfl := someE hM
    exact ⟨rfl, hm9.pick [] rfl (by decide)⟩
   intro hk3
   clear hj3
   refine askD hM (Rn.condD rfl) (fun h11 hM => ?_) (fun h11 hM => ?_)
   ·refine gg 3 rfl (Rn.q rfl (V.sh64 rfl rfl _ 8 rfl rfl (b64_shr _ _ _ 8 (by decide))) (gg 7 rfl ?_))
    exact hk3 ((y4 >>> UInt64.ofNat 8), (W64 (y5 + 8))) _ _ (sb ⟨rfl, rfl, trivial⟩) (hm6.pick [] rfl (by decide)) hM
   ·refine gg 1 rfl ?_
    exact hk3 (y4, y5) _ _ (sb ⟨rfl, rfl, trivial⟩) (hm6.pick [] rfl (by decide)) hM
  intro hk2
  clear hj2
  refine askD hM (Rn.condD rfl) (fun h12 hM => ?_) (fun h12 hM => ?_)
  ·refine gg 3 rfl (Rn.q rfl (V.sh64 rfl rfl _ 16 rfl rfl (b64_shr _ _ _ 16 (by decide))) (gg 7 rfl ?_))
   exact hk2 ((y1 >>> UInt64.ofNat 16), (W64 (y2 + 16))) _ _ (sb ⟨rfl, rfl, trivial⟩) (hm3.pick [] rfl (by decide)) hM
  ·refine gg 1 rfl ?_
   exact hk2 (y1, y2) _ _ (sb ⟨rfl, rfl, trivial⟩) (hm3.pick [] rfl (by decide)) hM
 intro hk1
 clear hj1
 refine askD hM (Rn.condD rfl) (fun h13 hM => ?_) (fun h13 hM => ?_)
 ·refine gg 3 rfl (Rn.q rfl (V.sh64 rfl rfl _ 32 rfl rfl (b64_shr _ _ _ 32 (by decide))) (gg 5 rfl ?_))
  exact hk1 ((x0 >>> UInt64.ofNat 32), 32) _ _ (sb ⟨rfl, rfl, trivial⟩) (hm0.pick [] rfl (by decide)) hM
 ·refine gg 1 rfl ?_
  exact hk1 (x0, 0) _ _ (sb ⟨rfl, rfl, trivial⟩) (hm0.pick [] rfl (by decide)) hM

theorem m_pack_others_sim {Z0 : Nat → Prop} {w : World} {x0 : UInt64} {r : Int} (hM : m_pack_others x0 = some r)  :
    Calls Tryd.prog 40 #[u64v x0] w fun x w' => x = .returned (iv r) ∧ Hp Z0 No w w' [] := by
 have hm0 := Hp.nil Z0 No w
 have hc0 := Calm.nil
 refine Rn.enter Tryd.func40 rfl rfl (Nat.le_of_ble_eq_true rfl) ?_
 refine gg 7 rfl ?_
 obtain ⟨p1, e1, hM⟩ := bindE hM
 refine Rn.cl ck60 rfl rfl rfl rfl (m_math_bits_Len64_sim (Z0 := All) e1  :) ?_
 rintro _ w1 ⟨rfl, hq1⟩
 refine ⟨_, rfl, ?_⟩
 have hm2 := hm0.call0 hq1
 refine gg 8 rfl ?_
 refine askD hM (Rn.condD rfl) (fun h3 hM => ?_) (fun h3 hM => ?_)
 ·refine gg 4 rfl ?_
  refine Rn.retG1 Tryd.func40 rfl (rvT rfl) ?_
  obtain rfl := someE hM
  exact ⟨rfl, hm2.pick [] rfl (by decide)⟩
 ·refine gg 5 rfl (Rn.q rfl (V.maxi rfl rfl) ?_)
  obtain ⟨z4, e4, hM⟩ := bindE hM
  refine Rn.q rfl (V.quoZ rfl rfl e4) (gg 2 rfl ?_)
  refine Rn.retG1 Tryd.func40 rfl (rvT rfl) ?_
  obtain rfl := someE hM
  exact ⟨rfl, hm2.pick [] rfl (by decide)⟩

theorem m_pack_Writer_Num_sim {Z0 : Nat → Prop} {w : World} {F0 : Nat → Prop} {b0 : Nat} {x0 : T_pack_Writer} {x1 : UInt64} {r : T_pack_Writer} (hM : m_pack_Writer_Num x0 x1 = some r) (hL : Lent Z0 w [T_pack_Writer.obj F0 b0 x0]) :
    Calls Tryd.prog 28 #[pt b0 0, u64v x1] w fun x w' => ∃ F_p0, x = .returned (.tuple #[]) ∧ Hp Z0 (LS [T_pack_Writer.obj F0 b0 x0]) w w' [T_pack_Writer.obj F_p0 b0 r] := by
 have hm0 := hL.start
 refine Rn.enter Tryd.func28 rfl rfl (Nat.le_of_ble_eq_true rfl) ?_
 refine gg 3 rfl ?_
 obtain ⟨p2, e2, hM⟩ := bindE hM
 refine Rn.cl ck40 rfl rfl rfl rfl (m_pack_others_sim (Z0 := All) e2  :) ?_
 rintro _ w2 ⟨rfl, hq2⟩
 refine ⟨_, rfl, ?_⟩
 have hm3 := hm0.call0 hq2
 refine gg 6 rfl (Rn.q rfl (V.cv64 Tryd.underlying3 Tryd.underlying99 rfl) (Rn.q rfl (V.shl8 (a := (255 : UInt8)) (m := (toU64 (W64 (8 - p2))).toNat) rfl rfl) (gg 8 rfl ?_)))
 obtain ⟨j1, hj1, hM⟩ := jnE hM
 refine Rn.joinG (r := r) (G := UInt8 × (Nat → Prop)) (fun g => [(0, pt b0 0), (1, u64v x1), (4, iv p2), (5, u8v (g.1))]) (fun g w' => Hp Z0 (LS [T_pack_Writer.obj F0 b0 x0]) w w' [T_pack_Writer.obj (g.2) b0 x0]) (fun g => j1 g.1) ?_ ?_
 ·subst hj1
  clear hM
  rintro ⟨y5, F4⟩ w6 hm6 hM
  try dsimp only at hM
  refine gg 6 rfl ?_
  obtain ⟨_, ⟨A7_0, c7_0, rfl⟩, hm7⟩ := hm6.unf 0 rfl
  replace hm7 := hm7.nf [_, _] rfl
  refine Rn.q rfl (V.ldB Tryd.isAgg43 rfl (hm7.get 0 rfl) rfl) (gg 1 rfl ?_)
  obtain ⟨z9, e9, hM⟩ := bindE hM
  refine Rn.pushH (z := y5) (vs := [u8v y5]) hm7 1 rfl e9 rfl rfl rfl rfl Tryd.underlying43 el5 rfl rfl rfl rfl (fun _ => rfl) (⟨rfl, trivial⟩) ?_
  intro A9 c9 w9 u9 hm9
  refine gg 2 rfl (Rn.st rfl rfl Tryd.sizeOf43 rfl rfl rfl rfl (by first | exact ones rfl | (simp [Value.oneCell']; done)) (hm9.get 0 rfl) (by first | exact Nat.le_of_ble_eq_true rfl | (simp; done)) ?_)
  intro w11 m11 x11
  have hm12 := (hm9.st 0 rfl x11 m11).nf [boxR _ _ [_], _] rfl
  refine gg 1 rfl ?_
  have hm14 := (hm12.cut [] [0, 1] rfl (by decide)).nf ([] ++ [_, _]) rfl
  obtain ⟨F13, hm13⟩ := hm14.fold (T_pack_Writer.sh b0 ({ b := z9 } : T_pack_Writer)) ⟨A9, c9, rfl⟩
  obtain ⟨j2, hj2, hM⟩ := jnE hM
  refine Rn.joinG (r := r) (G := T_pack_Writer × (Nat → Prop)) (fun g => []) (fun g w' => Hp Z0 (LS [T_pack_Writer.obj F0 b0 x0]) w w' [T_pack_Writer.obj (g.2) b0 (g.1)]) (fun g => j2 g.1) ?_ ?_
  ·subst hj2
   clear hM
   rintro ⟨y15, F15⟩ w16 hm16 hM
   try dsimp only at hM
   refine Rn.end0 Tryd.func28 rfl ?_
   obtain rfl := someE hM
   exact ⟨F15, rfl, hm16.pick [0] rfl (by decide)⟩
  intro hk2
  clear hj2
  refine gg 1 rfl ?_
  refine Rn.loopF (G := Int × T_pack_Writer × (Nat → Prop)) (fun g => [(0, pt b0 0), (1, u64v x1), (4, iv (g.1))]) (fun g w' => Hp Z0 (LS [T_pack_Writer.obj F0 b0 x0]) w w' [T_pack_Writer.obj (g.2.2) b0 (g.2.1)]) (fun n g => m_pack_Writer_Num_L1 x1 j2 n g.1 g.2.1) fuel (p2, ({ b := z9 } : T_pack_Writer), F13) (sb ⟨rfl, rfl, rfl, trivial⟩) (hm13.pick [0] rfl (by decide)) hM (fun _ => rfl) ?_
  clear hM
  rintro m19 ⟨y17, y18, F18⟩ w19 hm19 hM hn19
  replace hM : m_pack_Writer_Num_L1 x1 j2 (m19 + 1) y17 y18 = some r := hM
  rw [m_pack_Writer_Num_L1] at hM
  refine gg 6 rfl ?_
  refine askD hM (Rn.condD rfl) (fun h20 hM => ?_) (fun h20 hM => ?_)
  ·refine gg 8 rfl ?_
   obtain ⟨_, ⟨A21_0, c21_0, rfl⟩, hm21⟩ := hm19.unf 0 rfl
   replace hm21 := hm21.nf [_, _] rfl
   refine Rn.q rfl (V.ldB Tryd.isAgg43 rfl (hm21.get 0 rfl) rfl) (gg 4 rfl (Rn.q rfl (V.cv64 Tryd.underlying3 Tryd.underlying99 rfl) (Rn.q rfl (V.shr64 (a := x1) (m := (toU64 (W64 ((W64 (8 * y17)) - 8))).toNat) rfl rfl) (Rn.q rfl (V.cv8 Tryd.underlying53 Tryd.underlying5 rfl) ?_))))
   obtain ⟨z23, e23, hM⟩ := bindE hM
   refine Rn.pushH (z := toU8 ((shr64 x1 ((toU64 (W64 ((W64 (8 * y17)) - 8))).toNat)).toNat : Int)) (vs := [u8v (toU8 ((shr64 x1 ((toU64 (W64 ((W64 (8 * y17)) - 8))).toNat)).toNat : Int))]) hm21 1 rfl e23 rfl rfl rfl rfl Tryd.underlying43 el5 rfl rfl rfl rfl (fun _ => rfl) (⟨rfl, trivial⟩) ?_
   intro A23 c23 w23 u23 hm23
   refine gg 2 rfl (Rn.st rfl rfl Tryd.sizeOf43 rfl rfl rfl rfl (by first | exact ones rfl | (simp [Value.oneCell']; done)) (hm23.get 0 rfl) (by first | exact Nat.le_of_ble_eq_true rfl | (simp; done)) ?_)
   intro w25 m25 x25
   have hm26 := (hm23.st 0 rfl x25 m25).nf [boxR _ _ [_], _] rfl
   refine gg 7 rfl ?_
   have hm28 := (hm26.cut [] [0, 1] rfl (by decide)).nf ([] ++ [_, _]) rfl
   obtain ⟨F27, hm27⟩ := hm28.fold (T_pack_Writer.sh b0 ({ b := z23 } : T_pack_Writer)) ⟨A23, c23, rfl⟩
   exact hn19 ((W64 (y17 - 1)), ({ b := z23 } : T_pack_Writer), F27) _ _ (sb ⟨rfl, rfl, rfl, trivial⟩) (hm27.pick [0] rfl (by decide)) hM
  ·refine gg 1 rfl ?_
   exact hk2 (y18, F18) _ _ (sb trivial) (hm19.pick [0] rfl (by decide)) hM
 intro hk1
 clear hj1
 refine askD hM (Rn.condD rfl) (fun h29 hM => ?_) (fun h29 hM => ?_)
 ·refine gg 5 rfl (Rn.q rfl (V.cv64 Tryd.underlying3 Tryd.underlying99 rfl) (Rn.q rfl (V.shr64 (a := x1) (m := (toU64 (W64 (8 * p2))).toNat) rfl rfl) (Rn.q rfl (V.cv8 Tryd.underlying53 Tryd.underlying5 rfl) (Rn.q rfl (V.or8 (a := shl8 (255 : UInt8) ((toU64 (W64 (8 - p2))).toNat)) (b := toU8 ((shr64 x1 ((toU64 (W64 (8 * p2))).toNat)).toNat : Int)) rfl rfl) (gg 2 rfl ?_)))))
  exact hk1 (((shl8 (255 : UInt8) ((toU64 (W64 (8 - p2))).toNat)) ||| (toU8 ((shr64 x1 ((toU64 (W64 (8 * p2))).toNat)).toNat : Int))), F0) _ _ (sb ⟨rfl, rfl, rfl, rfl, trivial⟩) (hm3.pick [0] rfl (by decide)) hM
 ·refine gg 1 rfl ?_
  exact hk1 ((shl8 (255 : UInt8) ((toU64 (W64 (8 - p2))).toNat)), F0) _ _ (sb ⟨rfl, rfl, rfl, rfl, trivial⟩) (hm3.pick [0] rfl (by decide)) hM

theorem m_bytes_Clone_sim {Z0 : Nat → Prop} {w : World} {A0 : Option Addr} {c0 : Nat} {x0 : (List UInt8)} {r : (List UInt8)} (hM : m_bytes_Clone x0 = some r) (f0 : (slR A0 c0 byteR x0).H Z0 w) :
    Calls Tryd.prog 41 #[.slice A0 (x0).length c0] w fun x w' => ∃ A_0_0 c_0_0, x = .returned (.slice A_0_0 (r).length c_0_0) ∧ Hp Z0 No w w' [ownR 5 A_0_0 c_0_0 byteR r] := by
  exact clone_41 w A0 c0 x0 f0 hM

theorem m_pack_Writer_Bytes_sim {Z0 : Nat → Prop} {w : World} {F0 : Nat → Prop} {b0 : Nat} {x0 : T_pack_Writer} {r : (List UInt8)} (hM : m_pack_Writer_Bytes x0 = some r) (f0 : (fzR (T_pack_Writer.obj F0 b0 x0)).H Z0 w) :
    Calls Tryd.prog 29 #[pt b0 0] w fun x w' => ∃ A_0_0 c_0_0, x = .returned (.slice A_0_0 (r).length c_0_0) ∧ Hp Z0 No w w' [ownR 5 A_0_0 c_0_0 byteR r] := by
 have hm0 := Hp.nil Z0 No w
 have hc0 := Calm.nil
 have hm2 := hm0.know (fzR (T_pack_Writer.obj F0 b0 x0)) (fun _ h => h) (hm0.in0 hc0 f0)
 replace hc0 := hc0.snoc (r := fzR (T_pack_Writer.obj F0 b0 x0)) (fun _ h => h)
 refine Rn.enter Tryd.func29 rfl rfl (Nat.le_of_ble_eq_true rfl) ?_
 refine gg 9 rfl ?_
 obtain ⟨_, ⟨A3_0, c3_0, rfl⟩, hm3⟩ := hm2.unfz 0 rfl
 replace hm3 := hm3.nf [_, _, _] rfl
 have hm7 := hm3.fzSl 2 rfl
 refine Rn.q rfl (V.ldB Tryd.isAgg43 rfl (hm7.getz 1 rfl) rfl) ?_
 obtain ⟨p8, e8, hM⟩ := bindE hM
 refine Rn.cl ck41 rfl rfl rfl rfl (m_bytes_Clone_sim (Z0 := All) e8 (slR_all (hm7.get 3 rfl)) :) ?_
 rintro _ w8 ⟨A8_0_0, c8_0_0, rfl, hq8⟩
 refine ⟨_, rfl, ?_⟩
 have hm10 := hm7.callF (flC (ownR_flat byte_flat _ _ _ _) fl0) hq8
 refine gg 2 rfl ?_
 refine Rn.retG1 Tryd.func29 rfl (rvT rfl) ?_
 obtain rfl := someE hM
 exact ⟨A8_0_0, c8_0_0, rfl, hm10.pick [4] rfl (by decide)⟩

theorem m_index_Bytes_sim {Z0 : Nat → Prop} {w : World} {A0 : Option Addr} {c0 : Nat} {x0 : (List Int)} {r : ((List UInt8) × Int)} (hM : m_index_Bytes x0 = some r) (f0 : (slR A0 c0 (intR .i64) x0).H Z0 w) :
    Calls Tryd.prog 17 #[.slice A0 (x0).length c0] w fun x w' => ∃ A_0_0 c_0_0, x = .returned (.tuple #[.slice A_0_0 (r.1).length c_0_0, iv r.2]) ∧ Hp Z0 No w w' [ownR 5 A_0_0 c_0_0 byteR r.1] := by
 have hm0 := Hp.nil Z0 No w
 have hc0 := Calm.nil
 have hm2 := hm0.know (slR A0 c0 (intR .i64) x0) (fun _ h => h) (hm0.in0 hc0 f0)
 replace hc0 := hc0.snoc (r := slR A0 c0 (intR .i64) x0) (fun _ h => h)
 refine Rn.enter Tryd.func17 rfl rfl (Nat.le_of_ble_eq_true rfl) ?_
 refine gg 9 rfl (Rn.q rfl (V.lenV Tryd.underlying22 rfl) (gg 2 rfl ?_))
 obtain ⟨j1, hj1, hM⟩ := jnE hM
 refine Rn.joinG (r := r) (G := Unit) (fun g => [(0, .slice A0 (x0).length c0)]) (fun g w' => Hp Z0 No w w' [slR A0 c0 (intR .i64) x0]) (fun g => j1 ()) ?_ ?_
 ·subst hj1
  clear hM
  rintro _ w3 hm3 hM
  try dsimp only at hM
  refine gg 4 rfl (Rn.q rfl (V.lenV Tryd.underlying22 rfl) (gg 2 rfl ?_))
  obtain ⟨j2, hj2, hM⟩ := jnE hM
  refine Rn.joinR (r := r) (G := Bool) [] (fun g => [(0, .slice A0 (x0).length c0), (49, .bool (g))]) (fun g w' => Hp Z0 No w w' [slR A0 c0 (intR .i64) x0]) (fun g => j2 g) ?_ ?_
  ·subst hj2
   clear hM
   rintro y4 w5 hm5 hM
   try dsimp only at hM
   refine gg 1 rfl ?_
   refine askS hM (Rn.condS rfl) (fun h6 hM => ?_) (fun h6 hM => ?_)
   ·refine gg 5 rfl ?_
    have hm7 := hm5.addNil 5 byteR
    refine Rn.retG2 Tryd.func17 rfl (rvT rfl) (rvT rfl) ?_
    obtain rfl := someE hM
    exact ⟨none, 0, rfl, hm7.pick [1] rfl (by decide)⟩
   ·refine gg 3 rfl ?_
    obtain ⟨p9, e9, hM⟩ := bindE hM
    refine Rn.cl ck27 rfl rfl rfl rfl (m_pack_NewWriter_sim (Z0 := All) e9  :) ?_
    rintro _ w9 ⟨F9_0, b9_0, rfl, hq9⟩
    refine ⟨_, rfl, ?_⟩
    have hm11 := hm5.callF (flC ((T_pack_Writer.oflat _ _ _)) fl0) hq9
    refine gg 6 rfl (Rn.q rfl (V.lenV Tryd.underlying22 rfl) (Rn.q rfl (V.cv64 Tryd.underlying3 Tryd.underlying53 rfl) ?_))
    obtain ⟨p12, e12, hM⟩ := bindE hM
    have hm13 := (hm11.cut [0] [1] rfl (by decide)).nf ([_] ++ [_]) rfl
    refine Rn.cl ck28 rfl rfl rfl rfl (m_pack_Writer_Num_sim e12 hm13.lend :) ?_
    rintro _ w12 ⟨F12_p0, rfl, hq12⟩
    refine ⟨_, rfl, ?_⟩
    have hm15 := hm13.callAZ hq12
    refine gg 9 rfl (Rn.q rfl (V.lenV Tryd.underlying22 rfl) (gg 2 rfl ?_))
    obtain ⟨j3, hj3, hM⟩ := jnE hM
    refine Rn.joinG (r := r) (G := T_pack_Writer × (Nat → Prop)) (fun g => [(6, pt b9_0 0)]) (fun g w' => Hp Z0 No w w' [T_pack_Writer.obj (g.2) b9_0 (g.1)]) (fun g => j3 g.1) ?_ ?_
    ·subst hj3
     clear hM
     rintro ⟨y16, F16⟩ w17 hm17 hM
     try dsimp only at hM
     refine gg 3 rfl ?_
     obtain ⟨p18, e18, hM⟩ := bindE hM
     refine Rn.cl ck29 rfl rfl rfl rfl (m_pack_Writer_Bytes_sim (Z0 := All) e18 (fz_all (hm17.get 0 rfl)) :) ?_
     rintro _ w18 ⟨A18_0_0, c18_0_0, rfl, hq18⟩
     refine ⟨_, rfl, ?_⟩
     have hm20 := hm17.callF (flC (ownR_flat byte_flat _ _ _ _) fl0) hq18
     refine gg 3 rfl ?_
     refine Rn.retG2 Tryd.func17 rfl (rvT rfl) (rvT rfl) ?_
     obtain rfl := someE hM
     exact ⟨A18_0_0, c18_0_0, rfl, hm20.pick [1] rfl (by decide)⟩
    intro hk3
    clear hj3
    refine gg 1 rfl ?_
    refine Rn.loopF (G := Int × Int × T_pack_Writer × (Nat → Prop)) (fun g => [(6, pt b9_0 0), (7, iv (g.1)), (56, .slice A0 (x0).length c0), (57, iv (x0.length : Int)), (58, iv (g.2.1))]) (fun g w' => Hp Z0 No w w' [slR A0 c0 (intR .i64) x0, T_pack_Writer.obj (g.2.2.2) b9_0 (g.2.2.1)]) (fun n g => m_index_Bytes_L1 x0 j3 n g.1 g.2.1 g.2.2.1) fuel ((-1), 0, p12, F12_p0) (sb ⟨rfl, rfl, rfl, rfl, rfl, trivial⟩) (hm15.pick [0, 1] rfl (by decide)) hM (fun _ => rfl) ?_
    clear hM
    rintro m24 ⟨y21, y22, y23, F23⟩ w24 hm24 hM hn24
    replace hM : m_index_Bytes_L1 x0 j3 (m24 + 1) y21 y22 y23 = some r := hM
    rw [m_index_Bytes_L1] at hM
    refine gg 5 rfl ?_
    refine askD hM (Rn.condD rfl) (fun h25 hM => ?_) (fun h25 hM => ?_)
    ·refine gg 5 rfl ?_
     obtain ⟨z26, e26, hM⟩ := bindE hM
     refine Rn.ixH hm24 0 rfl e26 rfl rfl rfl Tryd.underlying22 Tryd.sizeOf3 rfl rfl rfl rfl ?_
     rintro b26 o26 vs26 ⟨rfl, _⟩ hm26
     refine Rn.q rfl (V.ldR0 Tryd.isAgg3 rfl (hm26.get 2 rfl).2 rfl) (gg 9 rfl (Rn.q rfl (V.cv64 Tryd.underlying3 Tryd.underlying53 rfl) ?_))
     obtain ⟨p28, e28, hM⟩ := bindE hM
     have hm29 := (hm26.cut [0, 2] [1] rfl (by decide)).nf ([_, _] ++ [_]) rfl
     refine Rn.cl ck28 rfl rfl rfl rfl (m_pack_Writer_Num_sim e28 hm29.lend :) ?_
     rintro _ w28 ⟨F28_p0, rfl, hq28⟩
     refine ⟨_, rfl, ?_⟩
     have hm31 := hm29.callAZ hq28
     refine gg 10 rfl ?_
     exact hn24 (z26, (W64 (y22 + 1)), p28, F28_p0) _ _ (sb ⟨rfl, rfl, rfl, rfl, rfl, trivial⟩) (hm31.pick [0, 2] rfl (by decide)) hM
    ·refine gg 1 rfl ?_
     exact hk3 (y23, F23) _ _ (sb ⟨rfl, trivial⟩) (hm24.pick [1] rfl (by decide)) hM
  intro hk2
  clear hj2
  refine askD hM (Rn.partD (t := 36) rfl) (fun h32 hM => ?_) (fun h32 hM => ?_)
  ·refine gg 13 rfl ?_
   exact hk2 true _ _ (sb ⟨rfl, rfl, trivial⟩) (hm3.pick [0] rfl (by decide)) hM
  ·refine gg 1 rfl (Rn.q rfl (V.lenV Tryd.underlying22 rfl) (gg 2 rfl ?_))
   obtain ⟨j4, hj4, hM⟩ := jnE hM
   refine Rn.joinR (r := r) (G := Bool) [16] (fun g => [(0, .slice A0 (x0).length c0), (36, .bool false), (48, .bool (g))]) (fun g w' => Hp Z0 No w w' [slR A0 c0 (intR .i64) x0]) (fun g => j4 g) ?_ ?_
   ·subst hj4
    clear hM
    rintro y33 w34 hm34 hM
    try dsimp only at hM
    refine gg 1 rfl ?_
    exact hk2 y33 _ _ (sb ⟨rfl, rfl, trivial⟩) (hm34.pick [0] rfl (by decide)) hM
   intro hk4
   clear hj4
   refine askD hM (Rn.partD (t := 40) rfl) (fun h35 hM => ?_) (fun h35 hM => ?_)
   ·refine gg 2 rfl (Rn.q rfl (V.lenV Tryd.underlying22 rfl) (gg 1 rfl ?_))
    obtain ⟨z36, e36, hM⟩ := bindE hM
    refine Rn.ixH hm3 0 rfl e36 rfl rfl rfl Tryd.underlying22 Tryd.sizeOf3 rfl rfl rfl rfl ?_
    rintro b36 o36 vs36 ⟨rfl, _⟩ hm36
    refine Rn.q rfl (V.ldR0 Tryd.isAgg3 rfl (hm36.get 1 rfl).2 rfl) (gg 2 rfl ?_)
    exact hk4 (decide (z36 > 4503599627370496)) _ _ (sb ⟨rfl, rfl, rfl, trivial⟩) (hm36.pick [0] rfl (by decide)) hM
   ·refine gg 8 rfl ?_
    exact hk4 false _ _ (sb ⟨rfl, rfl, rfl, trivial⟩) (hm3.pick [0] rfl (by decide)) hM
 intro hk1
 clear hj1
 refine gg 1 rfl ?_
 refine Rn.loopF (G := Int) (fun g => [(0, .slice A0 (x0).length c0), (10, .slice A0 (x0).length c0), (11, iv (x0.length : Int)), (12, iv g)]) (fun g w' => Hp Z0 No w w' [slR A0 c0 (intR .i64) x0]) (fun n g => m_index_Bytes_L2 x0 j1 n g) fuel 0 (sb ⟨rfl, rfl, rfl, rfl, trivial⟩) (hm2.pick [0] rfl (by decide)) hM (fun _ => rfl) ?_
 clear hM
 rintro m39 y38 w39 hm39 hM hn39
 replace hM : m_index_Bytes_L2 x0 j1 (m39 + 1) y38 = some r := hM
 rw [m_index_Bytes_L2] at hM
 refine gg 5 rfl ?_
 refine askD hM (Rn.condD rfl) (fun h40 hM => ?_) (fun h40 hM => ?_)
 ·refine gg 6 rfl ?_
  obtain ⟨z41, e41, hM⟩ := bindE hM
  refine Rn.ixH hm39 0 rfl e41 rfl rfl rfl Tryd.underlying22 Tryd.sizeOf3 rfl rfl rfl rfl ?_
  rintro b41 o41 vs41 ⟨rfl, _⟩ hm41
  refine Rn.q rfl (V.ldR0 Tryd.isAgg3 rfl (hm41.get 1 rfl).2 rfl) (gg 8 rfl ?_)
  obtain ⟨j5, hj5, hM⟩ := jnE hM
  refine Rn.joinR (r := r) (G := Bool) [] (fun g => [(0, .slice A0 (x0).length c0), (10, .slice A0 (x0).length c0), (11, iv (x0.length : Int)), (12, iv y38), (31, .bool (g))]) (fun g w' => Hp Z0 No w w' [slR A0 c0 (intR .i64) x0]) (fun g => j5 g) ?_ ?_
  ·subst hj5
   clear hM
   rintro y43 w44 hm44 hM
   try dsimp only at hM
   refine gg 1 rfl ?_
   refine askS hM (Rn.condS rfl) (fun h45 hM => ?_) (fun h45 hM => ?_)
   ·refine gg 5 rfl ?_
    have hm46 := hm44.addNil 5 byteR
    refine Rn.retG2 Tryd.func17 rfl (rvT rfl) (rvT rfl) ?_
    obtain rfl := someE hM
    exact ⟨none, 0, rfl, hm46.pick [1] rfl (by decide)⟩
   ·refine gg 6 rfl ?_
    exact hn39 (W64 (y38 + 1)) _ _ (sb ⟨rfl, rfl, rfl, rfl, trivial⟩) (hm44.pick [0] rfl (by decide)) hM
  intro hk5
  clear hj5
  refine askD hM (Rn.partD (t := 19) rfl) (fun h48 hM => ?_) (fun h48 hM => ?_)
  ·refine gg 12 rfl ?_
   exact hk5 true _ _ (sb ⟨rfl, rfl, rfl, rfl, rfl, trivial⟩) (hm41.pick [0] rfl (by decide)) hM
  ·refine gg 3 rfl ?_
   obtain ⟨j6, hj6, hM⟩ := jnE hM
   refine Rn.joinR (r := r) (G := Bool) [14] (fun g => [(0, .slice A0 (x0).length c0), (10, .slice A0 (x0).length c0), (11, iv (x0.length : Int)), (12, iv y38), (19, .bool false), (30, .bool (g))]) (fun g w' => Hp Z0 No w w' [slR A0 c0 (intR .i64) x0]) (fun g => j6 g) ?_ ?_
   ·subst hj6
    clear hM
    rintro y49 w50 hm50 hM
    try dsimp only at hM
    refine gg 1 rfl ?_
    exact hk5 y49 _ _ (sb ⟨rfl, rfl, rfl, rfl, rfl, trivial⟩) (hm50.pick [0] rfl (by decide)) hM
   intro hk6
   clear hj6
   refine askD hM (Rn.partD (t := 22) rfl) (fun h51 hM => ?_) (fun h51 hM => ?_)
   ·refine gg 4 rfl ?_
    obtain ⟨z52, e52, hM⟩ := bindE hM
    refine Rn.ixH hm41 0 rfl e52 rfl rfl rfl Tryd.underlying22 Tryd.sizeOf3 rfl rfl rfl rfl ?_
    rintro b52 o52 vs52 ⟨rfl, _⟩ hm52
    refine Rn.q rfl (V.ldR0 Tryd.isAgg3 rfl (hm52.get 2 rfl).2 rfl) (gg 2 rfl ?_)
    exact hk6 (decide (z41 ≤ z52)) _ _ (sb ⟨rfl, rfl, rfl, rfl, rfl, rfl, trivial⟩) (hm52.pick [0] rfl (by decide)) hM
   ·refine gg 8 rfl ?_
    exact hk6 false _ _ (sb ⟨rfl, rfl, rfl, rfl, rfl, rfl, trivial⟩) (hm41.pick [0] rfl (by decide)) hM
 ·refine gg 1 rfl ?_
  exact hk1 () _ _ (sb ⟨rfl, trivial⟩) (hm39.pick [0] rfl (by decide)) hM

theorem m_limnographlaw35_awake_sim {Z0 : Nat → Prop} {w : World}  {r : Bool} (hM : m_limnographlaw35_awake  = some r) (f0 : (rdR 0 0 gl0).H Z0 w) :
    Calls Tryd.prog 5 #[] w fun x w' => x = .returned (.bool (r)) ∧ Hp Z0 No w w' [] := by
 have hm0 := Hp.nil Z0 No w
 have hc0 := Calm.nil
 have hm2 := hm0.know (rdR 0 0 gl0) (fun _ h => h) (hm0.in0 hc0 f0)
 replace hc0 := hc0.snoc (r := rdR 0 0 gl0) (fun _ h => h)
 refine Rn.enter Tryd.func5 rfl rfl (Nat.le_of_ble_eq_true rfl) ?_
 refine gg 6 rfl (Rn.bslS rfl rfl rfl Tryd.underlying28 el9 rfl rfl rfl rfl (by first | exact szs rfl | (simp [Value.cells]; done)) (by decide) ?_)
 intro b3 w3 hb3 m3 e3
 have hm4 := hm2.addLit (rep := textR) (xs := ([([97, 59, 98, 61, 49, 32, 51, 48, 48] : List UInt8), ([98, 32, 51, 48, 48] : List UInt8)] : List (List UInt8))) (vss := [[Str (([97, 59, 98, 61, 49, 32, 51, 48, 48] : List UInt8))], [Str (([98, 32, 51, 48, 48] : List UInt8))]]) hb3 e3 m3 rfl rfl rfl ((rels_cons (fun _ _ => ⟨rfl, trivial⟩) (rels_cons (fun _ _ => ⟨rfl, trivial⟩) rels0)))
 have hm8 := hm4.freeze 1 rfl
 obtain ⟨p6, e6, hM⟩ := bindE hM
 refine Rn.cl ck13 rfl rfl rfl rfl (m_index_New_sim (Z0 := hm8.Z) e6 (hm8.get 1 rfl) :) ?_
 rintro _ w6 ⟨F6_0, b6_0, rfl, hq6⟩
 refine ⟨_, rfl, ?_⟩
 have hm10 := hm8.callZ hq6
 refine gg 10 rfl (Rn.bslS rfl rfl rfl Tryd.underlying28 el9 rfl rfl rfl rfl (by first | exact szs rfl | (simp [Value.cells]; done)) (by decide) ?_)
 intro b11 w11 hb11 m11 e11
 have hm12 := hm10.addLit (rep := textR) (xs := ([([97, 32, 51, 48, 48] : List UInt8), ([97, 32, 51, 48, 48] : List UInt8)] : List (List UInt8))) (vss := [[Str (([97, 32, 51, 48, 48] : List UInt8))], [Str (([97, 32, 51, 48, 48] : List UInt8))]]) hb11 e11 m11 rfl rfl rfl ((rels_cons (fun _ _ => ⟨rfl, trivial⟩) (rels_cons (fun _ _ => ⟨rfl, trivial⟩) rels0)))
 have hm16 := hm12.freeze 3 rfl
 obtain ⟨p14, e14, hM⟩ := bindE hM
 refine Rn.cl ck13 rfl rfl rfl rfl (m_index_New_sim (Z0 := hm16.Z) e14 (hm16.get 3 rfl) :) ?_
 rintro _ w14 ⟨F14_0, b14_0, rfl, hq14⟩
 refine ⟨_, rfl, ?_⟩
 have hm18 := hm16.callZ hq14
 refine gg 12 rfl (Rn.q rfl (V.eqlO Tryd.underlying32 rfl rfl) (gg 1 rfl ?_))
 refine Rn.cutR [6, 7, 8, 9, 10, 11, 12, 13] [(1, .pointer (optP b6_0 p6.1)), (5, iv p14.2.1), (6, iv p14.2.2), (29, .bool (decide ((((p6.1).isNone) = true) ∨ (p6.2.2 ≠ 0))))] (fun hk19 => ?_) ?_
 ·refine Rn.part (t := 26) rfl (fun h20 => ?_) (fun h20 => ?_)
  ·refine gg 3 rfl ?_
   refine hk19 _ ?_
   exact Sub.cons rfl (Sub.cons rfl (Sub.cons rfl (Sub.cons (lkB rfl) (Sub.nil _))))
  ·refine gg 3 rfl ?_
   refine hk19 _ ?_
   exact Sub.cons rfl (Sub.cons rfl (Sub.cons rfl (Sub.cons (lkB rfl) (Sub.nil _))))
 refine gg 1 rfl ?_
 refine Rn.cutR [10, 11, 12, 13] [(1, .pointer (optP b6_0 p6.1)), (6, iv p14.2.2), (33, .bool (decide (((((p6.1).isNone) = true) ∨ (p6.2.2 ≠ 0)) ∨ (p14.2.1 ≠ 1))))] (fun hk21 => ?_) ?_
 ·refine Rn.partD (t := 30) rfl (fun h22 => ?_) (fun h22 => ?_)
  ·refine gg 3 rfl ?_
   refine hk21 _ ?_
   exact Sub.cons rfl (Sub.cons rfl (Sub.cons (lkB rfl) (Sub.nil _)))
  ·refine gg 3 rfl ?_
   refine hk21 _ ?_
   exact Sub.cons rfl (Sub.cons rfl (Sub.cons (lkB rfl) (Sub.nil _)))
 refine gg 1 rfl ?_
 refine Rn.cutR [] [(1, .pointer (optP b6_0 p6.1)), (37, .bool (decide ((((((p6.1).isNone) = true) ∨ (p6.2.2 ≠ 0)) ∨ (p14.2.1 ≠ 1)) ∨ (p14.2.2 ≠ 8))))] (fun hk23 => ?_) ?_
 ·refine Rn.partD (t := 34) rfl (fun h24 => ?_) (fun h24 => ?_)
  ·refine gg 3 rfl ?_
   refine hk23 _ ?_
   exact Sub.cons rfl (Sub.cons (lkB rfl) (Sub.nil _))
  ·refine gg 3 rfl ?_
   refine hk23 _ ?_
   exact Sub.cons rfl (Sub.cons (lkB rfl) (Sub.nil _))
 refine gg 1 rfl ?_
 refine askD hM (Rn.condD rfl) (fun h25 hM => ?_) (fun h25 hM => ?_)
 ·refine gg 4 rfl ?_
  refine Rn.retG1 Tryd.func5 rfl (rvT rfl) ?_
  obtain rfl := someE hM
  exact ⟨rfl, hm18.pick [] rfl (by decide)⟩
 ·refine gg 4 rfl (Rn.q rfl (V.bldS (cs := [_, _, _]) st40 rfl rfl) (Rn.bslS rfl rfl rfl Tryd.underlying29 el40 rfl rfl rfl rfl (by first | exact szs rfl | (simp [Value.cells]; done)) (by decide) ?_))
  intro b26 w26 hb26 m26 e26
  have hm27 := hm18.addLit (rep := T_api_Match.rep) (xs := ([({ Key := ([98] : List UInt8), Glob := ([] : List UInt8), Not := false } : T_api_Match)] : List T_api_Match)) (vss := [[Str (([98] : List UInt8)), Str (([] : List UInt8)), .bool false]]) hb26 e26 m26 rfl rfl rfl ((rels_cons (fun _ _ => ⟨_, _, rfl, ⟨rfl, trivial⟩, ⟨_, _, rfl, ⟨rfl, trivial⟩, ⟨rfl, trivial⟩⟩⟩) rels0))
  obtain ⟨z30, e30, hM⟩ := bindE hM
  have hm31 := hm27.optSome 2 rfl e30
  refine Rn.say (t := 39) (pt b6_0 0) rfl (by rw [e30]; rfl) ?_
  obtain ⟨p29, e29, hM⟩ := bindE hM
  refine Rn.cl ck14 rfl rfl rfl rfl (m_index_Index_Select_sim (Z0 := All) e29 (fz_all (hm31.get 2 rfl)) (own_slR (hm31.get 5 rfl)) (rdR_all (hm31.get 0 rfl)) :) ?_
  rintro _ w29 ⟨A29_0_0, c29_0_0, rfl, hq29⟩
  refine ⟨_, rfl, ?_⟩
  have hm33 := hm31.callF (flC (ownR_flat (int_flat _) _ _ _ _) fl0) hq29
  refine gg 10 rfl (Rn.bslS rfl rfl rfl Tryd.underlying22 el3 rfl rfl rfl rfl (by first | exact szs rfl | (simp [Value.cells]; done)) (by decide) ?_)
  intro b34 w34 hb34 m34 e34
  have hm35 := hm33.addLit (rep := (intR .i64)) (xs := ([3, 4, 9] : List Int)) (vss := [[iv 3], [iv 4], [iv 9]]) hb34 e34 m34 rfl rfl rfl ((rels_cons (fun _ _ => ⟨rfl, trivial⟩) (rels_cons (fun _ _ => ⟨rfl, trivial⟩) (rels_cons (fun _ _ => ⟨rfl, trivial⟩) rels0))))
  obtain ⟨p37, e37, hM⟩ := bindE hM
  refine Rn.cl ck17 rfl rfl rfl rfl (m_index_Bytes_sim (Z0 := All) e37 (own_slR (hm35.get 7 rfl)) :) ?_
  rintro _ w37 ⟨A37_0_0, c37_0_0, rfl, hq37⟩
  refine ⟨_, rfl, ?_⟩
  have hm39 := hm35.callF (flC (ownR_flat byte_flat _ _ _ _) fl0) hq37
  replace hm39 := hm39.nf [_, _, _, _, _, _, _, _, _] rfl
  refine gg 11 rfl ?_
  refine Rn.cutR [7, 8, 9, 10, 11, 12, 13, 14, 15, 16, 17, 18, 19, 20, 21, 22, 23, 24, 25, 26, 27, 28, 29] [(7, .slice A29_0_0 (p29.1).length c29_0_0), (10, .slice A37_0_0 (p37.1).length c37_0_0), (11, iv p37.2), (57, .bool (decide ((p29.2.2 = 0) ∧ ((p29.1.length : Int) = 1))))] (fun hk40 => ?_) ?_
  ·refine Rn.partD (t := 53) rfl (fun h41 => ?_) (fun h41 => ?_)
   ·refine gg 1 rfl (Rn.q rfl (V.lenV Tryd.underlying22 rfl) (gg 2 rfl ?_))
    refine hk40 _ ?_
    exact Sub.cons rfl (Sub.cons rfl (Sub.cons rfl (Sub.cons (lkB rfl) (Sub.nil _))))
   ·refine gg 4 rfl ?_
    refine hk40 _ ?_
    exact Sub.cons rfl (Sub.cons rfl (Sub.cons rfl (Sub.cons (lkB rfl) (Sub.nil _))))
  refine gg 1 rfl ?_
  obtain ⟨j1, hj1, hM⟩ := jnE hM
  refine Rn.joinR (r := r) (G := Bool × (Nat → Prop) × (Nat → Prop)) [13, 14, 15, 16, 17, 18, 19, 20, 21, 22, 23, 24, 25, 26, 27, 28, 29] (fun g => [(10, .slice A37_0_0 (p37.1).length c37_0_0), (11, iv p37.2), (63, .bool ((g.1)))]) (fun g w' => Hp Z0 No w w' [rdR 0 0 gl0, T_index_Index.obj (g.2.1) b6_0 z30, optR p14.1 (fun z => T_index_Index.obj (g.2.2) b14_0 z), ownR 40 (some ⟨b26, 0, none⟩) 1 T_api_Match.rep ([({ Key := ([98] : List UInt8), Glob := ([] : List UInt8), Not := false } : T_api_Match)] : List T_api_Match), ownR 3 A29_0_0 c29_0_0 (intR .i64) p29.1, ownR 3 (some ⟨b34, 0, none⟩) 3 (intR .i64) ([3, 4, 9] : List Int), ownR 5 A37_0_0 c37_0_0 byteR p37.1]) (fun g => j1 g.1) ?_ ?_
  ·subst hj1
   clear hM
   rintro ⟨y44, F42, F43⟩ w45 hm45 hM
   try dsimp only at hM
   refine gg 1 rfl ?_
   refine Rn.cutR [17, 18, 19, 20, 21, 22, 23, 24, 25, 26, 27, 28, 29] [(10, .slice A37_0_0 (p37.1).length c37_0_0), (67, .bool (decide ((y44 = true) ∧ (p37.2 = 0))))] (fun hk46 => ?_) ?_
   ·refine Rn.part (t := 64) rfl (fun h47 => ?_) (fun h47 => ?_)
    ·refine gg 3 rfl ?_
     refine hk46 _ ?_
     exact Sub.cons rfl (Sub.cons (lkB rfl) (Sub.nil _))
    ·refine gg 3 rfl ?_
     refine hk46 _ ?_
     exact Sub.cons rfl (Sub.cons (lkB rfl) (Sub.nil _))
   refine gg 1 rfl ?_
   obtain ⟨j2, hj2, hM⟩ := jnE hM
   refine Rn.joinR (r := r) (G := Bool × (Nat → Prop) × (Nat → Prop)) [22, 23, 24, 25, 26, 27, 28, 29] (fun g => [(72, .bool ((g.1)))]) (fun g w' => Hp Z0 No w w' [rdR 0 0 gl0, T_index_Index.obj (g.2.1) b6_0 z30, optR p14.1 (fun z => T_index_Index.obj (g.2.2) b14_0 z), ownR 40 (some ⟨b26, 0, none⟩) 1 T_api_Match.rep ([({ Key := ([98] : List UInt8), Glob := ([] : List UInt8), Not := false } : T_api_Match)] : List T_api_Match), ownR 3 A29_0_0 c29_0_0 (intR .i64) p29.1, ownR 3 (some ⟨b34, 0, none⟩) 3 (intR .i64) ([3, 4, 9] : List Int), ownR 5 A37_0_0 c37_0_0 byteR p37.1]) (fun g => j2 g.1) ?_ ?_
   ·subst hj2
    clear hM
    rintro ⟨y50, F48, F49⟩ w51 hm51 hM
    try dsimp only at hM
    refine gg 1 rfl ?_
    obtain ⟨j3, hj3, hM⟩ := jnE hM
    refine Rn.joinR (r := r) (G := Bool × (Nat → Prop) × (Nat → Prop)) [29] (fun g => [(79, .bool ((g.1)))]) (fun g w' => Hp Z0 No w w' [rdR 0 0 gl0, T_index_Index.obj (g.2.1) b6_0 z30, optR p14.1 (fun z => T_index_Index.obj (g.2.2) b14_0 z), ownR 40 (some ⟨b26, 0, none⟩) 1 T_api_Match.rep ([({ Key := ([98] : List UInt8), Glob := ([] : List UInt8), Not := false } : T_api_Match)] : List T_api_Match), ownR 3 A29_0_0 c29_0_0 (intR .i64) p29.1, ownR 3 (some ⟨b34, 0, none⟩) 3 (intR .i64) ([3, 4, 9] : List Int), ownR 5 A37_0_0 c37_0_0 byteR p37.1]) (fun g => j3 g.1) ?_ ?_
    ·subst hj3
     clear hM
     rintro ⟨y54, F52, F53⟩ w55 hm55 hM
     try dsimp only at hM
     refine gg 2 rfl ?_
     refine Rn.retG1 Tryd.func5 rfl (rvT rfl) ?_
     obtain rfl := someE hM
     exact ⟨rfl, hm55.pick [] rfl (by decide)⟩
    intro hk3
    clear hj3
    refine askS hM (Rn.part (t := 73) rfl) (fun h56 hM => ?_) (fun h56 hM => ?_)
    ·refine Rn.bslS rfl rfl rfl Tryd.underlying22 el3 rfl rfl rfl rfl (by first | exact szs rfl | (simp [Value.cells]; done)) (by decide) ?_
     intro b57 w57 hb57 m57 e57
     have hm58 := hm51.addLit (rep := (intR .i64)) (xs := ([1, 2] : List Int)) (vss := [[iv 1], [iv 2]]) hb57 e57 m57 rfl rfl rfl ((rels_cons (fun _ _ => ⟨rfl, trivial⟩) (rels_cons (fun _ _ => ⟨rfl, trivial⟩) rels0)))
     refine Rn.bslS rfl rfl rfl Tryd.underlying22 el3 rfl rfl rfl rfl (by first | exact szs rfl | (simp [Value.cells]; done)) (by decide) ?_
     intro b60 w60 hb60 m60 e60
     have hm61 := hm58.addLit (rep := (intR .i64)) (xs := ([2, 3] : List Int)) (vss := [[iv 2], [iv 3]]) hb60 e60 m60 rfl rfl rfl ((rels_cons (fun _ _ => ⟨rfl, trivial⟩) (rels_cons (fun _ _ => ⟨rfl, trivial⟩) rels0)))
     obtain ⟨p63, e63, hM⟩ := bindE hM
     refine Rn.cl ck6 rfl rfl rfl rfl (m_index_And_sim (Z0 := All) e63 (own_slR (hm61.get 7 rfl)) (own_slR (hm61.get 8 rfl)) :) ?_
     rintro _ w63 ⟨A63_0_0, c63_0_0, rfl, hq63⟩
     refine ⟨_, rfl, ?_⟩
     have hm65 := hm61.callF (flC (ownR_flat (int_flat _) _ _ _ _) fl0) hq63
     replace hm65 := hm65.nf [_, _, _, _, _, _, _, _, _, _] rfl
     refine Rn.q rfl (V.lenV Tryd.underlying22 rfl) (gg 2 rfl ?_)
     exact hk3 ((decide ((p63.length : Int) = 1)), F48, F49) _ _ (sb ⟨rfl, trivial⟩) (hm65.pick [0, 1, 2, 3, 4, 5, 6] rfl (by decide)) hM
    ·refine gg 6 rfl ?_
     exact hk3 (false, F48, F49) _ _ (sb ⟨rfl, trivial⟩) (hm51.pick [0, 1, 2, 3, 4, 5, 6] rfl (by decide)) hM
   intro hk2
   clear hj2
   refine askD hM (Rn.partD (t := 68) rfl) (fun h66 hM => ?_) (fun h66 hM => ?_)
   ·refine gg 1 rfl (Rn.q rfl (V.b2s Tryd.underlying43 Tryd.underlying9 Tryd.underlying5 rfl rfl (Own.sl (hm45.get 6 rfl))) (Rn.q rfl (V.eqlS rfl rfl) (gg 1 rfl ?_)))
    exact hk2 ((decide (p37.1 = ([3, 3, 0, 4] : List UInt8))), F42, F43) _ _ (sb ⟨rfl, trivial⟩) (hm45.pick [0, 1, 2, 3, 4, 5, 6] rfl (by decide)) hM
   ·refine gg 4 rfl ?_
    exact hk2 (false, F42, F43) _ _ (sb ⟨rfl, trivial⟩) (hm45.pick [0, 1, 2, 3, 4, 5, 6] rfl (by decide)) hM
  intro hk1
  clear hj1
  refine askD hM (Rn.partD (t := 58) rfl) (fun h67 hM => ?_) (fun h67 hM => ?_)
  ·refine gg 1 rfl ?_
   obtain ⟨z68, e68, hM⟩ := bindE hM
   obtain ⟨kk68, ke68, kz68, kl68⟩ := idxE e68
   obtain ⟨g68, vs68, hA68, hR68, hrel68⟩ := hm39.ownAt 6 rfl kz68
   subst hA68
   obtain ⟨rfl, _⟩ := hrel68
   refine Rn.q rfl (V.ixE kk68 Tryd.underlying22 Tryd.sizeOf3 rfl rfl ke68 kl68) (Rn.q rfl (V.ldR0 Tryd.isAgg3 rfl hR68 rfl) (gg 2 rfl ?_))
   exact hk1 ((decide (z68 = 1)), F6_0, F14_0) _ _ (sb ⟨rfl, rfl, rfl, trivial⟩) (hm39.pick [0, 2, 4, 5, 6, 7, 8] rfl (by decide)) hM
  ·refine gg 5 rfl ?_
   exact hk1 (false, F6_0, F14_0) _ _ (sb ⟨rfl, rfl, rfl, trivial⟩) (hm39.pick [0, 2, 4, 5, 6, 7, 8] rfl (by decide)) hM

theorem m_limnographref35_Row_sim {Z0 : Nat → Prop} {w : World} {A0 : Option Addr} {c0 : Nat} {x0 : (List Int)} {r : Bool} (hM : m_limnographref35_Row x0 = some r) (f0 : (slR A0 c0 (intR .i64) x0).H Z0 w) :
    Calls Tryd.prog 9 #[.slice A0 (x0).length c0] w fun x w' => x = .returned (.bool (r)) ∧ Hp Z0 No w w' [] := by
 have hm0 := Hp.nil Z0 No w
 have hc0 := Calm.nil
 have hm2 := hm0.know (slR A0 c0 (intR .i64) x0) (fun _ h => h) (hm0.in0 hc0 f0)
 replace hc0 := hc0.snoc (r := slR A0 c0 (intR .i64) x0) (fun _ h => h)
 refine Rn.enter Tryd.func9 rfl rfl (Nat.le_of_ble_eq_true rfl) ?_
 refine gg 9 rfl ?_
 obtain ⟨j1, hj1, hM⟩ := jnE hM
 refine Rn.joinG (r := r) (G := Unit) (fun g => []) (fun g w' => Hp Z0 No w w' []) (fun g => j1 ()) ?_ ?_
 ·subst hj1
  clear hM
  rintro _ w3 hm3 hM
  try dsimp only at hM
  refine gg 4 rfl ?_
  refine Rn.retG1 Tryd.func9 rfl (rvT rfl) ?_
  obtain rfl := someE hM
  exact ⟨rfl, hm3.pick [] rfl (by decide)⟩
 intro hk1
 clear hj1
 refine gg 1 rfl ?_
 refine Rn.loopF (G := Int) (fun g => [(0, .slice A0 (x0).length c0), (3, iv g)]) (fun g w' => Hp Z0 No w w' [slR A0 c0 (intR .i64) x0]) (fun n g => m_limnographref35_Row_L1 x0 j1 n g) fuel 0 (sb ⟨rfl, rfl, trivial⟩) (hm2.pick [0] rfl (by decide)) hM (fun _ => rfl) ?_
 clear hM
 rintro m5 y4 w5 hm5 hM hn5
 replace hM : m_limnographref35_Row_L1 x0 j1 (m5 + 1) y4 = some r := hM
 rw [m_limnographref35_Row_L1] at hM
 refine gg 5 rfl (Rn.q rfl (V.lenV Tryd.underlying22 rfl) (gg 2 rfl ?_))
 refine askD hM (Rn.condD rfl) (fun h6 hM => ?_) (fun h6 hM => ?_)
 ·refine gg 4 rfl ?_
  obtain ⟨j2, hj2, hM⟩ := jnE hM
  refine Rn.joinG (r := r) (G := Bool) (fun g => [(0, .slice A0 (x0).length c0), (3, iv y4), (30, .bool (g))]) (fun g w' => Hp Z0 No w w' [slR A0 c0 (intR .i64) x0]) (fun g => j2 g) ?_ ?_
  ·subst hj2
   clear hM
   rintro y7 w8 hm8 hM
   try dsimp only at hM
   refine askS hM (Rn.condS rfl) (fun h9 hM => ?_) (fun h9 hM => ?_)
   ·refine gg 4 rfl ?_
    refine Rn.retG1 Tryd.func9 rfl (rvT rfl) ?_
    obtain rfl := someE hM
    exact ⟨rfl, hm8.pick [] rfl (by decide)⟩
   ·refine gg 7 rfl ?_
    exact hn5 (W64 (y4 + 1)) _ _ (sb ⟨rfl, rfl, trivial⟩) (hm8.pick [0] rfl (by decide)) hM
  intro hk2
  clear hj2
  refine Rn.drawP rfl hm5 ?_
  intro w10 hm10
  refine dd [0, 1] (by kernel_rfl) rfl rfl ?_
  obtain ⟨z11, e11, hM⟩ := bindE hM
  obtain ⟨kk11, ke11, kz11, kl11⟩ := idxE e11
  obtain ⟨b11, o11, vs11, hA11, hD11, hR11, hrel11⟩ := Hp.at hm10 0 rfl kz11
  obtain ⟨rfl, _⟩ := hrel11
  have hm13 := Hp.knowL [rdR b11 (o11 + kk11 * 1) [iv z11]] _ hm10 (knC (fun _ h => h) ⟨fun _ => hD11, hR11⟩ kn0)
  refine RH.takeP 2 (by kernel_rfl) rfl rfl rfl rfl (V.ixA' hA11 kk11 Tryd.underlying22 Tryd.sizeOf3 rfl rfl ke11 kl11) ?_
  refine RH.takeP 3 (by kernel_rfl) rfl rfl rfl rfl (V.ldR0 Tryd.isAgg3 rfl (hm13.get 1 rfl).2 rfl) ?_
  refine dd [4, 5] (by kernel_rfl) rfl rfl ?_
  refine askD hM (RH.partD (t := 15) rfl) (fun h14 hM => ?_) (fun h14 hM => ?_)
  ·refine dd [6, 7, 8, 9, 10, 11, 12, 13, 14, 15, 16, 17, 18, 19, 20] (by kernel_rfl) rfl rfl ?_
   refine RH.doneP (by kernel_rfl) ?_
   exact hk2 true _ _ (sb ⟨rfl, rfl, rfl, trivial⟩) (hm13.pick [0] rfl (by decide)) hM
  ·refine dd [6, 7, 8] (by kernel_rfl) rfl rfl ?_
   refine askD hM (RH.partD (t := 18) rfl) (fun h15 hM => ?_) (fun h15 hM => ?_)
   ·refine dd [9, 10] (by kernel_rfl) rfl rfl ?_
    obtain ⟨z16, e16, hM⟩ := bindE hM
    obtain ⟨kk16, ke16, kz16, kl16⟩ := idxE e16
    obtain ⟨b16, o16, vs16, hA16, hD16, hR16, hrel16⟩ := Hp.at hm13 0 rfl kz16
    obtain ⟨rfl, _⟩ := hrel16
    have hm18 := Hp.knowL [rdR b16 (o16 + kk16 * 1) [iv z16]] _ hm13 (knC (fun _ h => h) ⟨fun _ => hD16, hR16⟩ kn0)
    refine RH.takeP 11 (by kernel_rfl) rfl rfl rfl rfl (V.ixA' hA16 kk16 Tryd.underlying22 Tryd.sizeOf3 rfl rfl ke16 kl16) ?_
    refine RH.takeP 12 (by kernel_rfl) rfl rfl rfl rfl (V.ldR0 Tryd.isAgg3 rfl (hm18.get 2 rfl).2 rfl) ?_
    refine dd [13, 14, 15] (by kernel_rfl) rfl rfl ?_
    obtain ⟨z19, e19, hM⟩ := bindE hM
    obtain ⟨kk19, ke19, kz19, kl19⟩ := idxE e19
    obtain ⟨b19, o19, vs19, hA19, hD19, hR19, hrel19⟩ := Hp.at hm18 0 rfl kz19
    obtain ⟨rfl, _⟩ := hrel19
    have hm21 := Hp.knowL [rdR b19 (o19 + kk19 * 1) [iv z19]] _ hm18 (knC (fun _ h => h) ⟨fun _ => hD19, hR19⟩ kn0)
    refine RH.takeP 16 (by kernel_rfl) rfl rfl rfl rfl (V.ixA' hA19 kk19 Tryd.underlying22 Tryd.sizeOf3 rfl rfl ke19 kl19) ?_
    refine RH.takeP 17 (by kernel_rfl) rfl rfl rfl rfl (V.ldR0 Tryd.isAgg3 rfl (hm21.get 3 rfl).2 rfl) ?_
    refine dd [18, 19, 20] (by kernel_rfl) rfl rfl ?_
    refine RH.doneP (by kernel_rfl) ?_
    exact hk2 (decide (z16 ≤ z19)) _ _ (sb ⟨rfl, rfl, rfl, trivial⟩) (hm21.pick [0] rfl (by decide)) hM
   ·refine dd [9, 10, 11, 12, 13, 14, 15, 16, 17, 18, 19, 20] (by kernel_rfl) rfl rfl ?_
    refine RH.doneP (by kernel_rfl) ?_
    exact hk2 false _ _ (sb ⟨rfl, rfl, rfl, trivial⟩) (hm13.pick [0] rfl (by decide)) hM
 ·refine gg 1 rfl ?_
  exact hk1 () _ _ (sb trivial) (hm5.pick [] rfl (by decide)) hM

theorem m_limnographref35_In_sim {Z0 : Nat → Prop} {w : World} {A0 : Option Addr} {c0 : Nat} {x0 : (List Int)} {x1 : Int} {r : Bool} (hM : m_limnographref35_In x0 x1 = some r) (f0 : (slR A0 c0 (intR .i64) x0).H Z0 w) :
    Calls Tryd.prog 10 #[.slice A0 (x0).length c0, iv x1] w fun x w' => x = .returned (.bool (r)) ∧ Hp Z0 No w w' [] := by
 have hm0 := Hp.nil Z0 No w
 have hc0 := Calm.nil
 have hm2 := hm0.know (slR A0 c0 (intR .i64) x0) (fun _ h => h) (hm0.in0 hc0 f0)
 replace hc0 := hc0.snoc (r := slR A0 c0 (intR .i64) x0) (fun _ h => h)
 refine Rn.enter Tryd.func10 rfl rfl (Nat.le_of_ble_eq_true rfl) ?_
 refine gg 9 rfl ?_
 obtain ⟨j1, hj1, hM⟩ := jnE hM
 refine Rn.joinG (r := r) (G := Unit) (fun g => []) (fun g w' => Hp Z0 No w w' []) (fun g => j1 ()) ?_ ?_
 ·subst hj1
  clear hM
  rintro _ w3 hm3 hM
  try dsimp only at hM
  refine gg 4 rfl ?_
  refine Rn.retG1 Tryd.func10 rfl (rvT rfl) ?_
  obtain rfl := someE hM
  exact ⟨rfl, hm3.pick [] rfl (by decide)⟩
 intro hk1
 clear hj1
 refine gg 1 rfl ?_
 refine Rn.loopF (G := Int) (fun g => [(0, .slice A0 (x0).length c0), (1, iv x1), (5, iv g)]) (fun g w' => Hp Z0 No w w' [slR A0 c0 (intR .i64) x0]) (fun n g => m_limnographref35_In_L1 x0 x1 j1 n g) fuel 0 (sb ⟨rfl, rfl, rfl, trivial⟩) (hm2.pick [0] rfl (by decide)) hM (fun _ => rfl) ?_
 clear hM
 rintro m5 y4 w5 hm5 hM hn5
 replace hM : m_limnographref35_In_L1 x0 x1 j1 (m5 + 1) y4 = some r := hM
 rw [m_limnographref35_In_L1] at hM
 refine gg 5 rfl (Rn.q rfl (V.lenV Tryd.underlying22 rfl) (gg 2 rfl ?_))
 refine askD hM (Rn.condD rfl) (fun h6 hM => ?_) (fun h6 hM => ?_)
 ·refine gg 7 rfl ?_
  obtain ⟨z7, e7, hM⟩ := bindE hM
  refine Rn.ixH hm5 0 rfl e7 rfl rfl rfl Tryd.underlying22 Tryd.sizeOf3 rfl rfl rfl rfl ?_
  rintro b7 o7 vs7 ⟨rfl, _⟩ hm7
  refine Rn.q rfl (V.ldR0 Tryd.isAgg3 rfl (hm7.get 1 rfl).2 rfl) (gg 3 rfl ?_)
  refine askD hM (Rn.condD rfl) (fun h9 hM => ?_) (fun h9 hM => ?_)
  ·refine gg 4 rfl ?_
   refine Rn.retG1 Tryd.func10 rfl (rvT rfl) ?_
   obtain rfl := someE hM
   exact ⟨rfl, hm7.pick [] rfl (by decide)⟩
  ·refine gg 7 rfl ?_
   exact hn5 (W64 (y4 + 1)) _ _ (sb ⟨rfl, rfl, rfl, trivial⟩) (hm7.pick [0] rfl (by decide)) hM
 ·refine gg 1 rfl ?_
  exact hk1 () _ _ (sb trivial) (hm5.pick [] rfl (by decide)) hM

theorem m_limnographlaw35_IndexRows_sim {Z0 : Nat → Prop} {w : World} {A0 : Option Addr} {c0 : Nat} {x0 : (List Int)} {A1 : Option Addr} {c1 : Nat} {x1 : (List Int)} {x2 : Int} {r : Bool} (hM : m_limnographlaw35_IndexRows x0 x1 x2 = some r) (f0 : (slR A0 c0 (intR .i64) x0).H Z0 w) (f1 : (slR A1 c1 (intR .i64) x1).H Z0 w) (f2 : (rdR 0 0 gl0).H Z0 w) :
    Calls Tryd.prog 3 #[.slice A0 (x0).length c0, .slice A1 (x1).length c1, iv x2] w fun x w' => x = .returned (.bool (r)) ∧ Hp Z0 No w w' [] := by
 have hm0 := Hp.nil Z0 No w
 have hc0 := Calm.nil
 have hm4 := hm0.know (slR A0 c0 (intR .i64) x0) (fun _ h => h) (hm0.in0 hc0 f0)
 replace hc0 := hc0.snoc (r := slR A0 c0 (intR .i64) x0) (fun _ h => h)
 have hm5 := hm4.know (slR A1 c1 (intR .i64) x1) (fun _ h => h) (hm4.in0 hc0 f1)
 replace hc0 := hc0.snoc (r := slR A1 c1 (intR .i64) x1) (fun _ h => h)
 have hm6 := hm5.know (rdR 0 0 gl0) (fun _ h => h) (hm5.in0 hc0 f2)
 replace hc0 := hc0.snoc (r := rdR 0 0 gl0) (fun _ h => h)
 refine Rn.enter Tryd.func3 rfl rfl (Nat.le_of_ble_eq_true rfl) ?_
 refine gg 7 rfl ?_
 obtain ⟨p7, e7, hM⟩ := bindE hM
 refine Rn.cl ck5 rfl rfl rfl rfl (m_limnographlaw35_awake_sim (Z0 := All) e7 (rdR_all (hm6.get 2 rfl)) :) ?_
 rintro _ w7 ⟨rfl, hq7⟩
 refine ⟨_, rfl, ?_⟩
 have hm8 := hm6.call0 hq7
 refine Rn.q rfl (V.notB rfl) (gg 1 rfl ?_)
 refine askS hM (Rn.condS rfl) (fun h9 hM => ?_) (fun h9 hM => ?_)
 ·refine gg 4 rfl ?_
  refine Rn.retG1 Tryd.func3 rfl (rvT rfl) ?_
  obtain rfl := someE hM
  exact ⟨rfl, hm8.pick [] rfl (by decide)⟩
 ·refine gg 5 rfl (Rn.q rfl (V.lenV Tryd.underlying22 rfl) (gg 2 rfl ?_))
  refine Rn.cutR [] [(0, .slice A0 (x0).length c0), (1, .slice A1 (x1).length c1), (2, iv x2), (24, .bool (decide (((x0.length : Int) > 60) ∨ ((x1.length : Int) > 60))))] (fun hk10 => ?_) ?_
  ·refine Rn.partD (t := 20) rfl (fun h11 => ?_) (fun h11 => ?_)
   ·refine gg 4 rfl ?_
    refine hk10 _ ?_
    exact Sub.cons rfl (Sub.cons rfl (Sub.cons rfl (Sub.cons (lkB rfl) (Sub.nil _))))
   ·refine gg 1 rfl (Rn.q rfl (V.lenV Tryd.underlying22 rfl) (gg 2 rfl ?_))
    refine hk10 _ ?_
    exact Sub.cons rfl (Sub.cons rfl (Sub.cons rfl (Sub.cons (lkB rfl) (Sub.nil _))))
  refine gg 1 rfl ?_
  refine askD hM (Rn.condD rfl) (fun h12 hM => ?_) (fun h12 hM => ?_)
  ·refine gg 4 rfl ?_
   refine Rn.retG1 Tryd.func3 rfl (rvT rfl) ?_
   obtain rfl := someE hM
   exact ⟨rfl, hm8.pick [] rfl (by decide)⟩
  ·refine gg 5 rfl ?_
   obtain ⟨p13, e13, hM⟩ := bindE hM
   refine Rn.cl ck6 rfl rfl rfl rfl (m_index_And_sim (Z0 := All) e13 (slR_all (hm8.get 0 rfl)) (slR_all (hm8.get 1 rfl)) :) ?_
   rintro _ w13 ⟨A13_0_0, c13_0_0, rfl, hq13⟩
   refine ⟨_, rfl, ?_⟩
   have hm15 := hm8.callF (flC (ownR_flat (int_flat _) _ _ _ _) fl0) hq13
   refine gg 2 rfl ?_
   obtain ⟨p16, e16, hM⟩ := bindE hM
   refine Rn.cl ck7 rfl rfl rfl rfl (m_index_Or_sim (Z0 := All) e16 (slR_all (hm15.get 0 rfl)) (slR_all (hm15.get 1 rfl)) :) ?_
   rintro _ w16 ⟨A16_0_0, c16_0_0, rfl, hq16⟩
   refine ⟨_, rfl, ?_⟩
   have hm18 := hm15.callF (flC (ownR_flat (int_flat _) _ _ _ _) fl0) hq16
   refine gg 2 rfl ?_
   obtain ⟨p19, e19, hM⟩ := bindE hM
   refine Rn.cl ck8 rfl rfl rfl rfl (m_index_Less_sim (Z0 := All) e19 (slR_all (hm18.get 0 rfl)) (slR_all (hm18.get 1 rfl)) :) ?_
   rintro _ w19 ⟨A19_0_0, c19_0_0, rfl, hq19⟩
   refine ⟨_, rfl, ?_⟩
   have hm21 := hm18.callF (flC (ownR_flat (int_flat _) _ _ _ _) fl0) hq19
   refine gg 8 rfl ?_
   obtain ⟨p22, e22, hM⟩ := bindE hM
   refine Rn.cl ck9 rfl rfl rfl rfl (m_limnographref35_Row_sim (Z0 := All) e22 (slR_all (hm21.get 0 rfl)) :) ?_
   rintro _ w22 ⟨rfl, hq22⟩
   refine ⟨_, rfl, ?_⟩
   have hm23 := hm21.call0 hq22
   refine Rn.q rfl (V.notB rfl) (gg 1 rfl ?_)
   obtain ⟨j1, hj1, hM⟩ := jnE hM
   refine Rn.joinR (r := r) (G := Bool) [] (fun g => [(0, .slice A0 (x0).length c0), (1, .slice A1 (x1).length c1), (2, iv x2), (7, .slice A13_0_0 (p13).length c13_0_0), (8, .slice A16_0_0 (p16).length c16_0_0), (9, .slice A19_0_0 (p19).length c19_0_0), (41, .bool (g))]) (fun g w' => Hp Z0 No w w' [slR A0 c0 (intR .i64) x0, slR A1 c1 (intR .i64) x1, rdR 0 0 gl0, ownR 3 A13_0_0 c13_0_0 (intR .i64) p13, ownR 3 A16_0_0 c16_0_0 (intR .i64) p16, ownR 3 A19_0_0 c19_0_0 (intR .i64) p19]) (fun g => j1 g) ?_ ?_
   ·subst hj1
    clear hM
    rintro y24 w25 hm25 hM
    try dsimp only at hM
    refine gg 1 rfl ?_
    refine askS hM (Rn.condS rfl) (fun h26 hM => ?_) (fun h26 hM => ?_)
    ·refine gg 4 rfl ?_
     refine Rn.retG1 Tryd.func3 rfl (rvT rfl) ?_
     obtain rfl := someE hM
     exact ⟨rfl, hm25.pick [] rfl (by decide)⟩
    ·refine gg 5 rfl ?_
     obtain ⟨p27, e27, hM⟩ := bindE hM
     refine Rn.cl ck9 rfl rfl rfl rfl (m_limnographref35_Row_sim (Z0 := All) e27 (own_slR (hm25.get 3 rfl)) :) ?_
     rintro _ w27 ⟨rfl, hq27⟩
     refine ⟨_, rfl, ?_⟩
     have hm28 := hm25.call0 hq27
     refine Rn.q rfl (V.notB rfl) (gg 1 rfl ?_)
     obtain ⟨j2, hj2, hM⟩ := jnE hM
     refine Rn.joinR (r := r) (G := Bool) [8, 9, 10, 11, 12, 13, 14, 15, 16, 17, 18, 19, 20, 21, 22, 23, 24, 25, 26, 27, 28, 29, 30, 31, 32] (fun g => [(0, .slice A0 (x0).length c0), (1, .slice A1 (x1).length c1), (2, iv x2), (7, .slice A13_0_0 (p13).length c13_0_0), (8, .slice A16_0_0 (p16).length c16_0_0), (9, .slice A19_0_0 (p19).length c19_0_0), (49, .bool (g))]) (fun g w' => Hp Z0 No w w' [slR A0 c0 (intR .i64) x0, slR A1 c1 (intR .i64) x1, rdR 0 0 gl0, ownR 3 A13_0_0 c13_0_0 (intR .i64) p13, ownR 3 A16_0_0 c16_0_0 (intR .i64) p16, ownR 3 A19_0_0 c19_0_0 (intR .i64) p19]) (fun g => j2 g) ?_ ?_
     ·subst hj2
      clear hM
      rintro y29 w30 hm30 hM
      try dsimp only at hM
      refine gg 1 rfl ?_
      obtain ⟨j3, hj3, hM⟩ := jnE hM
      refine Rn.joinR (r := r) (G := Bool) [13, 14, 15, 16, 17, 18, 19, 20, 21, 22, 23, 24, 25, 26, 27, 28, 29, 30, 31, 32] (fun g => [(0, .slice A0 (x0).length c0), (1, .slice A1 (x1).length c1), (2, iv x2), (7, .slice A13_0_0 (p13).length c13_0_0), (8, .slice A16_0_0 (p16).length c16_0_0), (9, .slice A19_0_0 (p19).length c19_0_0), (54, .bool (g))]) (fun g w' => Hp Z0 No w w' [slR A0 c0 (intR .i64) x0, slR A1 c1 (intR .i64) x1, rdR 0 0 gl0, ownR 3 A13_0_0 c13_0_0 (intR .i64) p13, ownR 3 A16_0_0 c16_0_0 (intR .i64) p16, ownR 3 A19_0_0 c19_0_0 (intR .i64) p19]) (fun g => j3 g) ?_ ?_
      ·subst hj3
       clear hM
       rintro y31 w32 hm32 hM
       try dsimp only at hM
       refine gg 1 rfl ?_
       obtain ⟨j4, hj4, hM⟩ := jnE hM
       refine Rn.joinR (r := r) (G := Bool) [23, 24, 25, 26, 27, 28, 29, 30, 31, 32] (fun g => [(0, .slice A0 (x0).length c0), (1, .slice A1 (x1).length c1), (2, iv x2), (7, .slice A13_0_0 (p13).length c13_0_0), (8, .slice A16_0_0 (p16).length c16_0_0), (9, .slice A19_0_0 (p19).length c19_0_0), (64, .bool (g))]) (fun g w' => Hp Z0 No w w' [slR A0 c0 (intR .i64) x0, slR A1 c1 (intR .i64) x1, rdR 0 0 gl0, ownR 3 A13_0_0 c13_0_0 (intR .i64) p13, ownR 3 A16_0_0 c16_0_0 (intR .i64) p16, ownR 3 A19_0_0 c19_0_0 (intR .i64) p19]) (fun g => j4 g) ?_ ?_
       ·subst hj4
        clear hM
        rintro y33 w34 hm34 hM
        try dsimp only at hM
        refine gg 1 rfl ?_
        obtain ⟨j5, hj5, hM⟩ := jnE hM
        refine Rn.joinR (r := r) (G := Bool) [] (fun g => [(0, .slice A0 (x0).length c0), (1, .slice A1 (x1).length c1), (2, iv x2), (7, .slice A13_0_0 (p13).length c13_0_0), (8, .slice A16_0_0 (p16).length c16_0_0), (9, .slice A19_0_0 (p19).length c19_0_0), (74, .bool (g))]) (fun g w' => Hp Z0 No w w' [slR A0 c0 (intR .i64) x0, slR A1 c1 (intR .i64) x1, rdR 0 0 gl0, ownR 3 A13_0_0 c13_0_0 (intR .i64) p13, ownR 3 A16_0_0 c16_0_0 (intR .i64) p16, ownR 3 A19_0_0 c19_0_0 (intR .i64) p19]) (fun g => j5 g) ?_ ?_
        ·subst hj5
         clear hM
         rintro y35 w36 hm36 hM
         try dsimp only at hM
         refine gg 1 rfl ?_
         refine askS hM (Rn.condS rfl) (fun h37 hM => ?_) (fun h37 hM => ?_)
         ·refine gg 4 rfl ?_
          refine Rn.retG1 Tryd.func3 rfl (rvT rfl) ?_
          obtain rfl := someE hM
          exact ⟨rfl, hm36.pick [] rfl (by decide)⟩
         ·refine gg 4 rfl (Rn.bslS rfl rfl rfl Tryd.underlying22 el3 rfl rfl rfl rfl (by first | exact szs rfl | (simp [Value.cells]; done)) (by decide) ?_)
          intro b38 w38 hb38 m38 e38
          have hm39 := hm36.addLit (rep := (intR .i64)) (xs := ([x2] : List Int)) (vss := [[iv x2]]) hb38 e38 m38 rfl rfl rfl ((rels_cons (fun _ _ => ⟨rfl, trivial⟩) rels0))
          refine gg 1 rfl ?_
          obtain ⟨z41, e41, hM⟩ := bindE hM
          refine Rn.appH hm39 6 rfl e41 rfl rfl rfl Tryd.underlying22 el3 rfl rfl rfl rfl (hm39.src 0 rfl) ?_
          intro A41 c41 w41 hm41
          refine gg 1 rfl ?_
          obtain ⟨z43, e43, hM⟩ := bindE hM
          refine Rn.appH hm41 6 rfl e43 rfl rfl rfl Tryd.underlying22 el3 rfl rfl rfl rfl (hm41.src 1 rfl) ?_
          intro A43 c43 w43 hm43
          refine gg 7 rfl ?_
          obtain ⟨j6, hj6, hM⟩ := jnE hM
          refine Rn.joinG (r := r) (G := Unit) (fun g => []) (fun g w' => Hp Z0 No w w' [rdR 0 0 gl0, ownR 3 A13_0_0 c13_0_0 (intR .i64) p13, ownR 3 A16_0_0 c16_0_0 (intR .i64) p16, ownR 3 A19_0_0 c19_0_0 (intR .i64) p19, ownR 3 A43 c43 (intR .i64) z43]) (fun g => j6 ()) ?_ ?_
          ·subst hj6
           clear hM
           rintro _ w45 hm45 hM
           try dsimp only at hM
           refine gg 4 rfl ?_
           refine Rn.retG1 Tryd.func3 rfl (rvT rfl) ?_
           obtain rfl := someE hM
           exact ⟨rfl, hm45.pick [] rfl (by decide)⟩
          intro hk6
          clear hj6
          refine gg 1 rfl ?_
          refine Rn.loopF (G := Int) (fun g => [(0, .slice A0 (x0).length c0), (1, .slice A1 (x1).length c1), (7, .slice A13_0_0 (p13).length c13_0_0), (8, .slice A16_0_0 (p16).length c16_0_0), (9, .slice A19_0_0 (p19).length c19_0_0), (10, .slice A43 (z43).length c43), (11, iv g)]) (fun g w' => Hp Z0 No w w' [slR A0 c0 (intR .i64) x0, slR A1 c1 (intR .i64) x1, rdR 0 0 gl0, ownR 3 A13_0_0 c13_0_0 (intR .i64) p13, ownR 3 A16_0_0 c16_0_0 (intR .i64) p16, ownR 3 A19_0_0 c19_0_0 (intR .i64) p19, ownR 3 A43 c43 (intR .i64) z43]) (fun n g => m_limnographlaw35_IndexRows_L1 x0 x1 p13 p16 p19 z43 j6 n g) fuel 0 (sb ⟨rfl, rfl, rfl, rfl, rfl, rfl, rfl, trivial⟩) (hm43.pick [0, 1, 2, 3, 4, 5, 6] rfl (by decide)) hM (fun _ => rfl) ?_
          clear hM
          rintro m47 y46 w47 hm47 hM hn47
          replace hM : m_limnographlaw35_IndexRows_L1 x0 x1 p13 p16 p19 z43 j6 (m47 + 1) y46 = some r := hM
          rw [m_limnographlaw35_IndexRows_L1] at hM
          refine gg 5 rfl (Rn.q rfl (V.lenV Tryd.underlying22 rfl) (gg 2 rfl ?_))
          refine askD hM (Rn.condD rfl) (fun h48 hM => ?_) (fun h48 hM => ?_)
          ·refine gg 7 rfl ?_
           obtain ⟨z49, e49, hM⟩ := bindE hM
           obtain ⟨kk49, ke49, kz49, kl49⟩ := idxE e49
           obtain ⟨g49, vs49, hA49, hR49, hrel49⟩ := hm47.ownAt 6 rfl kz49
           subst hA49
           obtain ⟨rfl, _⟩ := hrel49
           refine Rn.q rfl (V.ixE kk49 Tryd.underlying22 Tryd.sizeOf3 rfl rfl ke49 kl49) (Rn.q rfl (V.ldR0 Tryd.isAgg3 rfl hR49 rfl) (gg 6 rfl ?_))
           obtain ⟨p50, e50, hM⟩ := bindE hM
           refine Rn.cl ck10 rfl rfl rfl rfl (m_limnographref35_In_sim (Z0 := All) e50 (slR_all (hm47.get 0 rfl)) :) ?_
           rintro _ w50 ⟨rfl, hq50⟩
           refine ⟨_, rfl, ?_⟩
           have hm51 := hm47.call0 hq50
           refine gg 2 rfl ?_
           obtain ⟨p52, e52, hM⟩ := bindE hM
           refine Rn.cl ck10 rfl rfl rfl rfl (m_limnographref35_In_sim (Z0 := All) e52 (slR_all (hm51.get 1 rfl)) :) ?_
           rintro _ w52 ⟨rfl, hq52⟩
           refine ⟨_, rfl, ?_⟩
           have hm53 := hm51.call0 hq52
           refine gg 7 rfl ?_
           obtain ⟨p54, e54, hM⟩ := bindE hM
           refine Rn.cl ck10 rfl rfl rfl rfl (m_limnographref35_In_sim (Z0 := All) e54 (own_slR (hm53.get 3 rfl)) :) ?_
           rintro _ w54 ⟨rfl, hq54⟩
           refine ⟨_, rfl, ?_⟩
           have hm55 := hm53.call0 hq54
           refine gg 2 rfl ?_
           refine Rn.cutR [7, 8, 9, 10, 11, 12, 13, 14, 15, 16, 17, 18, 19, 20, 21, 22, 23, 24, 25, 26, 27, 28] [(0, .slice A0 (x0).length c0), (1, .slice A1 (x1).length c1), (7, .slice A13_0_0 (p13).length c13_0_0), (8, .slice A16_0_0 (p16).length c16_0_0), (9, .slice A19_0_0 (p19).length c19_0_0), (10, .slice (some ⟨g49, 0, none⟩) (z43).length c43), (11, iv y46), (12, iv z49), (13, .bool (p50)), (14, .bool (p52)), (99, .bool (p54)), (103, .bool (decide ((p50 = true) ∧ (p52 = true))))] (fun hk56 => ?_) ?_
           ·refine Rn.part (t := 101) rfl (fun h57 => ?_) (fun h57 => ?_)
            ·refine gg 2 rfl ?_
             refine hk56 _ ?_
             exact Sub.cons rfl (Sub.cons rfl (Sub.cons rfl (Sub.cons rfl (Sub.cons rfl (Sub.cons rfl (Sub.cons rfl (Sub.cons rfl (Sub.cons rfl (Sub.cons rfl (Sub.cons rfl (Sub.cons (lkB rfl) (Sub.nil _))))))))))))
            ·refine gg 2 rfl ?_
             refine hk56 _ ?_
             exact Sub.cons rfl (Sub.cons rfl (Sub.cons rfl (Sub.cons rfl (Sub.cons rfl (Sub.cons rfl (Sub.cons rfl (Sub.cons rfl (Sub.cons rfl (Sub.cons rfl (Sub.cons rfl (Sub.cons (lkB rfl) (Sub.nil _))))))))))))
           refine Rn.q rfl (V.neqB Tryd.underlying4 rfl rfl) (gg 1 rfl ?_)
           obtain ⟨j7, hj7, hM⟩ := jnE hM
           refine Rn.joinR (r := r) (G := Bool) [18, 19, 20, 21, 22, 23, 24, 25, 26, 27, 28] (fun g => [(0, .slice A0 (x0).length c0), (1, .slice A1 (x1).length c1), (7, .slice A13_0_0 (p13).length c13_0_0), (8, .slice A16_0_0 (p16).length c16_0_0), (9, .slice A19_0_0 (p19).length c19_0_0), (10, .slice (some ⟨g49, 0, none⟩) (z43).length c43), (11, iv y46), (12, iv z49), (13, .bool (p50)), (14, .bool (p52)), (114, .bool (g))]) (fun g w' => Hp Z0 No w w' [slR A0 c0 (intR .i64) x0, slR A1 c1 (intR .i64) x1, rdR 0 0 gl0, ownR 3 A13_0_0 c13_0_0 (intR .i64) p13, ownR 3 A16_0_0 c16_0_0 (intR .i64) p16, ownR 3 A19_0_0 c19_0_0 (intR .i64) p19, ownR 3 (some ⟨g49, 0, none⟩) c43 (intR .i64) z43]) (fun g => j7 g) ?_ ?_
           ·subst hj7
            clear hM
            rintro y58 w59 hm59 hM
            try dsimp only at hM
            refine gg 1 rfl ?_
            obtain ⟨j8, hj8, hM⟩ := jnE hM
            refine Rn.joinR (r := r) (G := Bool) [] (fun g => [(0, .slice A0 (x0).length c0), (1, .slice A1 (x1).length c1), (7, .slice A13_0_0 (p13).length c13_0_0), (8, .slice A16_0_0 (p16).length c16_0_0), (9, .slice A19_0_0 (p19).length c19_0_0), (10, .slice (some ⟨g49, 0, none⟩) (z43).length c43), (11, iv y46), (125, .bool (g))]) (fun g w' => Hp Z0 No w w' [slR A0 c0 (intR .i64) x0, slR A1 c1 (intR .i64) x1, rdR 0 0 gl0, ownR 3 A13_0_0 c13_0_0 (intR .i64) p13, ownR 3 A16_0_0 c16_0_0 (intR .i64) p16, ownR 3 A19_0_0 c19_0_0 (intR .i64) p19, ownR 3 (some ⟨g49, 0, none⟩) c43 (intR .i64) z43]) (fun g => j8 g) ?_ ?_
            ·subst hj8
             clear hM
             rintro y60 w61 hm61 hM
             try dsimp only at hM
             refine gg 1 rfl ?_
             refine askS hM (Rn.condS rfl) (fun h62 hM => ?_) (fun h62 hM => ?_)
             ·refine gg 4 rfl ?_
              refine Rn.retG1 Tryd.func3 rfl (rvT rfl) ?_
              obtain rfl := someE hM
              exact ⟨rfl, hm61.pick [] rfl (by decide)⟩
             ·refine gg 7 rfl ?_
              exact hn47 (W64 (y46 + 1)) _ _ (sb ⟨rfl, rfl, rfl, rfl, rfl, rfl, rfl, trivial⟩) (hm61.pick [0, 1, 2, 3, 4, 5, 6] rfl (by decide)) hM
            intro hk8
            clear hj8
            refine askS hM (Rn.part (t := 115) rfl) (fun h63 hM => ?_) (fun h63 hM => ?_)
            ·refine gg 10 rfl ?_
             exact hk8 true _ _ (sb ⟨rfl, rfl, rfl, rfl, rfl, rfl, rfl, rfl, trivial⟩) (hm59.pick [0, 1, 2, 3, 4, 5, 6] rfl (by decide)) hM
            ·refine gg 2 rfl ?_
             obtain ⟨p64, e64, hM⟩ := bindE hM
             refine Rn.cl ck10 rfl rfl rfl rfl (m_limnographref35_In_sim (Z0 := All) e64 (own_slR (hm59.get 5 rfl)) :) ?_
             rintro _ w64 ⟨rfl, hq64⟩
             refine ⟨_, rfl, ?_⟩
             have hm65 := hm59.call0 hq64
             refine gg 2 rfl ?_
             refine Rn.cutR [27, 28] [(0, .slice A0 (x0).length c0), (1, .slice A1 (x1).length c1), (7, .slice A13_0_0 (p13).length c13_0_0), (8, .slice A16_0_0 (p16).length c16_0_0), (9, .slice A19_0_0 (p19).length c19_0_0), (10, .slice (some ⟨g49, 0, none⟩) (z43).length c43), (11, iv y46), (115, .bool false), (118, .bool (p64)), (123, .bool (decide ((p50 = true) ∧ ((!p52) = true))))] (fun hk66 => ?_) ?_
             ·refine Rn.part (t := 120) rfl (fun h67 => ?_) (fun h67 => ?_)
              ·refine gg 1 rfl (Rn.q rfl (V.notB rfl) (gg 1 rfl ?_))
               refine hk66 _ ?_
               exact Sub.cons rfl (Sub.cons rfl (Sub.cons rfl (Sub.cons rfl (Sub.cons rfl (Sub.cons rfl (Sub.cons rfl (Sub.cons rfl (Sub.cons rfl (Sub.cons (lkB rfl) (Sub.nil _))))))))))
              ·refine gg 3 rfl ?_
               refine hk66 _ ?_
               exact Sub.cons rfl (Sub.cons rfl (Sub.cons rfl (Sub.cons rfl (Sub.cons rfl (Sub.cons rfl (Sub.cons rfl (Sub.cons rfl (Sub.cons rfl (Sub.cons (lkB rfl) (Sub.nil _))))))))))
             refine Rn.q rfl (V.neqB Tryd.underlying4 rfl rfl) (gg 1 rfl ?_)
             exact hk8 (decide (p64 ≠ decide ((p50 = true) ∧ ((!p52) = true)))) _ _ (sb ⟨rfl, rfl, rfl, rfl, rfl, rfl, rfl, rfl, trivial⟩) (hm65.pick [0, 1, 2, 3, 4, 5, 6] rfl (by decide)) hM
           intro hk7
           clear hj7
           refine askD hM (Rn.partD (t := 105) rfl) (fun h68 hM => ?_) (fun h68 hM => ?_)
           ·refine gg 9 rfl ?_
            exact hk7 true _ _ (sb ⟨rfl, rfl, rfl, rfl, rfl, rfl, rfl, rfl, rfl, rfl, rfl, trivial⟩) (hm55.pick [0, 1, 2, 3, 4, 5, 6] rfl (by decide)) hM
           ·refine gg 2 rfl ?_
            obtain ⟨p69, e69, hM⟩ := bindE hM
            refine Rn.cl ck10 rfl rfl rfl rfl (m_limnographref35_In_sim (Z0 := All) e69 (own_slR (hm55.get 4 rfl)) :) ?_
            rintro _ w69 ⟨rfl, hq69⟩
            refine ⟨_, rfl, ?_⟩
            have hm70 := hm55.call0 hq69
            refine gg 2 rfl ?_
            refine Rn.cutR [16, 17, 18, 19, 20, 21, 22, 23, 24, 25, 26, 27, 28] [(0, .slice A0 (x0).length c0), (1, .slice A1 (x1).length c1), (7, .slice A13_0_0 (p13).length c13_0_0), (8, .slice A16_0_0 (p16).length c16_0_0), (9, .slice A19_0_0 (p19).length c19_0_0), (10, .slice (some ⟨g49, 0, none⟩) (z43).length c43), (11, iv y46), (12, iv z49), (13, .bool (p50)), (14, .bool (p52)), (105, .bool false), (108, .bool (p69)), (112, .bool (decide ((p50 = true) ∨ (p52 = true))))] (fun hk71 => ?_) ?_
            ·refine Rn.part (t := 110) rfl (fun h72 => ?_) (fun h72 => ?_)
             ·refine gg 2 rfl ?_
              refine hk71 _ ?_
              exact Sub.cons rfl (Sub.cons rfl (Sub.cons rfl (Sub.cons rfl (Sub.cons rfl (Sub.cons rfl (Sub.cons rfl (Sub.cons rfl (Sub.cons rfl (Sub.cons rfl (Sub.cons rfl (Sub.cons rfl (Sub.cons (lkB rfl) (Sub.nil _)))))))))))))
             ·refine gg 2 rfl ?_
              refine hk71 _ ?_
              exact Sub.cons rfl (Sub.cons rfl (Sub.cons rfl (Sub.cons rfl (Sub.cons rfl (Sub.cons rfl (Sub.cons rfl (Sub.cons rfl (Sub.cons rfl (Sub.cons rfl (Sub.cons rfl (Sub.cons rfl (Sub.cons (lkB rfl) (Sub.nil _)))))))))))))
            refine Rn.q rfl (V.neqB Tryd.underlying4 rfl rfl) (gg 1 rfl ?_)
            exact hk7 (decide (p69 ≠ decide ((p50 = true) ∨ (p52 = true)))) _ _ (sb ⟨rfl, rfl, rfl, rfl, rfl, rfl, rfl, rfl, rfl, rfl, rfl, trivial⟩) (hm70.pick [0, 1, 2, 3, 4, 5, 6] rfl (by decide)) hM
          ·refine gg 1 rfl ?_
           exact hk6 () _ _ (sb trivial) (hm47.pick [2, 3, 4, 5, 6] rfl (by decide)) hM
        intro hk5
        clear hj5
        refine askS hM (Rn.part (t := 65) rfl) (fun h73 hM => ?_) (fun h73 hM => ?_)
        ·refine gg 9 rfl ?_
         exact hk5 true _ _ (sb ⟨rfl, rfl, rfl, rfl, rfl, rfl, rfl, trivial⟩) (hm34.pick [0, 1, 2, 3, 4, 5] rfl (by decide)) hM
        ·refine gg 1 rfl (Rn.q rfl (V.lenV Tryd.underlying22 rfl) (gg 1 rfl (Rn.q rfl (V.lenV Tryd.underlying22 rfl) (gg 1 rfl (Rn.q rfl (V.lenV Tryd.underlying22 rfl) (gg 3 rfl ?_))))))
         exact hk5 (decide ((p16.length : Int) ≠ W64 ((p19.length : Int) + (x1.length : Int)))) _ _ (sb ⟨rfl, rfl, rfl, rfl, rfl, rfl, rfl, trivial⟩) (hm34.pick [0, 1, 2, 3, 4, 5] rfl (by decide)) hM
       intro hk4
       clear hj4
       refine askS hM (Rn.part (t := 55) rfl) (fun h74 hM => ?_) (fun h74 hM => ?_)
       ·refine gg 9 rfl ?_
        exact hk4 true _ _ (sb ⟨rfl, rfl, rfl, rfl, rfl, rfl, rfl, trivial⟩) (hm32.pick [0, 1, 2, 3, 4, 5] rfl (by decide)) hM
       ·refine gg 1 rfl (Rn.q rfl (V.lenV Tryd.underlying22 rfl) (gg 1 rfl (Rn.q rfl (V.lenV Tryd.underlying22 rfl) (gg 2 rfl (Rn.q rfl (V.lenV Tryd.underlying22 rfl) (gg 2 rfl ?_))))))
        exact hk4 (decide (W64 ((p13.length : Int) + (p19.length : Int)) ≠ (x0.length : Int))) _ _ (sb ⟨rfl, rfl, rfl, rfl, rfl, rfl, rfl, trivial⟩) (hm32.pick [0, 1, 2, 3, 4, 5] rfl (by decide)) hM
      intro hk3
      clear hj3
      refine askS hM (Rn.part (t := 50) rfl) (fun h75 hM => ?_) (fun h75 hM => ?_)
      ·refine gg 4 rfl ?_
       exact hk3 true _ _ (sb ⟨rfl, rfl, rfl, rfl, rfl, rfl, rfl, trivial⟩) (hm30.pick [0, 1, 2, 3, 4, 5] rfl (by decide)) hM
      ·refine gg 1 rfl ?_
       obtain ⟨p76, e76, hM⟩ := bindE hM
       refine Rn.cl ck9 rfl rfl rfl rfl (m_limnographref35_Row_sim (Z0 := All) e76 (own_slR (hm30.get 5 rfl)) :) ?_
       rintro _ w76 ⟨rfl, hq76⟩
       refine ⟨_, rfl, ?_⟩
       have hm77 := hm30.call0 hq76
       refine Rn.q rfl (V.notB rfl) (gg 1 rfl ?_)
       exact hk3 (!p76) _ _ (sb ⟨rfl, rfl, rfl, rfl, rfl, rfl, rfl, trivial⟩) (hm77.pick [0, 1, 2, 3, 4, 5] rfl (by decide)) hM
     intro hk2
     clear hj2
     refine askS hM (Rn.part (t := 45) rfl) (fun h78 hM => ?_) (fun h78 hM => ?_)
     ·refine gg 4 rfl ?_
      exact hk2 true _ _ (sb ⟨rfl, rfl, rfl, rfl, rfl, rfl, rfl, trivial⟩) (hm28.pick [0, 1, 2, 3, 4, 5] rfl (by decide)) hM
     ·refine gg 1 rfl ?_
      obtain ⟨p79, e79, hM⟩ := bindE hM
      refine Rn.cl ck9 rfl rfl rfl rfl (m_limnographref35_Row_sim (Z0 := All) e79 (own_slR (hm28.get 4 rfl)) :) ?_
      rintro _ w79 ⟨rfl, hq79⟩
      refine ⟨_, rfl, ?_⟩
      have hm80 := hm28.call0 hq79
      refine Rn.q rfl (V.notB rfl) (gg 1 rfl ?_)
      exact hk2 (!p79) _ _ (sb ⟨rfl, rfl, rfl, rfl, rfl, rfl, rfl, trivial⟩) (hm80.pick [0, 1, 2, 3, 4, 5] rfl (by decide)) hM
   intro hk1
   clear hj1
   refine askS hM (Rn.part (t := 37) rfl) (fun h81 hM => ?_) (fun h81 hM => ?_)
   ·refine gg 4 rfl ?_
    exact hk1 true _ _ (sb ⟨rfl, rfl, rfl, rfl, rfl, rfl, rfl, trivial⟩) (hm23.pick [0, 1, 2, 3, 4, 5] rfl (by decide)) hM
   ·refine gg 1 rfl ?_
    obtain ⟨p82, e82, hM⟩ := bindE hM
    refine Rn.cl ck9 rfl rfl rfl rfl (m_limnographref35_Row_sim (Z0 := All) e82 (slR_all (hm23.get 1 rfl)) :) ?_
    rintro _ w82 ⟨rfl, hq82⟩
    refine ⟨_, rfl, ?_⟩
    have hm83 := hm23.call0 hq82
    refine Rn.q rfl (V.notB rfl) (gg 1 rfl ?_)
    exact hk1 (!p82) _ _ (sb ⟨rfl, rfl, rfl, rfl, rfl, rfl, rfl, trivial⟩) (hm83.pick [0, 1, 2, 3, 4, 5] rfl (by decide)) hM

theorem m_limnographref34_Few_sim {Z0 : Nat → Prop} {w : World} {A0 : Option Addr} {c0 : Nat} {x0 : (List (List UInt8))} {x1 : Int} {r : Bool} (hM : m_limnographref34_Few x0 x1 = some r) (f0 : (slR A0 c0 textR x0).H Z0 w) :
    Calls Tryd.prog 11 #[.slice A0 (x0).length c0, iv x1] w fun x w' => x = .returned (.bool (r)) ∧ Hp Z0 No w w' [] := by
 have hm0 := Hp.nil Z0 No w
 have hc0 := Calm.nil
 have hm2 := hm0.know (slR A0 c0 textR x0) (fun _ h => h) (hm0.in0 hc0 f0)
 replace hc0 := hc0.snoc (r := slR A0 c0 textR x0) (fun _ h => h)
 refine Rn.enter Tryd.func11 rfl rfl (Nat.le_of_ble_eq_true rfl) ?_
 refine gg 8 rfl (Rn.q rfl (V.lenV Tryd.underlying28 rfl) (gg 3 rfl ?_))
 refine askD hM (Rn.condD rfl) (fun h3 hM => ?_) (fun h3 hM => ?_)
 ·refine gg 4 rfl ?_
  refine Rn.retG1 Tryd.func11 rfl (rvT rfl) ?_
  obtain rfl := someE hM
  exact ⟨rfl, hm2.pick [] rfl (by decide)⟩
 ·refine gg 6 rfl ?_
  obtain ⟨j1, hj1, hM⟩ := jnE hM
  refine Rn.joinG (r := r) (G := Unit) (fun g => []) (fun g w' => Hp Z0 No w w' []) (fun g => j1 ()) ?_ ?_
  ·subst hj1
   clear hM
   rintro _ w4 hm4 hM
   try dsimp only at hM
   refine gg 4 rfl ?_
   refine Rn.retG1 Tryd.func11 rfl (rvT rfl) ?_
   obtain rfl := someE hM
   exact ⟨rfl, hm4.pick [] rfl (by decide)⟩
  intro hk1
  clear hj1
  refine gg 1 rfl ?_
  refine Rn.loopF (G := Int) (fun g => [(0, .slice A0 (x0).length c0), (5, iv g)]) (fun g w' => Hp Z0 No w w' [slR A0 c0 textR x0]) (fun n g => m_limnographref34_Few_L1 x0 j1 n g) fuel 0 (sb ⟨rfl, rfl, trivial⟩) (hm2.pick [0] rfl (by decide)) hM (fun _ => rfl) ?_
  clear hM
  rintro m6 y5 w6 hm6 hM hn6
  replace hM : m_limnographref34_Few_L1 x0 j1 (m6 + 1) y5 = some r := hM
  rw [m_limnographref34_Few_L1] at hM
  refine gg 5 rfl (Rn.q rfl (V.lenV Tryd.underlying28 rfl) (gg 2 rfl ?_))
  refine askD hM (Rn.condD rfl) (fun h7 hM => ?_) (fun h7 hM => ?_)
  ·refine gg 7 rfl ?_
   obtain ⟨z8, e8, hM⟩ := bindE hM
   refine Rn.ixH hm6 0 rfl e8 rfl rfl rfl Tryd.underlying28 Tryd.sizeOf9 rfl rfl rfl rfl ?_
   rintro b8 o8 vs8 ⟨rfl, _⟩ hm8
   refine Rn.q rfl (V.ldR0 Tryd.isAgg9 rfl (hm8.get 1 rfl).2 rfl) (Rn.q rfl (V.lenS Tryd.underlying9 rfl) (gg 2 rfl ?_))
   refine askD hM (Rn.condD rfl) (fun h10 hM => ?_) (fun h10 hM => ?_)
   ·refine gg 4 rfl ?_
    refine Rn.retG1 Tryd.func11 rfl (rvT rfl) ?_
    obtain rfl := someE hM
    exact ⟨rfl, hm8.pick [] rfl (by decide)⟩
   ·refine gg 7 rfl ?_
    exact hn6 (W64 (y5 + 1)) _ _ (sb ⟨rfl, rfl, trivial⟩) (hm8.pick [0] rfl (by decide)) hM
  ·refine gg 1 rfl ?_
   exact hk1 () _ _ (sb trivial) (hm6.pick [] rfl (by decide)) hM

theorem m_limnographref35_Few_sim {Z0 : Nat → Prop} {w : World} {A0 : Option Addr} {c0 : Nat} {x0 : (List T_api_Match)} {r : Bool} (hM : m_limnographref35_Few x0 = some r) (f0 : (slR A0 c0 T_api_Match.rep x0).H Z0 w) :
    Calls Tryd.prog 12 #[.slice A0 (x0).length c0] w fun x w' => x = .returned (.bool (r)) ∧ Hp Z0 No w w' [] := by
 have hm0 := Hp.nil Z0 No w
 have hc0 := Calm.nil
 have hm2 := hm0.know (slR A0 c0 T_api_Match.rep x0) (fun _ h => h) (hm0.in0 hc0 f0)
 replace hc0 := hc0.snoc (r := slR A0 c0 T_api_Match.rep x0) (fun _ h => h)
 refine Rn.enter Tryd.func12 rfl rfl (Nat.le_of_ble_eq_true rfl) ?_
 refine gg 8 rfl (Rn.q rfl (V.lenV Tryd.underlying29 rfl) (gg 2 rfl ?_))
 refine askD hM (Rn.condD rfl) (fun h3 hM => ?_) (fun h3 hM => ?_)
 ·refine gg 4 rfl ?_
  refine Rn.retG1 Tryd.func12 rfl (rvT rfl) ?_
  obtain rfl := someE hM
  exact ⟨rfl, hm2.pick [] rfl (by decide)⟩
 ·refine gg 6 rfl ?_
  obtain ⟨j1, hj1, hM⟩ := jnE hM
  refine Rn.joinG (r := r) (G := Unit) (fun g => []) (fun g w' => Hp Z0 No w w' []) (fun g => j1 ()) ?_ ?_
  ·subst hj1
   clear hM
   rintro _ w4 hm4 hM
   try dsimp only at hM
   refine gg 4 rfl ?_
   refine Rn.retG1 Tryd.func12 rfl (rvT rfl) ?_
   obtain rfl := someE hM
   exact ⟨rfl, hm4.pick [] rfl (by decide)⟩
  intro hk1
  clear hj1
  refine gg 1 rfl ?_
  refine Rn.loopF (G := Int) (fun g => [(0, .slice A0 (x0).length c0), (3, iv g)]) (fun g w' => Hp Z0 No w w' [slR A0 c0 T_api_Match.rep x0]) (fun n g => m_limnographref35_Few_L1 x0 j1 n g) fuel 0 (sb ⟨rfl, rfl, trivial⟩) (hm2.pick [0] rfl (by decide)) hM (fun _ => rfl) ?_
  clear hM
  rintro m6 y5 w6 hm6 hM hn6
  replace hM : m_limnographref35_Few_L1 x0 j1 (m6 + 1) y5 = some r := hM
  rw [m_limnographref35_Few_L1] at hM
  refine gg 5 rfl (Rn.q rfl (V.lenV Tryd.underlying29 rfl) (gg 2 rfl ?_))
  refine askD hM (Rn.condD rfl) (fun h7 hM => ?_) (fun h7 hM => ?_)
  ·refine gg 7 rfl ?_
   obtain ⟨z8, e8, hM⟩ := bindE hM
   refine Rn.ixH hm6 0 rfl e8 rfl rfl rfl Tryd.underlying29 Tryd.sizeOf40 rfl rfl rfl rfl ?_
   rintro b8 o8 vs8 hr8 hm8
   obtain rfl := T_api_Match.relE hr8
   refine gg 1 rfl (Rn.q rfl (V.ldR Tryd.isAgg9 rfl (hm8.get 1 rfl).2 rfl) (Rn.q rfl (V.lenS Tryd.underlying9 rfl) (gg 2 rfl ?_)))
   obtain ⟨j2, hj2, hM⟩ := jnE hM
   refine Rn.joinR (r := r) (G := Bool) [] (fun g => [(0, .slice A0 (x0).length c0), (3, iv y5), (28, .bool (g))]) (fun g w' => Hp Z0 No w w' [slR A0 c0 T_api_Match.rep x0]) (fun g => j2 g) ?_ ?_
   ·subst hj2
    clear hM
    rintro y10 w11 hm11 hM
    try dsimp only at hM
    refine gg 1 rfl ?_
    refine askS hM (Rn.condS rfl) (fun h12 hM => ?_) (fun h12 hM => ?_)
    ·refine gg 4 rfl ?_
     refine Rn.retG1 Tryd.func12 rfl (rvT rfl) ?_
     obtain rfl := someE hM
     exact ⟨rfl, hm11.pick [] rfl (by decide)⟩
    ·refine gg 7 rfl ?_
     exact hn6 (W64 (y5 + 1)) _ _ (sb ⟨rfl, rfl, trivial⟩) (hm11.pick [0] rfl (by decide)) hM
   intro hk2
   clear hj2
   refine askD hM (Rn.partD (t := 20) rfl) (fun h13 hM => ?_) (fun h13 hM => ?_)
   ·refine gg 8 rfl ?_
    exact hk2 true _ _ (sb ⟨rfl, rfl, rfl, trivial⟩) (hm8.pick [0] rfl (by decide)) hM
   ·refine gg 2 rfl ?_
    obtain ⟨z14, e14, hM⟩ := bindE hM
    refine Rn.ixH hm8 0 rfl e14 rfl rfl rfl Tryd.underlying29 Tryd.sizeOf40 rfl rfl rfl rfl ?_
    rintro b14 o14 vs14 hr14 hm14
    obtain rfl := T_api_Match.relE hr14
    refine gg 1 rfl (Rn.q rfl (V.ldR0 Tryd.isAgg9 rfl (hm14.get 2 rfl).2 rfl) (Rn.q rfl (V.lenS Tryd.underlying9 rfl) (gg 2 rfl ?_)))
    exact hk2 (decide ((z14.Key.length : Int) > 100)) _ _ (sb ⟨rfl, rfl, rfl, trivial⟩) (hm14.pick [0] rfl (by decide)) hM
  ·refine gg 1 rfl ?_
   exact hk1 () _ _ (sb trivial) (hm6.pick [] rfl (by decide)) hM

theorem m_limnographref35_Same_sim {Z0 : Nat → Prop} {w : World} {A0 : Option Addr} {c0 : Nat} {x0 : (List Int)} {A1 : Option Addr} {c1 : Nat} {x1 : (List Int)} {r : Bool} (hM : m_limnographref35_Same x0 x1 = some r) (f0 : (slR A0 c0 (intR .i64) x0).H Z0 w) (f1 : (slR A1 c1 (intR .i64) x1).H Z0 w) :
    Calls Tryd.prog 15 #[.slice A0 (x0).length c0, .slice A1 (x1).length c1] w fun x w' => x = .returned (.bool (r)) ∧ Hp Z0 No w w' [] := by
 have hm0 := Hp.nil Z0 No w
 have hc0 := Calm.nil
 have hm3 := hm0.know (slR A0 c0 (intR .i64) x0) (fun _ h => h) (hm0.in0 hc0 f0)
 replace hc0 := hc0.snoc (r := slR A0 c0 (intR .i64) x0) (fun _ h => h)
 have hm4 := hm3.know (slR A1 c1 (intR .i64) x1) (fun _ h => h) (hm3.in0 hc0 f1)
 replace hc0 := hc0.snoc (r := slR A1 c1 (intR .i64) x1) (fun _ h => h)
 refine Rn.enter Tryd.func15 rfl rfl (Nat.le_of_ble_eq_true rfl) ?_
 refine gg 8 rfl (Rn.q rfl (V.lenV Tryd.underlying22 rfl) (gg 1 rfl (Rn.q rfl (V.lenV Tryd.underlying22 rfl) (gg 2 rfl ?_))))
 refine askD hM (Rn.condD rfl) (fun h5 hM => ?_) (fun h5 hM => ?_)
 ·refine gg 4 rfl ?_
  refine Rn.retG1 Tryd.func15 rfl (rvT rfl) ?_
  obtain rfl := someE hM
  exact ⟨rfl, hm4.pick [] rfl (by decide)⟩
 ·refine gg 6 rfl ?_
  obtain ⟨j1, hj1, hM⟩ := jnE hM
  refine Rn.joinG (r := r) (G := Unit) (fun g => []) (fun g w' => Hp Z0 No w w' []) (fun g => j1 ()) ?_ ?_
  ·subst hj1
   clear hM
   rintro _ w6 hm6 hM
   try dsimp only at hM
   refine gg 4 rfl ?_
   refine Rn.retG1 Tryd.func15 rfl (rvT rfl) ?_
   obtain rfl := someE hM
   exact ⟨rfl, hm6.pick [] rfl (by decide)⟩
  intro hk1
  clear hj1
  refine gg 1 rfl ?_
  refine Rn.loopF (G := Int) (fun g => [(0, .slice A0 (x0).length c0), (1, .slice A1 (x1).length c1), (5, iv g)]) (fun g w' => Hp Z0 No w w' [slR A0 c0 (intR .i64) x0, slR A1 c1 (intR .i64) x1]) (fun n g => m_limnographref35_Same_L1 x0 x1 j1 n g) fuel 0 (sb ⟨rfl, rfl, rfl, trivial⟩) (hm4.pick [0, 1] rfl (by decide)) hM (fun _ => rfl) ?_
  clear hM
  rintro m8 y7 w8 hm8 hM hn8
  replace hM : m_limnographref35_Same_L1 x0 x1 j1 (m8 + 1) y7 = some r := hM
  rw [m_limnographref35_Same_L1] at hM
  refine gg 5 rfl (Rn.q rfl (V.lenV Tryd.underlying22 rfl) (gg 2 rfl ?_))
  refine askD hM (Rn.condD rfl) (fun h9 hM => ?_) (fun h9 hM => ?_)
  ·refine gg 4 rfl ?_
   refine Rn.drawP rfl hm8 ?_
   intro w10 hm10
   refine dd [0, 1] (by kernel_rfl) rfl rfl ?_
   obtain ⟨z11, e11, hM⟩ := bindE hM
   obtain ⟨kk11, ke11, kz11, kl11⟩ := idxE e11
   obtain ⟨b11, o11, vs11, hA11, hD11, hR11, hrel11⟩ := Hp.at hm10 0 rfl kz11
   obtain ⟨rfl, _⟩ := hrel11
   have hm13 := Hp.knowL [rdR b11 (o11 + kk11 * 1) [iv z11]] _ hm10 (knC (fun _ h => h) ⟨fun _ => hD11, hR11⟩ kn0)
   refine RH.takeP 2 (by kernel_rfl) rfl rfl rfl rfl (V.ixA' hA11 kk11 Tryd.underlying22 Tryd.sizeOf3 rfl rfl ke11 kl11) ?_
   refine RH.takeP 3 (by kernel_rfl) rfl rfl rfl rfl (V.ldR0 Tryd.isAgg3 rfl (hm13.get 2 rfl).2 rfl) ?_
   refine dd [4, 5] (by kernel_rfl) rfl rfl ?_
   obtain ⟨z14, e14, hM⟩ := bindE hM
   obtain ⟨kk14, ke14, kz14, kl14⟩ := idxE e14
   obtain ⟨b14, o14, vs14, hA14, hD14, hR14, hrel14⟩ := Hp.at hm13 1 rfl kz14
   obtain ⟨rfl, _⟩ := hrel14
   have hm16 := Hp.knowL [rdR b14 (o14 + kk14 * 1) [iv z14]] _ hm13 (knC (fun _ h => h) ⟨fun _ => hD14, hR14⟩ kn0)
   refine RH.takeP 6 (by kernel_rfl) rfl rfl rfl rfl (V.ixA' hA14 kk14 Tryd.underlying22 Tryd.sizeOf3 rfl rfl ke14 kl14) ?_
   refine RH.takeP 7 (by kernel_rfl) rfl rfl rfl rfl (V.ldR0 Tryd.isAgg3 rfl (hm16.get 3 rfl).2 rfl) ?_
   refine dd [8] (by kernel_rfl) rfl rfl ?_
   refine RH.doneP (by kernel_rfl) ?_
   refine askD hM (Rn.condD rfl) (fun h17 hM => ?_) (fun h17 hM => ?_)
   ·refine gg 4 rfl ?_
    refine Rn.retG1 Tryd.func15 rfl (rvT rfl) ?_
    obtain rfl := someE hM
    exact ⟨rfl, hm16.pick [] rfl (by decide)⟩
   ·refine gg 7 rfl ?_
    exact hn8 (W64 (y7 + 1)) _ _ (sb ⟨rfl, rfl, rfl, trivial⟩) (hm16.pick [0, 1] rfl (by decide)) hM
  ·refine gg 1 rfl ?_
   exact hk1 () _ _ (sb trivial) (hm8.pick [] rfl (by decide)) hM

theorem m_index_Index_Len_sim {Z0 : Nat → Prop} {w : World} {F0 : Nat → Prop} {b0 : Nat} {x0 : T_index_Index} {r : Int} (hM : m_index_Index_Len x0 = some r) (f0 : (fzR (T_index_Index.obj F0 b0 x0)).H Z0 w) :
    Calls Tryd.prog 16 #[pt b0 0] w fun x w' => x = .returned (iv r) ∧ Hp Z0 No w w' [] := by
 have hm0 := Hp.nil Z0 No w
 have hc0 := Calm.nil
 have hm2 := hm0.know (fzR (T_index_Index.obj F0 b0 x0)) (fun _ h => h) (hm0.in0 hc0 f0)
 replace hc0 := hc0.snoc (r := fzR (T_index_Index.obj F0 b0 x0)) (fun _ h => h)
 refine Rn.enter Tryd.func16 rfl rfl (Nat.le_of_ble_eq_true rfl) ?_
 refine gg 9 rfl ?_
 obtain ⟨_, ⟨A3_0, c3_0, F3_1, m3_1, rfl⟩, hm3⟩ := hm2.unfz 0 rfl
 replace hm3 := hm3.nf [_, _, _, _] rfl
 have hm8 := hm3.fzSl 2 rfl
 refine Rn.q rfl (V.ldB Tryd.isAgg28 rfl (hm8.getz 1 rfl) rfl) (Rn.q rfl (V.lenV Tryd.underlying28 rfl) (gg 2 rfl ?_))
 refine Rn.retG1 Tryd.func16 rfl (rvT rfl) ?_
 obtain rfl := someE hM
 exact ⟨rfl, hm8.pick [] rfl (by decide)⟩

theorem m_limnographlaw35_IndexParts_sim {Z0 : Nat → Prop} {w : World} {A0 : Option Addr} {c0 : Nat} {x0 : (List (List UInt8))} {A1 : Option Addr} {c1 : Nat} {x1 : (List T_api_Match)} {A2 : Option Addr} {c2 : Nat} {x2 : (List T_api_Match)} {r : Bool} (hM : m_limnographlaw35_IndexParts x0 x1 x2 = some r) (f0 : (slR A0 c0 textR x0).H Z0 w) (f1 : (slR A1 c1 T_api_Match.rep x1).H Z0 w) (f2 : (slR A2 c2 T_api_Match.rep x2).H Z0 w) (f3 : (rdR 0 0 gl0).H Z0 w) :
    Calls Tryd.prog 4 #[.slice A0 (x0).length c0, .slice A1 (x1).length c1, .slice A2 (x2).length c2] w fun x w' => x = .returned (.bool (r)) ∧ Hp Z0 No w w' [] := by
 have hm0 := Hp.nil Z0 No w
 have hc0 := Calm.nil
 have hm5 := hm0.know (slR A0 c0 textR x0) (fun _ h => h) (hm0.in0 hc0 f0)
 replace hc0 := hc0.snoc (r := slR A0 c0 textR x0) (fun _ h => h)
 have hm6 := hm5.know (slR A1 c1 T_api_Match.rep x1) (fun _ h => h) (hm5.in0 hc0 f1)
 replace hc0 := hc0.snoc (r := slR A1 c1 T_api_Match.rep x1) (fun _ h => h)
 have hm7 := hm6.know (slR A2 c2 T_api_Match.rep x2) (fun _ h => h) (hm6.in0 hc0 f2)
 replace hc0 := hc0.snoc (r := slR A2 c2 T_api_Match.rep x2) (fun _ h => h)
 have hm8 := hm7.know (rdR 0 0 gl0) (fun _ h => h) (hm7.in0 hc0 f3)
 replace hc0 := hc0.snoc (r := rdR 0 0 gl0) (fun _ h => h)
 refine Rn.enter Tryd.func4 rfl rfl (Nat.le_of_ble_eq_true rfl) ?_
 refine gg 7 rfl ?_
 obtain ⟨p9, e9, hM⟩ := bindE hM
 refine Rn.cl ck5 rfl rfl rfl rfl (m_limnographlaw35_awake_sim (Z0 := All) e9 (rdR_all (hm8.get 3 rfl)) :) ?_
 rintro _ w9 ⟨rfl, hq9⟩
 refine ⟨_, rfl, ?_⟩
 have hm10 := hm8.call0 hq9
 refine Rn.q rfl (V.notB rfl) (gg 1 rfl ?_)
 refine askS hM (Rn.condS rfl) (fun h11 hM => ?_) (fun h11 hM => ?_)
 ·refine gg 4 rfl ?_
  refine Rn.retG1 Tryd.func4 rfl (rvT rfl) ?_
  obtain rfl := someE hM
  exact ⟨rfl, hm10.pick [] rfl (by decide)⟩
 ·refine gg 5 rfl ?_
  obtain ⟨p12, e12, hM⟩ := bindE hM
  refine Rn.cl ck11 rfl rfl rfl rfl (m_limnographref34_Few_sim (Z0 := All) e12 (slR_all (hm10.get 0 rfl)) :) ?_
  rintro _ w12 ⟨rfl, hq12⟩
  refine ⟨_, rfl, ?_⟩
  have hm13 := hm10.call0 hq12
  refine Rn.q rfl (V.notB rfl) (gg 1 rfl ?_)
  obtain ⟨j1, hj1, hM⟩ := jnE hM
  refine Rn.joinR (r := r) (G := Bool) [8, 9, 10, 11, 12] (fun g => [(0, .slice A0 (x0).length c0), (1, .slice A1 (x1).length c1), (2, .slice A2 (x2).length c2), (32, .bool (g))]) (fun g w' => Hp Z0 No w w' [slR A0 c0 textR x0, slR A1 c1 T_api_Match.rep x1, slR A2 c2 T_api_Match.rep x2, rdR 0 0 gl0]) (fun g => j1 g) ?_ ?_
  ·subst hj1
   clear hM
   rintro y14 w15 hm15 hM
   try dsimp only at hM
   refine gg 1 rfl ?_
   obtain ⟨j2, hj2, hM⟩ := jnE hM
   refine Rn.joinR (r := r) (G := Bool) [] (fun g => [(0, .slice A0 (x0).length c0), (1, .slice A1 (x1).length c1), (2, .slice A2 (x2).length c2), (37, .bool (g))]) (fun g w' => Hp Z0 No w w' [slR A0 c0 textR x0, slR A1 c1 T_api_Match.rep x1, slR A2 c2 T_api_Match.rep x2, rdR 0 0 gl0]) (fun g => j2 g) ?_ ?_
   ·subst hj2
    clear hM
    rintro y16 w17 hm17 hM
    try dsimp only at hM
    refine gg 1 rfl ?_
    refine askS hM (Rn.condS rfl) (fun h18 hM => ?_) (fun h18 hM => ?_)
    ·refine gg 4 rfl ?_
     refine Rn.retG1 Tryd.func4 rfl (rvT rfl) ?_
     obtain rfl := someE hM
     exact ⟨rfl, hm17.pick [] rfl (by decide)⟩
    ·refine gg 4 rfl ?_
     obtain ⟨p19, e19, hM⟩ := bindE hM
     refine Rn.cl ck13 rfl rfl rfl rfl (m_index_New_sim (Z0 := hm17.Z) e19 (hm17.get 0 rfl) :) ?_
     rintro _ w19 ⟨F19_0, b19_0, rfl, hq19⟩
     refine ⟨_, rfl, ?_⟩
     have hm21 := hm17.callZ hq19
     refine gg 12 rfl (Rn.q rfl (V.eqlO Tryd.underlying32 rfl rfl) (gg 1 rfl ?_))
     refine askS hM (Rn.condS rfl) (fun h22 hM => ?_) (fun h22 hM => ?_)
     ·refine gg 4 rfl ?_
      refine Rn.retG1 Tryd.func4 rfl (rvT rfl) ?_
      obtain rfl := someE hM
      exact ⟨rfl, hm21.pick [] rfl (by decide)⟩
     ·refine gg 5 rfl ?_
      obtain ⟨z24, e24, hM⟩ := bindE hM
      have hm25 := hm21.optSome 4 rfl e24
      refine Rn.say (t := 47) (pt b19_0 0) rfl (by rw [e24]; rfl) ?_
      obtain ⟨p23, e23, hM⟩ := bindE hM
      refine Rn.cl ck14 rfl rfl rfl rfl (m_index_Index_Select_sim (Z0 := All) e23 (fz_all (hm25.get 4 rfl)) (slR_all (hm25.get 1 rfl)) (rdR_all (hm25.get 3 rfl)) :) ?_
      rintro _ w23 ⟨A23_0_0, c23_0_0, rfl, hq23⟩
      refine ⟨_, rfl, ?_⟩
      have hm27 := hm25.callF (flC (ownR_flat (int_flat _) _ _ _ _) fl0) hq23
      refine gg 12 rfl ?_
      refine Rn.say (t := 54) (pt b19_0 0) rfl (by rw [e24]; rfl) ?_
      obtain ⟨p28, e28, hM⟩ := bindE hM
      refine Rn.cl ck14 rfl rfl rfl rfl (m_index_Index_Select_sim (Z0 := All) e28 (fz_all (hm27.get 4 rfl)) (slR_all (hm27.get 2 rfl)) (rdR_all (hm27.get 3 rfl)) :) ?_
      rintro _ w28 ⟨A28_0_0, c28_0_0, rfl, hq28⟩
      refine ⟨_, rfl, ?_⟩
      have hm30 := hm27.callF (flC (ownR_flat (int_flat _) _ _ _ _) fl0) hq28
      refine gg 11 rfl (Rn.bslS rfl rfl rfl Tryd.underlying29 el40 rfl rfl rfl rfl (by first | exact szs rfl | (simp [Value.cells]; done)) (by decide) ?_)
      intro b31 w31 hb31 m31 e31
      have hm32 := hm30.addLit (rep := T_api_Match.rep) (xs := ([] : List T_api_Match)) (vss := []) hb31 e31 m31 rfl rfl rfl (rels0)
      refine gg 1 rfl ?_
      obtain ⟨z34, e34, hM⟩ := bindE hM
      refine Rn.appH hm32 7 rfl e34 rfl rfl rfl Tryd.underlying29 el40 rfl rfl rfl rfl (hm32.src 1 rfl) ?_
      intro A34 c34 w34 hm34
      refine gg 1 rfl ?_
      obtain ⟨z36, e36, hM⟩ := bindE hM
      refine Rn.appH hm34 7 rfl e36 rfl rfl rfl Tryd.underlying29 el40 rfl rfl rfl rfl (hm34.src 2 rfl) ?_
      intro A36 c36 w36 hm36
      refine Rn.say (t := 61) (pt b19_0 0) rfl (by rw [e24]; rfl) ?_
      obtain ⟨p38, e38, hM⟩ := bindE hM
      refine Rn.cl ck14 rfl rfl rfl rfl (m_index_Index_Select_sim (Z0 := All) e38 (fz_all (hm36.get 4 rfl)) (own_slR (hm36.get 7 rfl)) (rdR_all (hm36.get 3 rfl)) :) ?_
      rintro _ w38 ⟨A38_0_0, c38_0_0, rfl, hq38⟩
      refine ⟨_, rfl, ?_⟩
      have hm40 := hm36.callF (flC (ownR_flat (int_flat _) _ _ _ _) fl0) hq38
      replace hm40 := hm40.nf [_, _, _, _, _, _, _, _, _] rfl
      refine gg 14 rfl ?_
      refine Rn.cutR [] [(1, .slice A1 (x1).length c1), (7, .pointer (optP b19_0 p19.1)), (10, .slice A23_0_0 (p23.1).length c23_0_0), (13, .slice A28_0_0 (p28.1).length c28_0_0), (16, .slice A38_0_0 (p38.1).length c38_0_0), (18, iv p38.2.2), (76, .bool (decide ((p23.2.2 ≠ 0) ∨ (p28.2.2 ≠ 0))))] (fun hk41 => ?_) ?_
      ·refine Rn.partD (t := 73) rfl (fun h42 => ?_) (fun h42 => ?_)
       ·refine gg 3 rfl ?_
        refine hk41 _ ?_
        exact Sub.cons rfl (Sub.cons rfl (Sub.cons rfl (Sub.cons rfl (Sub.cons rfl (Sub.cons rfl (Sub.cons (lkB rfl) (Sub.nil _)))))))
       ·refine gg 3 rfl ?_
        refine hk41 _ ?_
        exact Sub.cons rfl (Sub.cons rfl (Sub.cons rfl (Sub.cons rfl (Sub.cons rfl (Sub.cons rfl (Sub.cons (lkB rfl) (Sub.nil _)))))))
      refine gg 1 rfl ?_
      refine askD hM (Rn.condD rfl) (fun h43 hM => ?_) (fun h43 hM => ?_)
      ·refine gg 6 rfl ?_
       refine Rn.retG1 Tryd.func4 rfl (rvT rfl) ?_
       obtain rfl := someE hM
       exact ⟨rfl, hm40.pick [] rfl (by decide)⟩
      ·refine gg 7 rfl ?_
       obtain ⟨j3, hj3, hM⟩ := jnE hM
       refine Rn.joinR (r := r) (G := Bool × (Nat → Prop)) [] (fun g => [(1, .slice A1 (x1).length c1), (7, .pointer (optP b19_0 p19.1)), (10, .slice A23_0_0 (p23.1).length c23_0_0), (88, .bool ((g.1)))]) (fun g w' => Hp Z0 No w w' [slR A1 c1 T_api_Match.rep x1, rdR 0 0 gl0, T_index_Index.obj (g.2) b19_0 z24, ownR 3 A23_0_0 c23_0_0 (intR .i64) p23.1, ownR 3 A28_0_0 c28_0_0 (intR .i64) p28.1, ownR 40 A36 c36 T_api_Match.rep z36, ownR 3 A38_0_0 c38_0_0 (intR .i64) p38.1]) (fun g => j3 g.1) ?_ ?_
       ·subst hj3
        clear hM
        rintro ⟨y45, F44⟩ w46 hm46 hM
        try dsimp only at hM
        refine gg 1 rfl ?_
        refine askS hM (Rn.condS rfl) (fun h47 hM => ?_) (fun h47 hM => ?_)
        ·refine gg 4 rfl ?_
         refine Rn.retG1 Tryd.func4 rfl (rvT rfl) ?_
         obtain rfl := someE hM
         exact ⟨rfl, hm46.pick [] rfl (by decide)⟩
        ·refine gg 5 rfl (Rn.q rfl (V.lenV Tryd.underlying29 rfl) (gg 2 rfl ?_))
         refine askD hM (Rn.condD rfl) (fun h48 hM => ?_) (fun h48 hM => ?_)
         ·refine gg 4 rfl ?_
          refine Rn.retG1 Tryd.func4 rfl (rvT rfl) ?_
          obtain rfl := someE hM
          exact ⟨rfl, hm46.pick [] rfl (by decide)⟩
         ·refine gg 4 rfl ?_
          obtain ⟨z49, e49, hM⟩ := bindE hM
          refine Rn.ixH hm46 0 rfl e49 rfl rfl rfl Tryd.underlying29 Tryd.sizeOf40 rfl rfl rfl rfl ?_
          rintro b49 o49 vs49 hr49 hm49
          obtain rfl := T_api_Match.relE hr49
          refine Rn.q rfl (V.ldA (vs := [_, _, _]) Tryd.isAgg40 Tryd.sizeOf40 rfl (Rd.pre (hm49.get 7 rfl).2 3) rfl) (Rn.als rfl rfl rfl Tryd.zeroValue40 rfl Tryd.sizeOf40 rfl rfl rfl rfl (by first | exact ones rfl | (simp [Value.oneCell']; done)) ?_)
          intro b51 w51 hb51 m51 e51
          have hm53 := (hm49.addBox hb51 e51 m51).nf [_, _, _, _, _, _, _, _, boxR _ _ [_, _, _]] rfl
          refine gg 4 rfl (Rn.q rfl (V.ldB Tryd.isAgg4 rfl (hm53.get 8 rfl) rfl) (Rn.q rfl (V.notB rfl) (gg 1 rfl (Rn.st rfl rfl Tryd.sizeOf4 rfl rfl rfl rfl (by first | exact ones rfl | (simp [Value.oneCell']; done)) (hm53.get 8 rfl) (by first | exact Nat.le_of_ble_eq_true rfl | (simp; done)) ?_))))
          intro w54 m54 x54
          have hm55 := (hm53.st 8 rfl x54 m54).nf [_, _, _, _, _, _, _, _, boxR _ _ [_, _, _]] rfl
          refine gg 4 rfl (Rn.q rfl (V.ldBA [_, _, _] Tryd.isAgg40 Tryd.sizeOf40 rfl (hm55.get 8 rfl) rfl rfl) (Rn.bslS rfl rfl rfl Tryd.underlying29 el40 rfl rfl rfl rfl (by first | exact szs rfl | (simp [Value.cells]; done)) (by decide) ?_))
          intro b56 w56 hb56 m56 e56
          have hm57 := hm55.addLit (rep := T_api_Match.rep) (xs := ([({ Key := z49.Key, Glob := z49.Glob, Not := !z49.Not } : T_api_Match)] : List T_api_Match)) (vss := [[Str (z49.Key), Str (z49.Glob), .bool (!z49.Not)]]) hb56 e56 m56 rfl rfl rfl ((rels_cons (fun _ _ => ⟨_, _, rfl, ⟨rfl, trivial⟩, ⟨_, _, rfl, ⟨rfl, trivial⟩, ⟨rfl, trivial⟩⟩⟩) rels0))
          refine Rn.say (t := 100) (pt b19_0 0) rfl (by rw [e24]; rfl) ?_
          obtain ⟨p59, e59, hM⟩ := bindE hM
          refine Rn.cl ck14 rfl rfl rfl rfl (m_index_Index_Select_sim (Z0 := All) e59 (fz_all (hm57.get 2 rfl)) (own_slR (hm57.get 9 rfl)) (rdR_all (hm57.get 1 rfl)) :) ?_
          rintro _ w59 ⟨A59_0_0, c59_0_0, rfl, hq59⟩
          refine ⟨_, rfl, ?_⟩
          have hm61 := hm57.callF (flC (ownR_flat (int_flat _) _ _ _ _) fl0) hq59
          replace hm61 := hm61.nf [_, _, _, _, _, _, _, _, _, _, _] rfl
          refine gg 13 rfl ?_
          obtain ⟨j4, hj4, hM⟩ := jnE hM
          refine Rn.joinR (r := r) (G := Bool × (Nat → Prop)) [9, 10, 11, 12, 13, 14, 15, 16, 17, 18] (fun g => [(7, .pointer (optP b19_0 p19.1)), (10, .slice A23_0_0 (p23.1).length c23_0_0), (20, .slice A59_0_0 (p59.1).length c59_0_0), (115, .bool ((g.1)))]) (fun g w' => Hp Z0 No w w' [rdR 0 0 gl0, T_index_Index.obj (g.2) b19_0 z24, ownR 3 A23_0_0 c23_0_0 (intR .i64) p23.1, ownR 3 A28_0_0 c28_0_0 (intR .i64) p28.1, ownR 40 A36 c36 T_api_Match.rep z36, ownR 3 A38_0_0 c38_0_0 (intR .i64) p38.1, boxR b51 40 [Str (z49.Key), Str (z49.Glob), .bool (!z49.Not)], ownR 40 (some ⟨b56, 0, none⟩) 1 T_api_Match.rep ([({ Key := z49.Key, Glob := z49.Glob, Not := !z49.Not } : T_api_Match)] : List T_api_Match), ownR 3 A59_0_0 c59_0_0 (intR .i64) p59.1]) (fun g => j4 g.1) ?_ ?_
          ·subst hj4
           clear hM
           rintro ⟨y63, F62⟩ w64 hm64 hM
           try dsimp only at hM
           refine gg 1 rfl ?_
           obtain ⟨j5, hj5, hM⟩ := jnE hM
           refine Rn.joinR (r := r) (G := Bool × (Nat → Prop)) [18] (fun g => [(124, .bool ((g.1)))]) (fun g w' => Hp Z0 No w w' [rdR 0 0 gl0, T_index_Index.obj (g.2) b19_0 z24, ownR 3 A23_0_0 c23_0_0 (intR .i64) p23.1, ownR 3 A28_0_0 c28_0_0 (intR .i64) p28.1, ownR 40 A36 c36 T_api_Match.rep z36, ownR 3 A38_0_0 c38_0_0 (intR .i64) p38.1, boxR b51 40 [Str (z49.Key), Str (z49.Glob), .bool (!z49.Not)], ownR 40 (some ⟨b56, 0, none⟩) 1 T_api_Match.rep ([({ Key := z49.Key, Glob := z49.Glob, Not := !z49.Not } : T_api_Match)] : List T_api_Match), ownR 3 A59_0_0 c59_0_0 (intR .i64) p59.1]) (fun g => j5 g.1) ?_ ?_
           ·subst hj5
            clear hM
            rintro ⟨y66, F65⟩ w67 hm67 hM
            try dsimp only at hM
            refine gg 2 rfl ?_
            refine Rn.retG1 Tryd.func4 rfl (rvT rfl) ?_
            obtain rfl := someE hM
            exact ⟨rfl, hm67.pick [] rfl (by decide)⟩
           intro hk5
           clear hj5
           refine askS hM (Rn.part (t := 116) rfl) (fun h68 hM => ?_) (fun h68 hM => ?_)
           ·refine gg 2 rfl ?_
            obtain ⟨p69, e69, hM⟩ := bindE hM
            refine Rn.cl ck7 rfl rfl rfl rfl (m_index_Or_sim (Z0 := All) e69 (own_slR (hm64.get 2 rfl)) (own_slR (hm64.get 8 rfl)) :) ?_
            rintro _ w69 ⟨A69_0_0, c69_0_0, rfl, hq69⟩
            refine ⟨_, rfl, ?_⟩
            have hm71 := hm64.callF (flC (ownR_flat (int_flat _) _ _ _ _) fl0) hq69
            replace hm71 := hm71.nf [_, _, _, _, _, _, _, _, _, _] rfl
            refine Rn.q rfl (V.lenV Tryd.underlying22 rfl) (gg 1 rfl ?_)
            refine Rn.say (t := 121) (pt b19_0 0) rfl (by rw [e24]; rfl) ?_
            obtain ⟨p72, e72, hM⟩ := bindE hM
            refine Rn.cl ck16 rfl rfl rfl rfl (m_index_Index_Len_sim (Z0 := All) e72 (fz_all (hm71.get 1 rfl)) :) ?_
            rintro _ w72 ⟨rfl, hq72⟩
            refine ⟨_, rfl, ?_⟩
            have hm73 := hm71.call0 hq72
            replace hm73 := hm73.nf [_, _, _, _, _, _, _, _, _, _] rfl
            refine gg 2 rfl ?_
            exact hk5 ((decide ((p69.length : Int) = p72)), F62) _ _ (sb ⟨rfl, trivial⟩) (hm73.pick [0, 1, 2, 3, 4, 5, 6, 7, 8] rfl (by decide)) hM
           ·refine gg 8 rfl ?_
            exact hk5 (false, F62) _ _ (sb ⟨rfl, trivial⟩) (hm64.pick [0, 1, 2, 3, 4, 5, 6, 7, 8] rfl (by decide)) hM
          intro hk4
          clear hj4
          refine askD hM (Rn.partD (t := 109) rfl) (fun h74 hM => ?_) (fun h74 hM => ?_)
          ·refine gg 2 rfl ?_
           obtain ⟨p75, e75, hM⟩ := bindE hM
           refine Rn.cl ck6 rfl rfl rfl rfl (m_index_And_sim (Z0 := All) e75 (own_slR (hm61.get 3 rfl)) (own_slR (hm61.get 10 rfl)) :) ?_
           rintro _ w75 ⟨A75_0_0, c75_0_0, rfl, hq75⟩
           refine ⟨_, rfl, ?_⟩
           have hm77 := hm61.callF (flC (ownR_flat (int_flat _) _ _ _ _) fl0) hq75
           replace hm77 := hm77.nf [_, _, _, _, _, _, _, _, _, _, _, _] rfl
           refine Rn.q rfl (V.lenV Tryd.underlying22 rfl) (gg 2 rfl ?_)
           exact hk4 ((decide ((p75.length : Int) = 0)), F44) _ _ (sb ⟨rfl, rfl, rfl, rfl, trivial⟩) (hm77.pick [1, 2, 3, 4, 5, 6, 8, 9, 10] rfl (by decide)) hM
          ·refine gg 6 rfl ?_
           exact hk4 (false, F44) _ _ (sb ⟨rfl, rfl, rfl, rfl, trivial⟩) (hm61.pick [1, 2, 3, 4, 5, 6, 8, 9, 10] rfl (by decide)) hM
       intro hk3
       clear hj3
       refine askD hM (Rn.partD (t := 81) rfl) (fun h78 hM => ?_) (fun h78 hM => ?_)
       ·refine gg 7 rfl ?_
        exact hk3 (true, F19_0) _ _ (sb ⟨rfl, rfl, rfl, rfl, trivial⟩) (hm40.pick [1, 3, 4, 5, 6, 7, 8] rfl (by decide)) hM
       ·refine gg 3 rfl ?_
        obtain ⟨p79, e79, hM⟩ := bindE hM
        refine Rn.cl ck6 rfl rfl rfl rfl (m_index_And_sim (Z0 := All) e79 (own_slR (hm40.get 5 rfl)) (own_slR (hm40.get 6 rfl)) :) ?_
        rintro _ w79 ⟨A79_0_0, c79_0_0, rfl, hq79⟩
        refine ⟨_, rfl, ?_⟩
        have hm81 := hm40.callF (flC (ownR_flat (int_flat _) _ _ _ _) fl0) hq79
        replace hm81 := hm81.nf [_, _, _, _, _, _, _, _, _, _] rfl
        obtain ⟨p82, e82, hM⟩ := bindE hM
        refine Rn.cl ck15 rfl rfl rfl rfl (m_limnographref35_Same_sim (Z0 := All) e82 (own_slR (hm81.get 8 rfl)) (own_slR (hm81.get 9 rfl)) :) ?_
        rintro _ w82 ⟨rfl, hq82⟩
        refine ⟨_, rfl, ?_⟩
        have hm83 := hm81.call0 hq82
        replace hm83 := hm83.nf [_, _, _, _, _, _, _, _, _, _] rfl
        refine Rn.q rfl (V.notB rfl) (gg 1 rfl ?_)
        exact hk3 ((!p82), F19_0) _ _ (sb ⟨rfl, rfl, rfl, rfl, trivial⟩) (hm83.pick [1, 3, 4, 5, 6, 7, 8] rfl (by decide)) hM
   intro hk2
   clear hj2
   refine askS hM (Rn.part (t := 33) rfl) (fun h84 hM => ?_) (fun h84 hM => ?_)
   ·refine gg 4 rfl ?_
    exact hk2 true _ _ (sb ⟨rfl, rfl, rfl, rfl, trivial⟩) (hm15.pick [0, 1, 2, 3] rfl (by decide)) hM
   ·refine gg 1 rfl ?_
    obtain ⟨p85, e85, hM⟩ := bindE hM
    refine Rn.cl ck12 rfl rfl rfl rfl (m_limnographref35_Few_sim (Z0 := All) e85 (slR_all (hm15.get 2 rfl)) :) ?_
    rintro _ w85 ⟨rfl, hq85⟩
    refine ⟨_, rfl, ?_⟩
    have hm86 := hm15.call0 hq85
    refine Rn.q rfl (V.notB rfl) (gg 1 rfl ?_)
    exact hk2 (!p85) _ _ (sb ⟨rfl, rfl, rfl, rfl, trivial⟩) (hm86.pick [0, 1, 2, 3] rfl (by decide)) hM
  intro hk1
  clear hj1
  refine askS hM (Rn.part (t := 28) rfl) (fun h87 hM => ?_) (fun h87 hM => ?_)
  ·refine gg 4 rfl ?_
   exact hk1 true _ _ (sb ⟨rfl, rfl, rfl, rfl, trivial⟩) (hm13.pick [0, 1, 2, 3] rfl (by decide)) hM
  ·refine gg 1 rfl ?_
   obtain ⟨p88, e88, hM⟩ := bindE hM
   refine Rn.cl ck12 rfl rfl rfl rfl (m_limnographref35_Few_sim (Z0 := All) e88 (slR_all (hm13.get 1 rfl)) :) ?_
   rintro _ w88 ⟨rfl, hq88⟩
   refine ⟨_, rfl, ?_⟩
   have hm89 := hm13.call0 hq88
   refine Rn.q rfl (V.notB rfl) (gg 1 rfl ?_)
   exact hk1 (!p88) _ _ (sb ⟨rfl, rfl, rfl, rfl, trivial⟩) (hm89.pick [0, 1, 2, 3] rfl (by decide)) hM

end Go.Proofs.YtpcpfjpcfcbopaaDoor
