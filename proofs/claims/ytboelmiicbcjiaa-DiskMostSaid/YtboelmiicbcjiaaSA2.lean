/-
  The calls of functions of the program answer as their plain forms say, part 2. Printed by a program.
-/
import Derived.Test.YtboelmiicbcjiaaRows
import Derived.Test.YtboelmiicbcjiaaSA1
import Derived.Test.YtboelmiicbcjiaaK1
import Derived.Test.YtboelmiicbcjiaaWv
import Derived.Test.YtboelmiicbcjiaaIt
namespace Go.Proofs.Ytboelmiicbcjiaa
open Go Go.RowKit Go.Wk
set_option maxRecDepth 20000 in
theorem m_limnographref18_Disk_Cut_sim {Z0 : Nat → Prop} (w : World) (F0 : Nat → Prop) (b0 : Nat) (x0 : T_limnographref18_Disk) (x1 : (List UInt8)) (x2 : Int) {r : (Int × T_limnographref18_Disk)} (hL : Lent Z0 w [T_limnographref18_Disk.obj F0 b0 x0]) (hM : m_limnographref18_Disk_Cut x0 x1 x2 = some r) :
    Calls Try.prog 37 #[.pointer (some ⟨b0, 0, none⟩), Str (x1), .int .i64 (x2)] w fun x w' => ∃ F_p0, x = .returned (.int .i64 (r.1)) ∧ Hp Z0 (LS [T_limnographref18_Disk.obj F0 b0 x0]) w w' [T_limnographref18_Disk.obj F_p0 b0 r.2] := by
  have hm0 := hL.start
  refine Rn.enter Try.func37 rfl rfl (Nat.le_of_ble_eq_true rfl) ?_
  refine Rn.seq (Rn.reg (Rn.v rfl rfl rfl rfl (V.as rfl) (Rn.regEnd (Rn.seq (Rn.seq (Rn.reg (Rn.v rfl rfl rfl rfl (V.mv rfl) ?_)))))))
  obtain ⟨p2, e2, hM⟩ := bindE hM
  have hm3 : Hp Z0 (LS [T_limnographref18_Disk.obj F0 b0 x0]) w w ([] ++ [T_limnographref18_Disk.obj F0 b0 x0]) := hm0.pick [0] rfl (by decide)
  refine Rn.cl ck52 rfl rfl rfl rfl (m_limnographref18_Disk_begin_sim (Z0 := _) _ F0 b0 x0 hm3.lend e2) ?_
  rintro _ w2 ⟨F2_p0, rfl, hq2⟩
  refine ⟨_, rfl, ?_⟩
  have hm5 : Hp Z0 (LS [T_limnographref18_Disk.obj F0 b0 x0]) w w2 [T_limnographref18_Disk.obj F2_p0 b0 p2.2] := hm3.callAZ hq2
  refine Rn.v rfl rfl rfl rfl (V.as rfl) (Rn.regEnd (Rn.seq (Rn.reg (Rn.v rfl rfl rfl rfl (V.mv rfl) (Rn.v rfl rfl rfl rfl (V.neq rfl rfl) (Rn.regEnd ?_))))))
  refine Rn.condD rfl (fun h6 => ?_) (fun h6 => ?_)
  · replace hM := iteT h6 hM
    refine Rn.seq (Rn.reg (Rn.v rfl rfl rfl rfl (V.mv rfl) (Rn.v rfl rfl rfl rfl (V.as rfl) (Rn.regEnd ?_))))
    refine Rn.retG1 Try.func37 rfl (rvT rfl) ?_
    obtain rfl := someE hM
    exact ⟨F2_p0, rfl, hm5.pick [0] rfl (by decide)⟩
  · replace hM := iteF h6 hM
    refine Rn.skip (Rn.seq (Rn.reg (Rn.v rfl rfl rfl rfl (V.mv rfl) (Rn.v rfl rfl rfl rfl (V.mv rfl) ?_))))
    obtain ⟨p7, e7, hM⟩ := bindE hM
    refine Rn.cl ck30 rfl rfl rfl rfl (m_limnographref18_Disk_Find_sim (Z0 := All) _ F2_p0 b0 p2.2 x1 (fz_all (hm5.get 0 rfl)) e7) ?_
    rintro _ w7 ⟨rfl, hq7⟩
    refine ⟨_, rfl, ?_⟩
    have hm8 := hm5.call0 hq7
    refine Rn.v rfl rfl rfl rfl (V.as rfl) (Rn.regEnd (Rn.seq (Rn.seq (Rn.reg (Rn.v rfl rfl rfl rfl (V.mv rfl) (Rn.v rfl rfl rfl rfl (V.lss rfl rfl) (Rn.regEnd ?_)))))))
    refine Rn.condD rfl (fun h9 => ?_) (fun h9 => ?_)
    · replace hM := iteT h9 hM
      refine Rn.seq (Rn.reg (Rn.v rfl rfl rfl rfl (V.as rfl) (Rn.regEnd ?_)))
      refine Rn.retG1 Try.func37 rfl (rvT rfl) ?_
      obtain rfl := someE hM
      exact ⟨F2_p0, rfl, hm8.pick [0] rfl (by decide)⟩
    · replace hM := iteF h9 hM
      refine Rn.skip (Rn.seq (Rn.reg (Rn.v rfl rfl rfl rfl (V.mv rfl) (Rn.v rfl rfl rfl rfl (V.nil rfl) (Rn.v rfl rfl rfl rfl (V.fa Try.underlying74 rfl Try.sizeOf72 rfl rfl) ?_)))))
      obtain ⟨_, ⟨A10_0, c10_0, rfl⟩, hm10⟩ := hm8.unf 0 rfl
      replace hm10 : Hp Z0 (LS [T_limnographref18_Disk.obj F0 b0 x0]) w w7 [boxR b0 74 [.slice A10_0 (p2.2.L).length c10_0, .int .i64 (p2.2.Capacity), .bool (p2.2.Down), .int .i64 (p2.2.Calls), .int .i64 (p2.2.Fail), .int .i64 (p2.2.Crash), .int .i64 (p2.2.Err)], ownR 78 A10_0 c10_0 T_limnographref18_File.rep p2.2.L] := hm10
      refine Rn.v rfl rfl rfl rfl (V.ldB Try.isAgg72 rfl (hm10.get 0 rfl) rfl) (Rn.v rfl rfl rfl rfl (V.mv rfl) ?_)
      obtain ⟨z12, e12, hM⟩ := bindE hM
      obtain ⟨kk12, ke12, kz12, kl12⟩ := idxE e12
      obtain ⟨g12, vs12, hA12, hR12, hrel12⟩ := hm10.ownAt 1 rfl kz12
      subst hA12
      obtain ⟨_, _, rfl, ⟨rfl, _⟩, ⟨_, _, rfl, ⟨A13, c13, rfl, p13, q13, s13⟩, ⟨rfl, _⟩⟩⟩ := hrel12
      have hm15 : Hp Z0 (LS [T_limnographref18_Disk.obj F0 b0 x0]) w w7 [boxR b0 74 [.slice (some ⟨g12, 0, none⟩) (p2.2.L).length c10_0, .int .i64 (p2.2.Capacity), .bool (p2.2.Down), .int .i64 (p2.2.Calls), .int .i64 (p2.2.Fail), .int .i64 (p2.2.Crash), .int .i64 (p2.2.Err)], ownR 78 (some ⟨g12, 0, none⟩) c10_0 T_limnographref18_File.rep p2.2.L, slR A13 c13 byteR z12.Data] := Hp.knowL [slR A13 c13 byteR z12.Data] _ hm10 (knC (fun _ h => h) ⟨p13, q13, s13⟩ kn0)
      refine Rn.v rfl rfl rfl rfl (V.ixE kk12 Try.underlying72 Try.sizeOf78 rfl rfl ke12 kl12) (Rn.v rfl rfl rfl rfl (V.ldA Try.isAgg78 Try.sizeOf78 rfl (Rd.pre hR12 3) rfl) (Rn.als rfl rfl rfl Try.zeroValue78 rfl Try.sizeOf78 rfl rfl rfl rfl (by first | exact ones rfl | (simp [Value.oneCell']; done)) ?_))
      intro b16 w16 hb16 m16 e16
      have hm18 : Hp Z0 (LS [T_limnographref18_Disk.obj F0 b0 x0]) w w16 [boxR b0 74 [.slice (some ⟨g12, 0, none⟩) (p2.2.L).length c10_0, .int .i64 (p2.2.Capacity), .bool (p2.2.Down), .int .i64 (p2.2.Calls), .int .i64 (p2.2.Fail), .int .i64 (p2.2.Crash), .int .i64 (p2.2.Err)], ownR 78 (some ⟨g12, 0, none⟩) c10_0 T_limnographref18_File.rep p2.2.L, slR A13 c13 byteR z12.Data, boxR b16 78 [Str (z12.Name), .slice A13 (z12.Data).length c13, .int .i64 (z12.Sure)]] := hm15.addBox hb16 e16 m16
      refine Rn.regEnd (Rn.seq (Rn.seq (Rn.reg (Rn.v rfl rfl rfl rfl (V.mv rfl) (Rn.v rfl rfl rfl rfl (V.lss rfl rfl) (Rn.v rfl rfl rfl rfl (V.mv rfl) ?_))))))
      refine Rn.cutR [] [(0, .pointer (some ⟨b0, 0, none⟩)), (1, Str (x1)), (2, .int .i64 (x2)), (9, .pointer (some ⟨b16, 0, none⟩)), (35, .bool (decide ((x2 < 0) ∨ (x2 > (z12.Data.length : Int)))))] (fun hk19 => ?_) ?_
      · refine Rn.partD (t := 29) rfl (fun h20 => ?_) (fun h20 => ?_)
        · refine Rn.no rfl rfl rfl rfl (Rn.no rfl rfl rfl rfl (Rn.no rfl rfl rfl rfl (Rn.no rfl rfl rfl rfl (Rn.no rfl rfl rfl rfl (Rn.v rfl rfl rfl rfl (V.pkT rfl rfl) ?_)))))
          refine hk19 _ ?_
          exact Sub.cons rfl (Sub.cons rfl (Sub.cons rfl (Sub.cons rfl (Sub.cons (lkv _ rfl (by first | exact andT h20 | exact andF h20 | exact orT h20 | exact orF h20 | exact nandF h20 | exact nandT h20 | exact norT h20 | exact norF h20 | (simp [h20]; done) | grind)) (Sub.nil _)))))
        · refine Rn.v rfl rfl rfl rfl (V.mv rfl) (Rn.v rfl rfl rfl rfl (V.fa Try.underlying78 rfl Try.sizeOf24 rfl rfl) (Rn.v rfl rfl rfl rfl (V.ldB Try.isAgg24 rfl (hm18.get 3 rfl) rfl) (Rn.v rfl rfl rfl rfl (V.lenV Try.underlying24 rfl) (Rn.v rfl rfl rfl rfl (V.gtr rfl rfl) (Rn.v rfl rfl rfl rfl (V.pkF rfl rfl) ?_)))))
          refine hk19 _ ?_
          exact Sub.cons rfl (Sub.cons rfl (Sub.cons rfl (Sub.cons rfl (Sub.cons (lkv _ rfl (by first | exact andT h20 | exact andF h20 | exact orT h20 | exact orF h20 | exact nandF h20 | exact nandT h20 | exact norT h20 | exact norF h20 | (simp [h20]; done) | grind)) (Sub.nil _)))))
      refine Rn.regEnd ?_
      refine Rn.condD rfl (fun h21 => ?_) (fun h21 => ?_)
      · replace hM := iteT h21 hM
        refine Rn.seq (Rn.reg (Rn.v rfl rfl rfl rfl (V.as rfl) (Rn.regEnd ?_)))
        have hm23 : Hp Z0 (LS [T_limnographref18_Disk.obj F0 b0 x0]) w w16 ([slR A13 c13 byteR z12.Data, boxR b16 78 [Str (z12.Name), .slice A13 (z12.Data).length c13, .int .i64 (z12.Sure)]] ++ [boxR b0 74 [.slice (some ⟨g12, 0, none⟩) (p2.2.L).length c10_0, .int .i64 (p2.2.Capacity), .bool (p2.2.Down), .int .i64 (p2.2.Calls), .int .i64 (p2.2.Fail), .int .i64 (p2.2.Crash), .int .i64 (p2.2.Err)], ownR 78 (some ⟨g12, 0, none⟩) c10_0 T_limnographref18_File.rep p2.2.L]) := hm18.pick [2, 3, 0, 1] rfl (by decide)
        obtain ⟨F22, hm22⟩ := hm23.fold (T_limnographref18_Disk.sh b0 p2.2) ⟨(some ⟨g12, 0, none⟩), c10_0, rfl⟩
        replace hm22 : Hp Z0 (LS [T_limnographref18_Disk.obj F0 b0 x0]) w w16 [slR A13 c13 byteR z12.Data, boxR b16 78 [Str (z12.Name), .slice A13 (z12.Data).length c13, .int .i64 (z12.Sure)], T_limnographref18_Disk.obj F22 b0 p2.2] := hm22
        refine Rn.retG1 Try.func37 rfl (rvT rfl) ?_
        obtain rfl := someE hM
        exact ⟨F22, rfl, hm22.pick [2] rfl (by decide)⟩
      · replace hM := iteF h21 hM
        refine Rn.skip (Rn.seq ?_)
        refine Rn.drawK 13 rfl hm18 (by kernel_rfl) ?_
        intro w24 hm24
        refine RH.take 0 (by kernel_rfl) rfl rfl rfl rfl (fun w' hDr => V.mv rfl) ?_
        refine RH.take 1 (by kernel_rfl) rfl rfl rfl rfl (fun w' hDr => V.mv rfl) ?_
        refine RH.take 2 (by kernel_rfl) rfl rfl rfl rfl (fun w' hDr => V.fa Try.underlying78 rfl Try.sizeOf24 rfl rfl) ?_
        refine RH.take 3 (by kernel_rfl) rfl rfl rfl rfl (fun w' hDr => V.ldB Try.isAgg24 rfl ((hm24.ext hDr).get 3 rfl) rfl) ?_
        refine RH.take 4 (by kernel_rfl) rfl rfl rfl rfl (fun w' hDr => V.mv rfl) ?_
        obtain ⟨z25, e25, hM⟩ := bindE hM
        refine RH.cutH 5 (by kernel_rfl) hm24 2 rfl e25 rfl rfl rfl Try.underlying24 Try.sizeOf5 rfl rfl rfl rfl rfl ?_
        intro A25 c25 hm25
        refine RH.take 8 (by kernel_rfl) rfl rfl rfl rfl (fun w' hDr => V.fa Try.underlying78 rfl Try.sizeOf3 rfl rfl) ?_
        refine RH.take 9 (by kernel_rfl) rfl rfl rfl rfl (fun w' hDr => V.ldB Try.isAgg3 rfl ((hm24.ext hDr).get 3 rfl) rfl) ?_
        refine RH.take 10 (by kernel_rfl) rfl rfl rfl rfl (fun w' hDr => V.mv rfl) ?_
        refine RH.take 11 (by kernel_rfl) rfl rfl rfl rfl (fun w' hDr => V.mini rfl rfl) ?_
        refine RH.here fun hS6 => RH.one 6 (by kernel_rfl) rfl rfl rfl rfl (V.b2s Try.underlying24 Try.underlying9 Try.underlying5 rfl rfl (hm25.get 4 rfl).2.2) hS6 ?_
        obtain ⟨z27, e27, hM⟩ := bindE hM
        refine RH.s2bH 7 (by kernel_rfl) hm25 e27 rfl rfl rfl Try.underlying9 Try.underlying24 Try.underlying5 rfl ?_
        intro A27 c27 w27 hm27 e27
        refine ⟨((Ext.refl _).trans e27), ?_⟩
        refine RH.here fun hS12 => RH.one 12 (by kernel_rfl) rfl rfl rfl rfl (V.bldS st78 rfl rfl) hS12 ?_
        refine RG.tailK (by kernel_rfl) ?_
        have hm31 : Hp Z0 (LS [T_limnographref18_Disk.obj F0 b0 x0]) w w27 ([slR A13 c13 byteR z12.Data, boxR b16 78 [Str (z12.Name), .slice A13 (z12.Data).length c13, .int .i64 (z12.Sure)], slR A25 c25 byteR z25, slR A27 c27 byteR z27] ++ [boxR b0 74 [.slice (some ⟨g12, 0, none⟩) (p2.2.L).length c10_0, .int .i64 (p2.2.Capacity), .bool (p2.2.Down), .int .i64 (p2.2.Calls), .int .i64 (p2.2.Fail), .int .i64 (p2.2.Crash), .int .i64 (p2.2.Err)], ownR 78 (some ⟨g12, 0, none⟩) c10_0 T_limnographref18_File.rep p2.2.L]) := hm27.pick [2, 3, 4, 5, 0, 1] rfl (by decide)
        obtain ⟨F30, hm30⟩ := hm31.fold (T_limnographref18_Disk.sh b0 p2.2) ⟨(some ⟨g12, 0, none⟩), c10_0, rfl⟩
        replace hm30 : Hp Z0 (LS [T_limnographref18_Disk.obj F0 b0 x0]) w w27 [slR A13 c13 byteR z12.Data, boxR b16 78 [Str (z12.Name), .slice A13 (z12.Data).length c13, .int .i64 (z12.Sure)], slR A25 c25 byteR z25, slR A27 c27 byteR z27, T_limnographref18_Disk.obj F30 b0 p2.2] := hm30
        obtain ⟨p29, e29, hM⟩ := bindE hM
        have hm32 := hm30.know (relR T_limnographref18_File.rep [Str (x1), .slice A27 (z27).length c27, .int .i64 (min z12.Sure x2)] ({ Name := x1, Data := z27, Sure := min z12.Sure x2 } : T_limnographref18_File)) (fun _ h => h) (show T_limnographref18_File.rep.rel _ _ _ _ from ⟨_, _, rfl, ⟨rfl, trivial⟩, ⟨_, _, rfl, ⟨_, _, rfl, (hm30.get 3 rfl).1, (hm30.get 3 rfl).2.1, (hm30.get 3 rfl).2.2⟩, ⟨rfl, trivial⟩⟩⟩)
        have hm34 : Hp Z0 (LS [T_limnographref18_Disk.obj F0 b0 x0]) w w27 ([slR A13 c13 byteR z12.Data, boxR b16 78 [Str (z12.Name), .slice A13 (z12.Data).length c13, .int .i64 (z12.Sure)], slR A25 c25 byteR z25, slR A27 c27 byteR z27] ++ [T_limnographref18_Disk.obj F30 b0 p2.2, relR T_limnographref18_File.rep [Str (x1), .slice A27 (z27).length c27, .int .i64 (min z12.Sure x2)] ({ Name := x1, Data := z27, Sure := min z12.Sure x2 } : T_limnographref18_File)]) := hm32.pick [0, 1, 2, 3, 4, 5] rfl (by decide)
        refine RH.cl ck32 13 (by kernel_rfl) rfl rfl rfl rfl (m_limnographref18_Disk_put_sim (Z0 := _) _ F30 b0 p2.2 ({ Name := x1, Data := z27, Sure := min z12.Sure x2 } : T_limnographref18_File) [Str (x1), .slice A27 (z27).length c27, .int .i64 (min z12.Sure x2)] hm34.lend e29) ?_
        rintro _ w29 ⟨F29_p0, rfl, hq29⟩
        refine ⟨_, rfl, trivial, ?_⟩
        have hm36 : Hp Z0 (LS [T_limnographref18_Disk.obj F0 b0 x0]) w w29 [slR A13 c13 byteR z12.Data, boxR b16 78 [Str (z12.Name), .slice A13 (z12.Data).length c13, .int .i64 (z12.Sure)], slR A25 c25 byteR z25, slR A27 c27 byteR z27, T_limnographref18_Disk.obj F29_p0 b0 p29] := hm34.callAZ hq29
        refine RH.doneP (by kernel_rfl) ?_
        refine Rn.seq (Rn.reg (Rn.v rfl rfl rfl rfl (V.as rfl) (Rn.regEnd ?_)))
        refine Rn.retG1 Try.func37 rfl (rvT rfl) ?_
        obtain rfl := someE hM
        exact ⟨F29_p0, rfl, hm36.pick [4] rfl (by decide)⟩

set_option maxRecDepth 20000 in
theorem m_disk_Disk_Rename_sim {Z0 : Nat → Prop} (w : World) (F0 : Nat → Prop) (b0 : Nat) (x0 : PD) (x1 : (List UInt8)) (x2 : (List UInt8)) {r : (Int × PD)} (hL : Lent Z0 w [diskO 59 64 5 F0 b0 x0]) (hM : m_disk_Disk_Rename x0 x1 x2 = some r) :
    Calls Try.prog 38 #[.pointer (some ⟨b0, 0, none⟩), Str (x1), Str (x2)] w fun x w' => ∃ F_p0, x = .returned (.int .i64 (r.1)) ∧ Hp Z0 (LS [diskO 59 64 5 F0 b0 x0]) w w' [diskO 59 64 5 F_p0 b0 r.2] := by
  unfold m_disk_Disk_Rename at hM
  split at hM
  · rename_i hg
    obtain rfl := someE hM
    have hd : DkAt 59 64 5 w b0 F0 x0 := hL.1 0 _ rfl
    refine (rename_spec x1 x2 w hg hd).mono ?_
    rintro x w' ⟨rfl, F', d, hx, hF⟩
    exact ⟨F', rfl, hL.turn1 hx hF fun _ => d⟩
  · cases hM

set_option maxRecDepth 20000 in
theorem m_limnographref18_Disk_Rename_sim {Z0 : Nat → Prop} (w : World) (F0 : Nat → Prop) (b0 : Nat) (x0 : T_limnographref18_Disk) (x1 : (List UInt8)) (x2 : (List UInt8)) {r : (Int × T_limnographref18_Disk)} (hL : Lent Z0 w [T_limnographref18_Disk.obj F0 b0 x0]) (hM : m_limnographref18_Disk_Rename x0 x1 x2 = some r) :
    Calls Try.prog 39 #[.pointer (some ⟨b0, 0, none⟩), Str (x1), Str (x2)] w fun x w' => ∃ F_p0, x = .returned (.int .i64 (r.1)) ∧ Hp Z0 (LS [T_limnographref18_Disk.obj F0 b0 x0]) w w' [T_limnographref18_Disk.obj F_p0 b0 r.2] := by
  have hm0 := hL.start
  refine Rn.enter Try.func39 rfl rfl (Nat.le_of_ble_eq_true rfl) ?_
  refine Rn.seq (Rn.reg (Rn.v rfl rfl rfl rfl (V.as rfl) (Rn.regEnd (Rn.seq (Rn.seq (Rn.reg (Rn.v rfl rfl rfl rfl (V.mv rfl) ?_)))))))
  obtain ⟨p2, e2, hM⟩ := bindE hM
  have hm3 : Hp Z0 (LS [T_limnographref18_Disk.obj F0 b0 x0]) w w ([] ++ [T_limnographref18_Disk.obj F0 b0 x0]) := hm0.pick [0] rfl (by decide)
  refine Rn.cl ck52 rfl rfl rfl rfl (m_limnographref18_Disk_begin_sim (Z0 := _) _ F0 b0 x0 hm3.lend e2) ?_
  rintro _ w2 ⟨F2_p0, rfl, hq2⟩
  refine ⟨_, rfl, ?_⟩
  have hm5 : Hp Z0 (LS [T_limnographref18_Disk.obj F0 b0 x0]) w w2 [T_limnographref18_Disk.obj F2_p0 b0 p2.2] := hm3.callAZ hq2
  refine Rn.v rfl rfl rfl rfl (V.as rfl) (Rn.regEnd (Rn.seq (Rn.reg (Rn.v rfl rfl rfl rfl (V.mv rfl) (Rn.v rfl rfl rfl rfl (V.neq rfl rfl) (Rn.regEnd ?_))))))
  refine Rn.condD rfl (fun h6 => ?_) (fun h6 => ?_)
  · replace hM := iteT h6 hM
    refine Rn.seq (Rn.reg (Rn.v rfl rfl rfl rfl (V.mv rfl) (Rn.v rfl rfl rfl rfl (V.as rfl) (Rn.regEnd ?_))))
    refine Rn.retG1 Try.func39 rfl (rvT rfl) ?_
    obtain rfl := someE hM
    exact ⟨F2_p0, rfl, hm5.pick [0] rfl (by decide)⟩
  · replace hM := iteF h6 hM
    refine Rn.skip (Rn.seq (Rn.seq (Rn.reg (Rn.v rfl rfl rfl rfl (V.mv rfl) ?_))))
    obtain ⟨p7, e7, hM⟩ := bindE hM
    refine Rn.cl ck29 rfl rfl rfl rfl (m_limnographref18_Name_sim (Z0 := All) _ x2  e7) ?_
    rintro _ w7 ⟨rfl, hq7⟩
    refine ⟨_, rfl, ?_⟩
    have hm8 := hm5.call0 hq7
    refine Rn.v rfl rfl rfl rfl (V.notB rfl) (Rn.regEnd ?_)
    refine Rn.condS rfl (fun h9 => ?_) (fun h9 => ?_)
    · replace hM := iteT h9 hM
      refine Rn.seq (Rn.reg (Rn.v rfl rfl rfl rfl (V.as rfl) (Rn.regEnd ?_)))
      refine Rn.retG1 Try.func39 rfl (rvT rfl) ?_
      obtain rfl := someE hM
      exact ⟨F2_p0, rfl, hm8.pick [0] rfl (by decide)⟩
    · replace hM := iteF (by rw [h9]; exact Bool.false_ne_true) hM
      refine Rn.skip (Rn.seq (Rn.reg (Rn.v rfl rfl rfl rfl (V.mv rfl) (Rn.v rfl rfl rfl rfl (V.mv rfl) ?_))))
      obtain ⟨p10, e10, hM⟩ := bindE hM
      refine Rn.cl ck30 rfl rfl rfl rfl (m_limnographref18_Disk_Find_sim (Z0 := All) _ F2_p0 b0 p2.2 x1 (fz_all (hm8.get 0 rfl)) e10) ?_
      rintro _ w10 ⟨rfl, hq10⟩
      refine ⟨_, rfl, ?_⟩
      have hm11 := hm8.call0 hq10
      refine Rn.v rfl rfl rfl rfl (V.as rfl) (Rn.regEnd (Rn.seq (Rn.seq (Rn.reg (Rn.v rfl rfl rfl rfl (V.mv rfl) (Rn.v rfl rfl rfl rfl (V.lss rfl rfl) (Rn.regEnd ?_)))))))
      refine Rn.condD rfl (fun h12 => ?_) (fun h12 => ?_)
      · replace hM := iteT h12 hM
        refine Rn.seq (Rn.reg (Rn.v rfl rfl rfl rfl (V.as rfl) (Rn.regEnd ?_)))
        refine Rn.retG1 Try.func39 rfl (rvT rfl) ?_
        obtain rfl := someE hM
        exact ⟨F2_p0, rfl, hm11.pick [0] rfl (by decide)⟩
      · replace hM := iteF h12 hM
        refine Rn.skip (Rn.seq (Rn.reg (Rn.v rfl rfl rfl rfl (V.mv rfl) (Rn.v rfl rfl rfl rfl (V.nil rfl) (Rn.v rfl rfl rfl rfl (V.fa Try.underlying74 rfl Try.sizeOf72 rfl rfl) ?_)))))
        obtain ⟨_, ⟨A13_0, c13_0, rfl⟩, hm13⟩ := hm11.unf 0 rfl
        replace hm13 : Hp Z0 (LS [T_limnographref18_Disk.obj F0 b0 x0]) w w10 [boxR b0 74 [.slice A13_0 (p2.2.L).length c13_0, .int .i64 (p2.2.Capacity), .bool (p2.2.Down), .int .i64 (p2.2.Calls), .int .i64 (p2.2.Fail), .int .i64 (p2.2.Crash), .int .i64 (p2.2.Err)], ownR 78 A13_0 c13_0 T_limnographref18_File.rep p2.2.L] := hm13
        refine Rn.v rfl rfl rfl rfl (V.ldB Try.isAgg72 rfl (hm13.get 0 rfl) rfl) (Rn.v rfl rfl rfl rfl (V.mv rfl) ?_)
        obtain ⟨z15, e15, hM⟩ := bindE hM
        obtain ⟨kk15, ke15, kz15, kl15⟩ := idxE e15
        obtain ⟨g15, vs15, hA15, hR15, hrel15⟩ := hm13.ownAt 1 rfl kz15
        subst hA15
        obtain ⟨_, _, rfl, ⟨rfl, _⟩, ⟨_, _, rfl, ⟨A16, c16, rfl, p16, q16, s16⟩, ⟨rfl, _⟩⟩⟩ := hrel15
        have hm18 : Hp Z0 (LS [T_limnographref18_Disk.obj F0 b0 x0]) w w10 [boxR b0 74 [.slice (some ⟨g15, 0, none⟩) (p2.2.L).length c13_0, .int .i64 (p2.2.Capacity), .bool (p2.2.Down), .int .i64 (p2.2.Calls), .int .i64 (p2.2.Fail), .int .i64 (p2.2.Crash), .int .i64 (p2.2.Err)], ownR 78 (some ⟨g15, 0, none⟩) c13_0 T_limnographref18_File.rep p2.2.L, slR A16 c16 byteR z15.Data] := Hp.knowL [slR A16 c16 byteR z15.Data] _ hm13 (knC (fun _ h => h) ⟨p16, q16, s16⟩ kn0)
        refine Rn.v rfl rfl rfl rfl (V.ixE kk15 Try.underlying72 Try.sizeOf78 rfl rfl ke15 kl15) (Rn.v rfl rfl rfl rfl (V.ldA Try.isAgg78 Try.sizeOf78 rfl (Rd.pre hR15 3) rfl) (Rn.als rfl rfl rfl Try.zeroValue78 rfl Try.sizeOf78 rfl rfl rfl rfl (by first | exact ones rfl | (simp [Value.oneCell']; done)) ?_))
        intro b19 w19 hb19 m19 e19
        have hm21 : Hp Z0 (LS [T_limnographref18_Disk.obj F0 b0 x0]) w w19 [boxR b0 74 [.slice (some ⟨g15, 0, none⟩) (p2.2.L).length c13_0, .int .i64 (p2.2.Capacity), .bool (p2.2.Down), .int .i64 (p2.2.Calls), .int .i64 (p2.2.Fail), .int .i64 (p2.2.Crash), .int .i64 (p2.2.Err)], ownR 78 (some ⟨g15, 0, none⟩) c13_0 T_limnographref18_File.rep p2.2.L, slR A16 c16 byteR z15.Data, boxR b19 78 [Str (z15.Name), .slice A16 (z15.Data).length c16, .int .i64 (z15.Sure)]] := hm18.addBox hb19 e19 m19
        refine Rn.regEnd (Rn.seq (Rn.reg (Rn.v rfl rfl rfl rfl (V.mv rfl) (Rn.v rfl rfl rfl rfl (V.mv rfl) (Rn.v rfl rfl rfl rfl (V.mv rfl) ?_)))))
        have hm24 : Hp Z0 (LS [T_limnographref18_Disk.obj F0 b0 x0]) w w19 ([slR A16 c16 byteR z15.Data, boxR b19 78 [Str (z15.Name), .slice A16 (z15.Data).length c16, .int .i64 (z15.Sure)]] ++ [boxR b0 74 [.slice (some ⟨g15, 0, none⟩) (p2.2.L).length c13_0, .int .i64 (p2.2.Capacity), .bool (p2.2.Down), .int .i64 (p2.2.Calls), .int .i64 (p2.2.Fail), .int .i64 (p2.2.Crash), .int .i64 (p2.2.Err)], ownR 78 (some ⟨g15, 0, none⟩) c13_0 T_limnographref18_File.rep p2.2.L]) := hm21.pick [2, 3, 0, 1] rfl (by decide)
        obtain ⟨F23, hm23⟩ := hm24.fold (T_limnographref18_Disk.sh b0 p2.2) ⟨(some ⟨g15, 0, none⟩), c13_0, rfl⟩
        replace hm23 : Hp Z0 (LS [T_limnographref18_Disk.obj F0 b0 x0]) w w19 [slR A16 c16 byteR z15.Data, boxR b19 78 [Str (z15.Name), .slice A16 (z15.Data).length c16, .int .i64 (z15.Sure)], T_limnographref18_Disk.obj F23 b0 p2.2] := hm23
        obtain ⟨p22, e22, hM⟩ := bindE hM
        have hm25 : Hp Z0 (LS [T_limnographref18_Disk.obj F0 b0 x0]) w w19 ([slR A16 c16 byteR z15.Data, boxR b19 78 [Str (z15.Name), .slice A16 (z15.Data).length c16, .int .i64 (z15.Sure)]] ++ [T_limnographref18_Disk.obj F23 b0 p2.2]) := hm23.pick [0, 1, 2] rfl (by decide)
        refine Rn.cl ck51 rfl rfl rfl rfl (m_limnographref18_Disk_without_sim (Z0 := _) _ F23 b0 p2.2 x1 hm25.lend e22) ?_
        rintro _ w22 ⟨A22_0_0, c22_0_0, F22_p0, rfl, hq22⟩
        refine ⟨_, rfl, ?_⟩
        have hm28 : Hp Z0 (LS [T_limnographref18_Disk.obj F0 b0 x0]) w w22 [slR A16 c16 byteR z15.Data, boxR b19 78 [Str (z15.Name), .slice A16 (z15.Data).length c16, .int .i64 (z15.Sure)], ownR 78 A22_0_0 c22_0_0 T_limnographref18_File.rep p22, T_limnographref18_Disk.obj F22_p0 b0 p2.2] := hm25.callAZ hq22
        refine Rn.v rfl rfl rfl rfl (V.nil rfl) (Rn.v rfl rfl rfl rfl (V.fa Try.underlying74 rfl Try.sizeOf72 rfl rfl) ?_)
        obtain ⟨_, ⟨A29_0, c29_0, rfl⟩, hm29⟩ := hm28.unf 3 rfl
        replace hm29 : Hp Z0 (LS [T_limnographref18_Disk.obj F0 b0 x0]) w w22 [slR A16 c16 byteR z15.Data, boxR b19 78 [Str (z15.Name), .slice A16 (z15.Data).length c16, .int .i64 (z15.Sure)], ownR 78 A22_0_0 c22_0_0 T_limnographref18_File.rep p22, boxR b0 74 [.slice A29_0 (p2.2.L).length c29_0, .int .i64 (p2.2.Capacity), .bool (p2.2.Down), .int .i64 (p2.2.Calls), .int .i64 (p2.2.Fail), .int .i64 (p2.2.Crash), .int .i64 (p2.2.Err)], ownR 78 A29_0 c29_0 T_limnographref18_File.rep p2.2.L] := hm29
        refine Rn.st rfl rfl Try.sizeOf72 rfl rfl rfl rfl (by first | exact ones rfl | (simp [Value.oneCell']; done)) (hm29.get 3 rfl) (by first | exact Nat.le_of_ble_eq_true rfl | (simp; done)) ?_
        intro w31 m31 x31
        have hm32 : Hp Z0 (LS [T_limnographref18_Disk.obj F0 b0 x0]) w w31 [slR A16 c16 byteR z15.Data, boxR b19 78 [Str (z15.Name), .slice A16 (z15.Data).length c16, .int .i64 (z15.Sure)], ownR 78 A22_0_0 c22_0_0 T_limnographref18_File.rep p22, boxR b0 74 [.slice A22_0_0 (p22).length c22_0_0, .int .i64 (p2.2.Capacity), .bool (p2.2.Down), .int .i64 (p2.2.Calls), .int .i64 (p2.2.Fail), .int .i64 (p2.2.Crash), .int .i64 (p2.2.Err)], ownR 78 A29_0 c29_0 T_limnographref18_File.rep p2.2.L] := hm29.st 3 rfl x31 m31
        refine Rn.regEnd (Rn.seq (Rn.reg (Rn.v rfl rfl rfl rfl (V.mv rfl) (Rn.v rfl rfl rfl rfl (V.mv rfl) (Rn.v rfl rfl rfl rfl (V.fa Try.underlying78 rfl Try.sizeOf24 rfl rfl) (Rn.v rfl rfl rfl rfl (V.ldB Try.isAgg24 rfl (hm32.get 1 rfl) rfl) (Rn.v rfl rfl rfl rfl (V.fa Try.underlying78 rfl Try.sizeOf3 rfl rfl) (Rn.v rfl rfl rfl rfl (V.ldB Try.isAgg3 rfl (hm32.get 1 rfl) rfl) (Rn.v rfl rfl rfl rfl (V.bldS st78 rfl rfl) ?_)))))))))
        have hm35 : Hp Z0 (LS [T_limnographref18_Disk.obj F0 b0 x0]) w w31 ([slR A16 c16 byteR z15.Data, boxR b19 78 [Str (z15.Name), .slice A16 (z15.Data).length c16, .int .i64 (z15.Sure)], ownR 78 A29_0 c29_0 T_limnographref18_File.rep p2.2.L] ++ [boxR b0 74 [.slice A22_0_0 (p22).length c22_0_0, .int .i64 (p2.2.Capacity), .bool (p2.2.Down), .int .i64 (p2.2.Calls), .int .i64 (p2.2.Fail), .int .i64 (p2.2.Crash), .int .i64 (p2.2.Err)], ownR 78 A22_0_0 c22_0_0 T_limnographref18_File.rep p22]) := hm32.pick [0, 1, 4, 3, 2] rfl (by decide)
        obtain ⟨F34, hm34⟩ := hm35.fold (T_limnographref18_Disk.sh b0 ({ L := p22, Capacity := p2.2.Capacity, Down := p2.2.Down, Calls := p2.2.Calls, Fail := p2.2.Fail, Crash := p2.2.Crash, Err := p2.2.Err } : T_limnographref18_Disk)) ⟨A22_0_0, c22_0_0, rfl⟩
        replace hm34 : Hp Z0 (LS [T_limnographref18_Disk.obj F0 b0 x0]) w w31 [slR A16 c16 byteR z15.Data, boxR b19 78 [Str (z15.Name), .slice A16 (z15.Data).length c16, .int .i64 (z15.Sure)], ownR 78 A29_0 c29_0 T_limnographref18_File.rep p2.2.L, T_limnographref18_Disk.obj F34 b0 ({ L := p22, Capacity := p2.2.Capacity, Down := p2.2.Down, Calls := p2.2.Calls, Fail := p2.2.Fail, Crash := p2.2.Crash, Err := p2.2.Err } : T_limnographref18_Disk)] := hm34
        obtain ⟨p33, e33, hM⟩ := bindE hM
        have hm36 := hm34.know (relR T_limnographref18_File.rep [Str (x2), .slice A16 (z15.Data).length c16, .int .i64 (z15.Sure)] ({ Name := x2, Data := z15.Data, Sure := z15.Sure } : T_limnographref18_File)) (fun _ h => h) (show T_limnographref18_File.rep.rel _ _ _ _ from ⟨_, _, rfl, ⟨rfl, trivial⟩, ⟨_, _, rfl, ⟨_, _, rfl, (hm34.get 0 rfl).1, (hm34.get 0 rfl).2.1, (hm34.get 0 rfl).2.2⟩, ⟨rfl, trivial⟩⟩⟩)
        have hm38 : Hp Z0 (LS [T_limnographref18_Disk.obj F0 b0 x0]) w w31 ([slR A16 c16 byteR z15.Data, boxR b19 78 [Str (z15.Name), .slice A16 (z15.Data).length c16, .int .i64 (z15.Sure)], ownR 78 A29_0 c29_0 T_limnographref18_File.rep p2.2.L] ++ [T_limnographref18_Disk.obj F34 b0 ({ L := p22, Capacity := p2.2.Capacity, Down := p2.2.Down, Calls := p2.2.Calls, Fail := p2.2.Fail, Crash := p2.2.Crash, Err := p2.2.Err } : T_limnographref18_Disk), relR T_limnographref18_File.rep [Str (x2), .slice A16 (z15.Data).length c16, .int .i64 (z15.Sure)] ({ Name := x2, Data := z15.Data, Sure := z15.Sure } : T_limnographref18_File)]) := hm36.pick [0, 1, 2, 3, 4] rfl (by decide)
        refine Rn.cl ck32 rfl rfl rfl rfl (m_limnographref18_Disk_put_sim (Z0 := _) _ F34 b0 ({ L := p22, Capacity := p2.2.Capacity, Down := p2.2.Down, Calls := p2.2.Calls, Fail := p2.2.Fail, Crash := p2.2.Crash, Err := p2.2.Err } : T_limnographref18_Disk) ({ Name := x2, Data := z15.Data, Sure := z15.Sure } : T_limnographref18_File) [Str (x2), .slice A16 (z15.Data).length c16, .int .i64 (z15.Sure)] hm38.lend e33) ?_
        rintro _ w33 ⟨F33_p0, rfl, hq33⟩
        refine ⟨_, rfl, ?_⟩
        have hm40 : Hp Z0 (LS [T_limnographref18_Disk.obj F0 b0 x0]) w w33 [slR A16 c16 byteR z15.Data, boxR b19 78 [Str (z15.Name), .slice A16 (z15.Data).length c16, .int .i64 (z15.Sure)], ownR 78 A29_0 c29_0 T_limnographref18_File.rep p2.2.L, T_limnographref18_Disk.obj F33_p0 b0 p33] := hm38.callAZ hq33
        refine Rn.regEnd (Rn.seq (Rn.reg (Rn.v rfl rfl rfl rfl (V.as rfl) (Rn.regEnd ?_))))
        refine Rn.retG1 Try.func39 rfl (rvT rfl) ?_
        obtain rfl := someE hM
        exact ⟨F33_p0, rfl, hm40.pick [3] rfl (by decide)⟩

set_option maxRecDepth 20000 in
theorem m_disk_Disk_Remove_sim {Z0 : Nat → Prop} (w : World) (F0 : Nat → Prop) (b0 : Nat) (x0 : PD) (x1 : (List UInt8)) {r : (Int × PD)} (hL : Lent Z0 w [diskO 59 64 5 F0 b0 x0]) (hM : m_disk_Disk_Remove x0 x1 = some r) :
    Calls Try.prog 40 #[.pointer (some ⟨b0, 0, none⟩), Str (x1)] w fun x w' => ∃ F_p0, x = .returned (.int .i64 (r.1)) ∧ Hp Z0 (LS [diskO 59 64 5 F0 b0 x0]) w w' [diskO 59 64 5 F_p0 b0 r.2] := by
  unfold m_disk_Disk_Remove at hM
  split at hM
  · rename_i hg
    obtain rfl := someE hM
    have hd : DkAt 59 64 5 w b0 F0 x0 := hL.1 0 _ rfl
    refine (remove_spec x1 w hg hd).mono ?_
    rintro x w' ⟨rfl, F', d, hx, hF⟩
    exact ⟨F', rfl, hL.turn1 hx hF fun _ => d⟩
  · cases hM

set_option maxRecDepth 20000 in
theorem m_limnographref18_Disk_Remove_sim {Z0 : Nat → Prop} (w : World) (F0 : Nat → Prop) (b0 : Nat) (x0 : T_limnographref18_Disk) (x1 : (List UInt8)) {r : (Int × T_limnographref18_Disk)} (hL : Lent Z0 w [T_limnographref18_Disk.obj F0 b0 x0]) (hM : m_limnographref18_Disk_Remove x0 x1 = some r) :
    Calls Try.prog 41 #[.pointer (some ⟨b0, 0, none⟩), Str (x1)] w fun x w' => ∃ F_p0, x = .returned (.int .i64 (r.1)) ∧ Hp Z0 (LS [T_limnographref18_Disk.obj F0 b0 x0]) w w' [T_limnographref18_Disk.obj F_p0 b0 r.2] := by
  have hm0 := hL.start
  refine Rn.enter Try.func41 rfl rfl (Nat.le_of_ble_eq_true rfl) ?_
  refine Rn.seq (Rn.reg (Rn.v rfl rfl rfl rfl (V.as rfl) (Rn.regEnd (Rn.seq (Rn.seq (Rn.reg (Rn.v rfl rfl rfl rfl (V.mv rfl) ?_)))))))
  obtain ⟨p2, e2, hM⟩ := bindE hM
  have hm3 : Hp Z0 (LS [T_limnographref18_Disk.obj F0 b0 x0]) w w ([] ++ [T_limnographref18_Disk.obj F0 b0 x0]) := hm0.pick [0] rfl (by decide)
  refine Rn.cl ck52 rfl rfl rfl rfl (m_limnographref18_Disk_begin_sim (Z0 := _) _ F0 b0 x0 hm3.lend e2) ?_
  rintro _ w2 ⟨F2_p0, rfl, hq2⟩
  refine ⟨_, rfl, ?_⟩
  have hm5 : Hp Z0 (LS [T_limnographref18_Disk.obj F0 b0 x0]) w w2 [T_limnographref18_Disk.obj F2_p0 b0 p2.2] := hm3.callAZ hq2
  refine Rn.v rfl rfl rfl rfl (V.as rfl) (Rn.regEnd (Rn.seq (Rn.reg (Rn.v rfl rfl rfl rfl (V.mv rfl) (Rn.v rfl rfl rfl rfl (V.neq rfl rfl) (Rn.regEnd ?_))))))
  refine Rn.condD rfl (fun h6 => ?_) (fun h6 => ?_)
  · replace hM := iteT h6 hM
    refine Rn.seq (Rn.reg (Rn.v rfl rfl rfl rfl (V.mv rfl) (Rn.v rfl rfl rfl rfl (V.as rfl) (Rn.regEnd ?_))))
    refine Rn.retG1 Try.func41 rfl (rvT rfl) ?_
    obtain rfl := someE hM
    exact ⟨F2_p0, rfl, hm5.pick [0] rfl (by decide)⟩
  · replace hM := iteF h6 hM
    refine Rn.skip (Rn.seq (Rn.seq (Rn.reg (Rn.v rfl rfl rfl rfl (V.mv rfl) (Rn.v rfl rfl rfl rfl (V.mv rfl) ?_)))))
    obtain ⟨p7, e7, hM⟩ := bindE hM
    refine Rn.cl ck30 rfl rfl rfl rfl (m_limnographref18_Disk_Find_sim (Z0 := All) _ F2_p0 b0 p2.2 x1 (fz_all (hm5.get 0 rfl)) e7) ?_
    rintro _ w7 ⟨rfl, hq7⟩
    refine ⟨_, rfl, ?_⟩
    have hm8 := hm5.call0 hq7
    refine Rn.v rfl rfl rfl rfl (V.lss rfl rfl) (Rn.regEnd ?_)
    refine Rn.condD rfl (fun h9 => ?_) (fun h9 => ?_)
    · replace hM := iteT h9 hM
      refine Rn.seq (Rn.reg (Rn.v rfl rfl rfl rfl (V.as rfl) (Rn.regEnd ?_)))
      refine Rn.retG1 Try.func41 rfl (rvT rfl) ?_
      obtain rfl := someE hM
      exact ⟨F2_p0, rfl, hm8.pick [0] rfl (by decide)⟩
    · replace hM := iteF h9 hM
      refine Rn.skip (Rn.seq (Rn.reg (Rn.v rfl rfl rfl rfl (V.mv rfl) (Rn.v rfl rfl rfl rfl (V.mv rfl) (Rn.v rfl rfl rfl rfl (V.mv rfl) ?_)))))
      obtain ⟨p10, e10, hM⟩ := bindE hM
      have hm11 : Hp Z0 (LS [T_limnographref18_Disk.obj F0 b0 x0]) w w7 ([] ++ [T_limnographref18_Disk.obj F2_p0 b0 p2.2]) := hm8.pick [0] rfl (by decide)
      refine Rn.cl ck51 rfl rfl rfl rfl (m_limnographref18_Disk_without_sim (Z0 := _) _ F2_p0 b0 p2.2 x1 hm11.lend e10) ?_
      rintro _ w10 ⟨A10_0_0, c10_0_0, F10_p0, rfl, hq10⟩
      refine ⟨_, rfl, ?_⟩
      have hm14 : Hp Z0 (LS [T_limnographref18_Disk.obj F0 b0 x0]) w w10 [ownR 78 A10_0_0 c10_0_0 T_limnographref18_File.rep p10, T_limnographref18_Disk.obj F10_p0 b0 p2.2] := hm11.callAZ hq10
      refine Rn.v rfl rfl rfl rfl (V.nil rfl) (Rn.v rfl rfl rfl rfl (V.fa Try.underlying74 rfl Try.sizeOf72 rfl rfl) ?_)
      obtain ⟨_, ⟨A15_0, c15_0, rfl⟩, hm15⟩ := hm14.unf 1 rfl
      replace hm15 : Hp Z0 (LS [T_limnographref18_Disk.obj F0 b0 x0]) w w10 [ownR 78 A10_0_0 c10_0_0 T_limnographref18_File.rep p10, boxR b0 74 [.slice A15_0 (p2.2.L).length c15_0, .int .i64 (p2.2.Capacity), .bool (p2.2.Down), .int .i64 (p2.2.Calls), .int .i64 (p2.2.Fail), .int .i64 (p2.2.Crash), .int .i64 (p2.2.Err)], ownR 78 A15_0 c15_0 T_limnographref18_File.rep p2.2.L] := hm15
      refine Rn.st rfl rfl Try.sizeOf72 rfl rfl rfl rfl (by first | exact ones rfl | (simp [Value.oneCell']; done)) (hm15.get 1 rfl) (by first | exact Nat.le_of_ble_eq_true rfl | (simp; done)) ?_
      intro w17 m17 x17
      have hm18 : Hp Z0 (LS [T_limnographref18_Disk.obj F0 b0 x0]) w w17 [ownR 78 A10_0_0 c10_0_0 T_limnographref18_File.rep p10, boxR b0 74 [.slice A10_0_0 (p10).length c10_0_0, .int .i64 (p2.2.Capacity), .bool (p2.2.Down), .int .i64 (p2.2.Calls), .int .i64 (p2.2.Fail), .int .i64 (p2.2.Crash), .int .i64 (p2.2.Err)], ownR 78 A15_0 c15_0 T_limnographref18_File.rep p2.2.L] := hm15.st 1 rfl x17 m17
      refine Rn.regEnd (Rn.seq (Rn.reg (Rn.v rfl rfl rfl rfl (V.as rfl) (Rn.regEnd ?_))))
      have hm20 : Hp Z0 (LS [T_limnographref18_Disk.obj F0 b0 x0]) w w17 ([ownR 78 A15_0 c15_0 T_limnographref18_File.rep p2.2.L] ++ [boxR b0 74 [.slice A10_0_0 (p10).length c10_0_0, .int .i64 (p2.2.Capacity), .bool (p2.2.Down), .int .i64 (p2.2.Calls), .int .i64 (p2.2.Fail), .int .i64 (p2.2.Crash), .int .i64 (p2.2.Err)], ownR 78 A10_0_0 c10_0_0 T_limnographref18_File.rep p10]) := hm18.pick [2, 1, 0] rfl (by decide)
      obtain ⟨F19, hm19⟩ := hm20.fold (T_limnographref18_Disk.sh b0 ({ L := p10, Capacity := p2.2.Capacity, Down := p2.2.Down, Calls := p2.2.Calls, Fail := p2.2.Fail, Crash := p2.2.Crash, Err := p2.2.Err } : T_limnographref18_Disk)) ⟨A10_0_0, c10_0_0, rfl⟩
      replace hm19 : Hp Z0 (LS [T_limnographref18_Disk.obj F0 b0 x0]) w w17 [ownR 78 A15_0 c15_0 T_limnographref18_File.rep p2.2.L, T_limnographref18_Disk.obj F19 b0 ({ L := p10, Capacity := p2.2.Capacity, Down := p2.2.Down, Calls := p2.2.Calls, Fail := p2.2.Fail, Crash := p2.2.Crash, Err := p2.2.Err } : T_limnographref18_Disk)] := hm19
      refine Rn.retG1 Try.func41 rfl (rvT rfl) ?_
      obtain rfl := someE hM
      exact ⟨F19, rfl, hm19.pick [1] rfl (by decide)⟩

set_option maxRecDepth 20000 in
theorem m_limnographref18_Disk_Boot_sim {Z0 : Nat → Prop} (w : World) (F0 : Nat → Prop) (b0 : Nat) (x0 : T_limnographref18_Disk) (A1 : Option Addr) (c1 : Nat) (x1 : (List Int)) {r : (Int × T_limnographref18_Disk)} (hL : Lent Z0 w [T_limnographref18_Disk.obj F0 b0 x0, slR A1 c1 (intR .i64) x1]) (hM : m_limnographref18_Disk_Boot x0 x1 = some r) :
    Calls Try.prog 44 #[.pointer (some ⟨b0, 0, none⟩), .slice A1 (x1).length c1] w fun x w' => ∃ F_p0, x = .returned (.int .i64 (r.1)) ∧ Hp Z0 (LS [T_limnographref18_Disk.obj F0 b0 x0, slR A1 c1 (intR .i64) x1]) w w' [T_limnographref18_Disk.obj F_p0 b0 r.2] := by
  have hm0 := hL.start
  refine Rn.enter Try.func44 rfl rfl (Nat.le_of_ble_eq_true rfl) ?_
  refine Rn.seq (Rn.reg (Rn.v rfl rfl rfl rfl (V.as rfl) (Rn.regEnd (Rn.seq (Rn.seq (Rn.reg (Rn.v rfl rfl rfl rfl (V.mv rfl) (Rn.v rfl rfl rfl rfl (V.nil rfl) (Rn.v rfl rfl rfl rfl (V.fa Try.underlying74 rfl Try.sizeOf4 rfl rfl) ?_)))))))))
  obtain ⟨_, ⟨A3_0, c3_0, rfl⟩, hm3⟩ := hm0.unf 0 rfl
  replace hm3 : Hp Z0 (LS [T_limnographref18_Disk.obj F0 b0 x0, slR A1 c1 (intR .i64) x1]) w w [slR A1 c1 (intR .i64) x1, boxR b0 74 [.slice A3_0 (x0.L).length c3_0, .int .i64 (x0.Capacity), .bool (x0.Down), .int .i64 (x0.Calls), .int .i64 (x0.Fail), .int .i64 (x0.Crash), .int .i64 (x0.Err)], ownR 78 A3_0 c3_0 T_limnographref18_File.rep x0.L] := hm3
  refine Rn.v rfl rfl rfl rfl (V.ldB Try.isAgg4 rfl (hm3.get 1 rfl) rfl) (Rn.v rfl rfl rfl rfl (V.notB rfl) (Rn.regEnd ?_))
  refine Rn.condS rfl (fun h5 => ?_) (fun h5 => ?_)
  · replace hM := iteT h5 hM
    refine Rn.seq (Rn.reg (Rn.v rfl rfl rfl rfl (V.as rfl) (Rn.regEnd ?_)))
    have hm7 : Hp Z0 (LS [T_limnographref18_Disk.obj F0 b0 x0, slR A1 c1 (intR .i64) x1]) w w ([slR A1 c1 (intR .i64) x1] ++ [boxR b0 74 [.slice A3_0 (x0.L).length c3_0, .int .i64 (x0.Capacity), .bool (x0.Down), .int .i64 (x0.Calls), .int .i64 (x0.Fail), .int .i64 (x0.Crash), .int .i64 (x0.Err)], ownR 78 A3_0 c3_0 T_limnographref18_File.rep x0.L]) := hm3.pick [0, 1, 2] rfl (by decide)
    obtain ⟨F6, hm6⟩ := hm7.fold (T_limnographref18_Disk.sh b0 x0) ⟨A3_0, c3_0, rfl⟩
    replace hm6 : Hp Z0 (LS [T_limnographref18_Disk.obj F0 b0 x0, slR A1 c1 (intR .i64) x1]) w w [slR A1 c1 (intR .i64) x1, T_limnographref18_Disk.obj F6 b0 x0] := hm6
    refine Rn.retG1 Try.func44 rfl (rvT rfl) ?_
    obtain rfl := someE hM
    exact ⟨F6, rfl, hm6.pick [1] rfl (by decide)⟩
  · replace hM := iteF (by rw [h5]; exact Bool.false_ne_true) hM
    refine Rn.skip (Rn.seq (Rn.reg (Rn.v rfl rfl rfl rfl (V.mv rfl) (Rn.v rfl rfl rfl rfl (V.nil rfl) (Rn.v rfl rfl rfl rfl (V.fa Try.underlying74 rfl Try.sizeOf4 rfl rfl) (Rn.st rfl rfl Try.sizeOf4 rfl rfl rfl rfl (by first | exact ones rfl | (simp [Value.oneCell']; done)) (hm3.get 1 rfl) (by first | exact Nat.le_of_ble_eq_true rfl | (simp; done)) ?_))))))
    intro w8 m8 x8
    have hm9 : Hp Z0 (LS [T_limnographref18_Disk.obj F0 b0 x0, slR A1 c1 (intR .i64) x1]) w w8 [slR A1 c1 (intR .i64) x1, boxR b0 74 [.slice A3_0 (x0.L).length c3_0, .int .i64 (x0.Capacity), .bool false, .int .i64 (x0.Calls), .int .i64 (x0.Fail), .int .i64 (x0.Crash), .int .i64 (x0.Err)], ownR 78 A3_0 c3_0 T_limnographref18_File.rep x0.L] := hm3.st 1 rfl x8 m8
    refine Rn.regEnd (Rn.seq (Rn.reg (Rn.v rfl rfl rfl rfl (V.mv rfl) (Rn.v rfl rfl rfl rfl (V.nil rfl) (Rn.v rfl rfl rfl rfl (V.fa Try.underlying74 rfl Try.sizeOf3 rfl rfl) (Rn.st rfl rfl Try.sizeOf3 rfl rfl rfl rfl (by first | exact ones rfl | (simp [Value.oneCell']; done)) (hm9.get 1 rfl) (by first | exact Nat.le_of_ble_eq_true rfl | (simp; done)) ?_))))))
    intro w10 m10 x10
    have hm11 : Hp Z0 (LS [T_limnographref18_Disk.obj F0 b0 x0, slR A1 c1 (intR .i64) x1]) w w10 [slR A1 c1 (intR .i64) x1, boxR b0 74 [.slice A3_0 (x0.L).length c3_0, .int .i64 (x0.Capacity), .bool false, .int .i64 (x0.Calls), .int .i64 ((-1)), .int .i64 (x0.Crash), .int .i64 (x0.Err)], ownR 78 A3_0 c3_0 T_limnographref18_File.rep x0.L] := hm9.st 1 rfl x10 m10
    refine Rn.regEnd (Rn.seq (Rn.reg (Rn.v rfl rfl rfl rfl (V.mv rfl) (Rn.v rfl rfl rfl rfl (V.nil rfl) (Rn.v rfl rfl rfl rfl (V.fa Try.underlying74 rfl Try.sizeOf3 rfl rfl) (Rn.st rfl rfl Try.sizeOf3 rfl rfl rfl rfl (by first | exact ones rfl | (simp [Value.oneCell']; done)) (hm11.get 1 rfl) (by first | exact Nat.le_of_ble_eq_true rfl | (simp; done)) ?_))))))
    intro w12 m12 x12
    have hm13 : Hp Z0 (LS [T_limnographref18_Disk.obj F0 b0 x0, slR A1 c1 (intR .i64) x1]) w w12 [slR A1 c1 (intR .i64) x1, boxR b0 74 [.slice A3_0 (x0.L).length c3_0, .int .i64 (x0.Capacity), .bool false, .int .i64 (x0.Calls), .int .i64 ((-1)), .int .i64 ((-1)), .int .i64 (x0.Err)], ownR 78 A3_0 c3_0 T_limnographref18_File.rep x0.L] := hm11.st 1 rfl x12 m12
    refine Rn.regEnd (Rn.seq (Rn.reg (Rn.v rfl rfl rfl rfl (V.as rfl) (Rn.regEnd (Rn.seq (Rn.seq (Rn.reg (Rn.v rfl rfl rfl rfl (V.as rfl) (Rn.regEnd ?_)))))))))
    have hm15 : Hp Z0 (LS [T_limnographref18_Disk.obj F0 b0 x0, slR A1 c1 (intR .i64) x1]) w w12 ([slR A1 c1 (intR .i64) x1] ++ [boxR b0 74 [.slice A3_0 (x0.L).length c3_0, .int .i64 (x0.Capacity), .bool false, .int .i64 (x0.Calls), .int .i64 ((-1)), .int .i64 ((-1)), .int .i64 (x0.Err)], ownR 78 A3_0 c3_0 T_limnographref18_File.rep x0.L]) := hm13.pick [0, 1, 2] rfl (by decide)
    obtain ⟨F14, hm14⟩ := hm15.fold (T_limnographref18_Disk.sh b0 ({ L := x0.L, Capacity := x0.Capacity, Down := false, Calls := x0.Calls, Fail := (-1), Crash := (-1), Err := x0.Err } : T_limnographref18_Disk)) ⟨A3_0, c3_0, rfl⟩
    replace hm14 : Hp Z0 (LS [T_limnographref18_Disk.obj F0 b0 x0, slR A1 c1 (intR .i64) x1]) w w12 [slR A1 c1 (intR .i64) x1, T_limnographref18_Disk.obj F14 b0 ({ L := x0.L, Capacity := x0.Capacity, Down := false, Calls := x0.Calls, Fail := (-1), Crash := (-1), Err := x0.Err } : T_limnographref18_Disk)] := hm14
    obtain ⟨j1, hj1, hM⟩ := jnE hM
    refine Rn.joinG (r := r) (G := (List T_limnographref18_File) × (Nat → Prop) × Option Addr × Nat) (fun g => [(0, .pointer (some ⟨b0, 0, none⟩)), (5, .slice (g.2.2.1) ((g.1)).length (g.2.2.2))]) (fun g w' => Hp Z0 (LS [T_limnographref18_Disk.obj F0 b0 x0, slR A1 c1 (intR .i64) x1]) w w' [slR A1 c1 (intR .i64) x1, T_limnographref18_Disk.obj (g.2.1) b0 ({ L := x0.L, Capacity := x0.Capacity, Down := false, Calls := x0.Calls, Fail := (-1), Crash := (-1), Err := x0.Err } : T_limnographref18_Disk), ownR 78 (g.2.2.1) (g.2.2.2) T_limnographref18_File.rep (g.1)]) (fun g => j1 g.1) ?_ ?_
    · subst hj1
      clear hM
      rintro ⟨y17, F16, A18, c18⟩ w20 hm20 hM
      replace hm20 : Hp Z0 (LS [T_limnographref18_Disk.obj F0 b0 x0, slR A1 c1 (intR .i64) x1]) w w20 [slR A1 c1 (intR .i64) x1, T_limnographref18_Disk.obj F16 b0 ({ L := x0.L, Capacity := x0.Capacity, Down := false, Calls := x0.Calls, Fail := (-1), Crash := (-1), Err := x0.Err } : T_limnographref18_Disk), ownR 78 A18 c18 T_limnographref18_File.rep y17] := hm20
      show Rn _ _ _ _ _ [(0, .pointer (some ⟨b0, 0, none⟩)), (5, .slice A18 (y17).length c18)] _
      try dsimp only at hM
      refine Rn.seq (Rn.reg (Rn.v rfl rfl rfl rfl (V.mv rfl) (Rn.v rfl rfl rfl rfl (V.mv rfl) (Rn.v rfl rfl rfl rfl (V.nil rfl) (Rn.v rfl rfl rfl rfl (V.fa Try.underlying74 rfl Try.sizeOf72 rfl rfl) ?_)))))
      obtain ⟨_, ⟨A21_0, c21_0, rfl⟩, hm21⟩ := hm20.unf 1 rfl
      replace hm21 : Hp Z0 (LS [T_limnographref18_Disk.obj F0 b0 x0, slR A1 c1 (intR .i64) x1]) w w20 [slR A1 c1 (intR .i64) x1, ownR 78 A18 c18 T_limnographref18_File.rep y17, boxR b0 74 [.slice A21_0 (({ L := x0.L, Capacity := x0.Capacity, Down := false, Calls := x0.Calls, Fail := (-1), Crash := (-1), Err := x0.Err } : T_limnographref18_Disk).L).length c21_0, .int .i64 (({ L := x0.L, Capacity := x0.Capacity, Down := false, Calls := x0.Calls, Fail := (-1), Crash := (-1), Err := x0.Err } : T_limnographref18_Disk).Capacity), .bool (({ L := x0.L, Capacity := x0.Capacity, Down := false, Calls := x0.Calls, Fail := (-1), Crash := (-1), Err := x0.Err } : T_limnographref18_Disk).Down), .int .i64 (({ L := x0.L, Capacity := x0.Capacity, Down := false, Calls := x0.Calls, Fail := (-1), Crash := (-1), Err := x0.Err } : T_limnographref18_Disk).Calls), .int .i64 (({ L := x0.L, Capacity := x0.Capacity, Down := false, Calls := x0.Calls, Fail := (-1), Crash := (-1), Err := x0.Err } : T_limnographref18_Disk).Fail), .int .i64 (({ L := x0.L, Capacity := x0.Capacity, Down := false, Calls := x0.Calls, Fail := (-1), Crash := (-1), Err := x0.Err } : T_limnographref18_Disk).Crash), .int .i64 (({ L := x0.L, Capacity := x0.Capacity, Down := false, Calls := x0.Calls, Fail := (-1), Crash := (-1), Err := x0.Err } : T_limnographref18_Disk).Err)], ownR 78 A21_0 c21_0 T_limnographref18_File.rep (({ L := x0.L, Capacity := x0.Capacity, Down := false, Calls := x0.Calls, Fail := (-1), Crash := (-1), Err := x0.Err } : T_limnographref18_Disk).L)] := hm21
      refine Rn.st rfl rfl Try.sizeOf72 rfl rfl rfl rfl (by first | exact ones rfl | (simp [Value.oneCell']; done)) (hm21.get 2 rfl) (by first | exact Nat.le_of_ble_eq_true rfl | (simp; done)) ?_
      intro w23 m23 x23
      have hm24 : Hp Z0 (LS [T_limnographref18_Disk.obj F0 b0 x0, slR A1 c1 (intR .i64) x1]) w w23 [slR A1 c1 (intR .i64) x1, ownR 78 A18 c18 T_limnographref18_File.rep y17, boxR b0 74 [.slice A18 (y17).length c18, .int .i64 (({ L := x0.L, Capacity := x0.Capacity, Down := false, Calls := x0.Calls, Fail := (-1), Crash := (-1), Err := x0.Err } : T_limnographref18_Disk).Capacity), .bool (({ L := x0.L, Capacity := x0.Capacity, Down := false, Calls := x0.Calls, Fail := (-1), Crash := (-1), Err := x0.Err } : T_limnographref18_Disk).Down), .int .i64 (({ L := x0.L, Capacity := x0.Capacity, Down := false, Calls := x0.Calls, Fail := (-1), Crash := (-1), Err := x0.Err } : T_limnographref18_Disk).Calls), .int .i64 (({ L := x0.L, Capacity := x0.Capacity, Down := false, Calls := x0.Calls, Fail := (-1), Crash := (-1), Err := x0.Err } : T_limnographref18_Disk).Fail), .int .i64 (({ L := x0.L, Capacity := x0.Capacity, Down := false, Calls := x0.Calls, Fail := (-1), Crash := (-1), Err := x0.Err } : T_limnographref18_Disk).Crash), .int .i64 (({ L := x0.L, Capacity := x0.Capacity, Down := false, Calls := x0.Calls, Fail := (-1), Crash := (-1), Err := x0.Err } : T_limnographref18_Disk).Err)], ownR 78 A21_0 c21_0 T_limnographref18_File.rep (({ L := x0.L, Capacity := x0.Capacity, Down := false, Calls := x0.Calls, Fail := (-1), Crash := (-1), Err := x0.Err } : T_limnographref18_Disk).L)] := hm21.st 2 rfl x23 m23
      refine Rn.regEnd (Rn.seq (Rn.reg (Rn.v rfl rfl rfl rfl (V.as rfl) (Rn.regEnd ?_))))
      have hm26 : Hp Z0 (LS [T_limnographref18_Disk.obj F0 b0 x0, slR A1 c1 (intR .i64) x1]) w w23 ([slR A1 c1 (intR .i64) x1, ownR 78 A21_0 c21_0 T_limnographref18_File.rep (({ L := x0.L, Capacity := x0.Capacity, Down := false, Calls := x0.Calls, Fail := (-1), Crash := (-1), Err := x0.Err } : T_limnographref18_Disk).L)] ++ [boxR b0 74 [.slice A18 (y17).length c18, .int .i64 (({ L := x0.L, Capacity := x0.Capacity, Down := false, Calls := x0.Calls, Fail := (-1), Crash := (-1), Err := x0.Err } : T_limnographref18_Disk).Capacity), .bool (({ L := x0.L, Capacity := x0.Capacity, Down := false, Calls := x0.Calls, Fail := (-1), Crash := (-1), Err := x0.Err } : T_limnographref18_Disk).Down), .int .i64 (({ L := x0.L, Capacity := x0.Capacity, Down := false, Calls := x0.Calls, Fail := (-1), Crash := (-1), Err := x0.Err } : T_limnographref18_Disk).Calls), .int .i64 (({ L := x0.L, Capacity := x0.Capacity, Down := false, Calls := x0.Calls, Fail := (-1), Crash := (-1), Err := x0.Err } : T_limnographref18_Disk).Fail), .int .i64 (({ L := x0.L, Capacity := x0.Capacity, Down := false, Calls := x0.Calls, Fail := (-1), Crash := (-1), Err := x0.Err } : T_limnographref18_Disk).Crash), .int .i64 (({ L := x0.L, Capacity := x0.Capacity, Down := false, Calls := x0.Calls, Fail := (-1), Crash := (-1), Err := x0.Err } : T_limnographref18_Disk).Err)], ownR 78 A18 c18 T_limnographref18_File.rep y17]) := hm24.pick [0, 3, 2, 1] rfl (by decide)
      obtain ⟨F25, hm25⟩ := hm26.fold (T_limnographref18_Disk.sh b0 ({ L := y17, Capacity := ({ L := x0.L, Capacity := x0.Capacity, Down := false, Calls := x0.Calls, Fail := (-1), Crash := (-1), Err := x0.Err } : T_limnographref18_Disk).Capacity, Down := ({ L := x0.L, Capacity := x0.Capacity, Down := false, Calls := x0.Calls, Fail := (-1), Crash := (-1), Err := x0.Err } : T_limnographref18_Disk).Down, Calls := ({ L := x0.L, Capacity := x0.Capacity, Down := false, Calls := x0.Calls, Fail := (-1), Crash := (-1), Err := x0.Err } : T_limnographref18_Disk).Calls, Fail := ({ L := x0.L, Capacity := x0.Capacity, Down := false, Calls := x0.Calls, Fail := (-1), Crash := (-1), Err := x0.Err } : T_limnographref18_Disk).Fail, Crash := ({ L := x0.L, Capacity := x0.Capacity, Down := false, Calls := x0.Calls, Fail := (-1), Crash := (-1), Err := x0.Err } : T_limnographref18_Disk).Crash, Err := ({ L := x0.L, Capacity := x0.Capacity, Down := false, Calls := x0.Calls, Fail := (-1), Crash := (-1), Err := x0.Err } : T_limnographref18_Disk).Err } : T_limnographref18_Disk)) ⟨A18, c18, rfl⟩
      replace hm25 : Hp Z0 (LS [T_limnographref18_Disk.obj F0 b0 x0, slR A1 c1 (intR .i64) x1]) w w23 [slR A1 c1 (intR .i64) x1, ownR 78 A21_0 c21_0 T_limnographref18_File.rep (({ L := x0.L, Capacity := x0.Capacity, Down := false, Calls := x0.Calls, Fail := (-1), Crash := (-1), Err := x0.Err } : T_limnographref18_Disk).L), T_limnographref18_Disk.obj F25 b0 ({ L := y17, Capacity := ({ L := x0.L, Capacity := x0.Capacity, Down := false, Calls := x0.Calls, Fail := (-1), Crash := (-1), Err := x0.Err } : T_limnographref18_Disk).Capacity, Down := ({ L := x0.L, Capacity := x0.Capacity, Down := false, Calls := x0.Calls, Fail := (-1), Crash := (-1), Err := x0.Err } : T_limnographref18_Disk).Down, Calls := ({ L := x0.L, Capacity := x0.Capacity, Down := false, Calls := x0.Calls, Fail := (-1), Crash := (-1), Err := x0.Err } : T_limnographref18_Disk).Calls, Fail := ({ L := x0.L, Capacity := x0.Capacity, Down := false, Calls := x0.Calls, Fail := (-1), Crash := (-1), Err := x0.Err } : T_limnographref18_Disk).Fail, Crash := ({ L := x0.L, Capacity := x0.Capacity, Down := false, Calls := x0.Calls, Fail := (-1), Crash := (-1), Err := x0.Err } : T_limnographref18_Disk).Crash, Err := ({ L := x0.L, Capacity := x0.Capacity, Down := false, Calls := x0.Calls, Fail := (-1), Crash := (-1), Err := x0.Err } : T_limnographref18_Disk).Err } : T_limnographref18_Disk)] := hm25
      refine Rn.retG1 Try.func44 rfl (rvT rfl) ?_
      obtain rfl := someE hM
      exact ⟨F25, rfl, hm25.pick [2] rfl (by decide)⟩
    intro hk1
    clear hj1
    refine Rn.block ?_
    have hm32 := hm14.addNil 78 T_limnographref18_File.rep
    refine Rn.loopF (G := (List T_limnographref18_File) × Int × (Nat → Prop) × Option Addr × Nat) (fun g => [(0, .pointer (some ⟨b0, 0, none⟩)), (1, .slice A1 (x1).length c1), (5, .slice (g.2.2.2.1) ((g.1)).length (g.2.2.2.2)), (6, .int .i64 ((g.2.1)))]) (fun g w' => Hp Z0 (LS [T_limnographref18_Disk.obj F0 b0 x0, slR A1 c1 (intR .i64) x1]) w w' [slR A1 c1 (intR .i64) x1, T_limnographref18_Disk.obj (g.2.2.1) b0 ({ L := x0.L, Capacity := x0.Capacity, Down := false, Calls := x0.Calls, Fail := (-1), Crash := (-1), Err := x0.Err } : T_limnographref18_Disk), ownR 78 (g.2.2.2.1) (g.2.2.2.2) T_limnographref18_File.rep (g.1)]) (fun n g => m_limnographref18_Disk_Boot_L1 x0 x1 j1 n g.1 g.2.1) fuel (([] : List T_limnographref18_File), 0, F14, none, 0) (Sub.cons rfl (Sub.cons rfl (Sub.cons rfl (Sub.cons rfl (Sub.nil _))))) (hm32.pick [0, 1, 2] rfl (by decide)) hM (fun _ => rfl) ?_
    clear hM
    rintro m34 ⟨y28, y31, F27, A29, c29⟩ w34 hm34 hM hn34
    replace hm34 : Hp Z0 (LS [T_limnographref18_Disk.obj F0 b0 x0, slR A1 c1 (intR .i64) x1]) w w34 [slR A1 c1 (intR .i64) x1, T_limnographref18_Disk.obj F27 b0 ({ L := x0.L, Capacity := x0.Capacity, Down := false, Calls := x0.Calls, Fail := (-1), Crash := (-1), Err := x0.Err } : T_limnographref18_Disk), ownR 78 A29 c29 T_limnographref18_File.rep y28] := hm34
    show Rn _ _ _ _ _ [(0, .pointer (some ⟨b0, 0, none⟩)), (1, .slice A1 (x1).length c1), (5, .slice A29 (y28).length c29), (6, .int .i64 (y31))] _
    replace hM : m_limnographref18_Disk_Boot_L1 x0 x1 j1 (m34 + 1) y28 y31 = some r := hM
    rw [m_limnographref18_Disk_Boot_L1] at hM
    refine Rn.seq (Rn.seq (Rn.reg (Rn.v rfl rfl rfl rfl (V.mv rfl) (Rn.v rfl rfl rfl rfl (V.mv rfl) (Rn.v rfl rfl rfl rfl (V.nil rfl) (Rn.v rfl rfl rfl rfl (V.fa Try.underlying74 rfl Try.sizeOf72 rfl rfl) ?_))))))
    obtain ⟨_, ⟨A35_0, c35_0, rfl⟩, hm35⟩ := hm34.unf 1 rfl
    replace hm35 : Hp Z0 (LS [T_limnographref18_Disk.obj F0 b0 x0, slR A1 c1 (intR .i64) x1]) w w34 [slR A1 c1 (intR .i64) x1, ownR 78 A29 c29 T_limnographref18_File.rep y28, boxR b0 74 [.slice A35_0 (({ L := x0.L, Capacity := x0.Capacity, Down := false, Calls := x0.Calls, Fail := (-1), Crash := (-1), Err := x0.Err } : T_limnographref18_Disk).L).length c35_0, .int .i64 (({ L := x0.L, Capacity := x0.Capacity, Down := false, Calls := x0.Calls, Fail := (-1), Crash := (-1), Err := x0.Err } : T_limnographref18_Disk).Capacity), .bool (({ L := x0.L, Capacity := x0.Capacity, Down := false, Calls := x0.Calls, Fail := (-1), Crash := (-1), Err := x0.Err } : T_limnographref18_Disk).Down), .int .i64 (({ L := x0.L, Capacity := x0.Capacity, Down := false, Calls := x0.Calls, Fail := (-1), Crash := (-1), Err := x0.Err } : T_limnographref18_Disk).Calls), .int .i64 (({ L := x0.L, Capacity := x0.Capacity, Down := false, Calls := x0.Calls, Fail := (-1), Crash := (-1), Err := x0.Err } : T_limnographref18_Disk).Fail), .int .i64 (({ L := x0.L, Capacity := x0.Capacity, Down := false, Calls := x0.Calls, Fail := (-1), Crash := (-1), Err := x0.Err } : T_limnographref18_Disk).Crash), .int .i64 (({ L := x0.L, Capacity := x0.Capacity, Down := false, Calls := x0.Calls, Fail := (-1), Crash := (-1), Err := x0.Err } : T_limnographref18_Disk).Err)], ownR 78 A35_0 c35_0 T_limnographref18_File.rep (({ L := x0.L, Capacity := x0.Capacity, Down := false, Calls := x0.Calls, Fail := (-1), Crash := (-1), Err := x0.Err } : T_limnographref18_Disk).L)] := hm35
    refine Rn.v rfl rfl rfl rfl (V.ldB Try.isAgg72 rfl (hm35.get 2 rfl) rfl) (Rn.v rfl rfl rfl rfl (V.lenV Try.underlying72 rfl) (Rn.v rfl rfl rfl rfl (V.lss rfl rfl) (Rn.regEnd ?_)))
    refine Rn.condD rfl (fun h37 => ?_) (fun h37 => ?_)
    · replace hM := iteT h37 hM
      refine Rn.skip (Rn.seq (Rn.block (Rn.seq (Rn.reg (Rn.v rfl rfl rfl rfl (V.mv rfl) (Rn.v rfl rfl rfl rfl (V.nil rfl) (Rn.v rfl rfl rfl rfl (V.fa Try.underlying74 rfl Try.sizeOf72 rfl rfl) (Rn.v rfl rfl rfl rfl (V.ldB Try.isAgg72 rfl (hm35.get 2 rfl) rfl) (Rn.v rfl rfl rfl rfl (V.mv rfl) ?_)))))))))
      obtain ⟨z38, e38, hM⟩ := bindE hM
      obtain ⟨kk38, ke38, kz38, kl38⟩ := idxE e38
      obtain ⟨g38, vs38, hA38, hR38, hrel38⟩ := hm35.ownAt 3 rfl kz38
      subst hA38
      obtain ⟨_, _, rfl, ⟨rfl, _⟩, ⟨_, _, rfl, ⟨A39, c39, rfl, p39, q39, s39⟩, ⟨rfl, _⟩⟩⟩ := hrel38
      have hm41 : Hp Z0 (LS [T_limnographref18_Disk.obj F0 b0 x0, slR A1 c1 (intR .i64) x1]) w w34 [slR A1 c1 (intR .i64) x1, ownR 78 A29 c29 T_limnographref18_File.rep y28, boxR b0 74 [.slice (some ⟨g38, 0, none⟩) (({ L := x0.L, Capacity := x0.Capacity, Down := false, Calls := x0.Calls, Fail := (-1), Crash := (-1), Err := x0.Err } : T_limnographref18_Disk).L).length c35_0, .int .i64 (({ L := x0.L, Capacity := x0.Capacity, Down := false, Calls := x0.Calls, Fail := (-1), Crash := (-1), Err := x0.Err } : T_limnographref18_Disk).Capacity), .bool (({ L := x0.L, Capacity := x0.Capacity, Down := false, Calls := x0.Calls, Fail := (-1), Crash := (-1), Err := x0.Err } : T_limnographref18_Disk).Down), .int .i64 (({ L := x0.L, Capacity := x0.Capacity, Down := false, Calls := x0.Calls, Fail := (-1), Crash := (-1), Err := x0.Err } : T_limnographref18_Disk).Calls), .int .i64 (({ L := x0.L, Capacity := x0.Capacity, Down := false, Calls := x0.Calls, Fail := (-1), Crash := (-1), Err := x0.Err } : T_limnographref18_Disk).Fail), .int .i64 (({ L := x0.L, Capacity := x0.Capacity, Down := false, Calls := x0.Calls, Fail := (-1), Crash := (-1), Err := x0.Err } : T_limnographref18_Disk).Crash), .int .i64 (({ L := x0.L, Capacity := x0.Capacity, Down := false, Calls := x0.Calls, Fail := (-1), Crash := (-1), Err := x0.Err } : T_limnographref18_Disk).Err)], ownR 78 (some ⟨g38, 0, none⟩) c35_0 T_limnographref18_File.rep (({ L := x0.L, Capacity := x0.Capacity, Down := false, Calls := x0.Calls, Fail := (-1), Crash := (-1), Err := x0.Err } : T_limnographref18_Disk).L), slR A39 c39 byteR z38.Data] := Hp.knowL [slR A39 c39 byteR z38.Data] _ hm35 (knC (fun _ h => h) ⟨p39, q39, s39⟩ kn0)
      refine Rn.v rfl rfl rfl rfl (V.ixE kk38 Try.underlying72 Try.sizeOf78 rfl rfl ke38 kl38) (Rn.v rfl rfl rfl rfl (V.ldA Try.isAgg78 Try.sizeOf78 rfl (Rd.pre hR38 3) rfl) (Rn.als rfl rfl rfl Try.zeroValue78 rfl Try.sizeOf78 rfl rfl rfl rfl (by first | exact ones rfl | (simp [Value.oneCell']; done)) ?_))
      intro b42 w42 hb42 m42 e42
      have hm44 : Hp Z0 (LS [T_limnographref18_Disk.obj F0 b0 x0, slR A1 c1 (intR .i64) x1]) w w42 [slR A1 c1 (intR .i64) x1, ownR 78 A29 c29 T_limnographref18_File.rep y28, boxR b0 74 [.slice (some ⟨g38, 0, none⟩) (({ L := x0.L, Capacity := x0.Capacity, Down := false, Calls := x0.Calls, Fail := (-1), Crash := (-1), Err := x0.Err } : T_limnographref18_Disk).L).length c35_0, .int .i64 (({ L := x0.L, Capacity := x0.Capacity, Down := false, Calls := x0.Calls, Fail := (-1), Crash := (-1), Err := x0.Err } : T_limnographref18_Disk).Capacity), .bool (({ L := x0.L, Capacity := x0.Capacity, Down := false, Calls := x0.Calls, Fail := (-1), Crash := (-1), Err := x0.Err } : T_limnographref18_Disk).Down), .int .i64 (({ L := x0.L, Capacity := x0.Capacity, Down := false, Calls := x0.Calls, Fail := (-1), Crash := (-1), Err := x0.Err } : T_limnographref18_Disk).Calls), .int .i64 (({ L := x0.L, Capacity := x0.Capacity, Down := false, Calls := x0.Calls, Fail := (-1), Crash := (-1), Err := x0.Err } : T_limnographref18_Disk).Fail), .int .i64 (({ L := x0.L, Capacity := x0.Capacity, Down := false, Calls := x0.Calls, Fail := (-1), Crash := (-1), Err := x0.Err } : T_limnographref18_Disk).Crash), .int .i64 (({ L := x0.L, Capacity := x0.Capacity, Down := false, Calls := x0.Calls, Fail := (-1), Crash := (-1), Err := x0.Err } : T_limnographref18_Disk).Err)], ownR 78 (some ⟨g38, 0, none⟩) c35_0 T_limnographref18_File.rep (({ L := x0.L, Capacity := x0.Capacity, Down := false, Calls := x0.Calls, Fail := (-1), Crash := (-1), Err := x0.Err } : T_limnographref18_Disk).L), slR A39 c39 byteR z38.Data, boxR b42 78 [Str (z38.Name), .slice A39 (z38.Data).length c39, .int .i64 (z38.Sure)]] := hm41.addBox hb42 e42 m42
      refine Rn.regEnd (Rn.seq (Rn.reg (Rn.v rfl rfl rfl rfl (V.fa Try.underlying78 rfl Try.sizeOf3 rfl rfl) (Rn.v rfl rfl rfl rfl (V.ldB Try.isAgg3 rfl (hm44.get 5 rfl) rfl) (Rn.v rfl rfl rfl rfl (V.as rfl) (Rn.regEnd (Rn.seq (Rn.seq (Rn.reg (Rn.v rfl rfl rfl rfl (V.mv rfl) (Rn.v rfl rfl rfl rfl (V.mv rfl) (Rn.v rfl rfl rfl rfl (V.lenV Try.underlying36 rfl) (Rn.v rfl rfl rfl rfl (V.lss rfl rfl) (Rn.v rfl rfl rfl rfl (V.mv rfl) ?_))))))))))))))
      have hm46 : Hp Z0 (LS [T_limnographref18_Disk.obj F0 b0 x0, slR A1 c1 (intR .i64) x1]) w w42 ([slR A1 c1 (intR .i64) x1, ownR 78 A29 c29 T_limnographref18_File.rep y28, slR A39 c39 byteR z38.Data, boxR b42 78 [Str (z38.Name), .slice A39 (z38.Data).length c39, .int .i64 (z38.Sure)]] ++ [boxR b0 74 [.slice (some ⟨g38, 0, none⟩) (({ L := x0.L, Capacity := x0.Capacity, Down := false, Calls := x0.Calls, Fail := (-1), Crash := (-1), Err := x0.Err } : T_limnographref18_Disk).L).length c35_0, .int .i64 (({ L := x0.L, Capacity := x0.Capacity, Down := false, Calls := x0.Calls, Fail := (-1), Crash := (-1), Err := x0.Err } : T_limnographref18_Disk).Capacity), .bool (({ L := x0.L, Capacity := x0.Capacity, Down := false, Calls := x0.Calls, Fail := (-1), Crash := (-1), Err := x0.Err } : T_limnographref18_Disk).Down), .int .i64 (({ L := x0.L, Capacity := x0.Capacity, Down := false, Calls := x0.Calls, Fail := (-1), Crash := (-1), Err := x0.Err } : T_limnographref18_Disk).Calls), .int .i64 (({ L := x0.L, Capacity := x0.Capacity, Down := false, Calls := x0.Calls, Fail := (-1), Crash := (-1), Err := x0.Err } : T_limnographref18_Disk).Fail), .int .i64 (({ L := x0.L, Capacity := x0.Capacity, Down := false, Calls := x0.Calls, Fail := (-1), Crash := (-1), Err := x0.Err } : T_limnographref18_Disk).Crash), .int .i64 (({ L := x0.L, Capacity := x0.Capacity, Down := false, Calls := x0.Calls, Fail := (-1), Crash := (-1), Err := x0.Err } : T_limnographref18_Disk).Err)], ownR 78 (some ⟨g38, 0, none⟩) c35_0 T_limnographref18_File.rep (({ L := x0.L, Capacity := x0.Capacity, Down := false, Calls := x0.Calls, Fail := (-1), Crash := (-1), Err := x0.Err } : T_limnographref18_Disk).L)]) := hm44.pick [0, 1, 4, 5, 2, 3] rfl (by decide)
      obtain ⟨F45, hm45⟩ := hm46.fold (T_limnographref18_Disk.sh b0 ({ L := x0.L, Capacity := x0.Capacity, Down := false, Calls := x0.Calls, Fail := (-1), Crash := (-1), Err := x0.Err } : T_limnographref18_Disk)) ⟨(some ⟨g38, 0, none⟩), c35_0, rfl⟩
      replace hm45 : Hp Z0 (LS [T_limnographref18_Disk.obj F0 b0 x0, slR A1 c1 (intR .i64) x1]) w w42 [slR A1 c1 (intR .i64) x1, ownR 78 A29 c29 T_limnographref18_File.rep y28, slR A39 c39 byteR z38.Data, boxR b42 78 [Str (z38.Name), .slice A39 (z38.Data).length c39, .int .i64 (z38.Sure)], T_limnographref18_Disk.obj F45 b0 ({ L := x0.L, Capacity := x0.Capacity, Down := false, Calls := x0.Calls, Fail := (-1), Crash := (-1), Err := x0.Err } : T_limnographref18_Disk)] := hm45
      obtain ⟨j2, hj2, hM⟩ := jnE hM
      refine Rn.joinR (r := r) (G := Bool × (Nat → Prop)) [] (fun g => [(0, .pointer (some ⟨b0, 0, none⟩)), (1, .slice A1 (x1).length c1), (5, .slice A29 (y28).length c29), (6, .int .i64 (y31)), (7, .pointer (some ⟨b42, 0, none⟩)), (8, .int .i64 (z38.Sure)), (51, .bool ((g.1)))]) (fun g w' => Hp Z0 (LS [T_limnographref18_Disk.obj F0 b0 x0, slR A1 c1 (intR .i64) x1]) w w' [slR A1 c1 (intR .i64) x1, ownR 78 A29 c29 T_limnographref18_File.rep y28, slR A39 c39 byteR z38.Data, boxR b42 78 [Str (z38.Name), .slice A39 (z38.Data).length c39, .int .i64 (z38.Sure)], T_limnographref18_Disk.obj (g.2) b0 ({ L := x0.L, Capacity := x0.Capacity, Down := false, Calls := x0.Calls, Fail := (-1), Crash := (-1), Err := x0.Err } : T_limnographref18_Disk)]) (fun g => j2 g.1) ?_ ?_
      · subst hj2
        clear hM
        rintro ⟨y48, F47⟩ w49 hm49 hM
        replace hm49 : Hp Z0 (LS [T_limnographref18_Disk.obj F0 b0 x0, slR A1 c1 (intR .i64) x1]) w w49 [slR A1 c1 (intR .i64) x1, ownR 78 A29 c29 T_limnographref18_File.rep y28, slR A39 c39 byteR z38.Data, boxR b42 78 [Str (z38.Name), .slice A39 (z38.Data).length c39, .int .i64 (z38.Sure)], T_limnographref18_Disk.obj F47 b0 ({ L := x0.L, Capacity := x0.Capacity, Down := false, Calls := x0.Calls, Fail := (-1), Crash := (-1), Err := x0.Err } : T_limnographref18_Disk)] := hm49
        show Rn _ _ _ _ _ [(0, .pointer (some ⟨b0, 0, none⟩)), (1, .slice A1 (x1).length c1), (5, .slice A29 (y28).length c29), (6, .int .i64 (y31)), (7, .pointer (some ⟨b42, 0, none⟩)), (8, .int .i64 (z38.Sure)), (51, .bool (y48))] _
        try dsimp only at hM
        refine Rn.regEnd ?_
        obtain ⟨j3, hj3, hM⟩ := jnE hM
        refine Rn.joinG (r := r) (G := Int × (Nat → Prop)) (fun g => [(0, .pointer (some ⟨b0, 0, none⟩)), (1, .slice A1 (x1).length c1), (5, .slice A29 (y28).length c29), (6, .int .i64 (y31)), (7, .pointer (some ⟨b42, 0, none⟩)), (8, .int .i64 ((g.1)))]) (fun g w' => Hp Z0 (LS [T_limnographref18_Disk.obj F0 b0 x0, slR A1 c1 (intR .i64) x1]) w w' [slR A1 c1 (intR .i64) x1, ownR 78 A29 c29 T_limnographref18_File.rep y28, slR A39 c39 byteR z38.Data, boxR b42 78 [Str (z38.Name), .slice A39 (z38.Data).length c39, .int .i64 (z38.Sure)], T_limnographref18_Disk.obj (g.2) b0 ({ L := x0.L, Capacity := x0.Capacity, Down := false, Calls := x0.Calls, Fail := (-1), Crash := (-1), Err := x0.Err } : T_limnographref18_Disk)]) (fun g => j3 g.1) ?_ ?_
        · subst hj3
          clear hM
          rintro ⟨y51, F50⟩ w52 hm52 hM
          replace hm52 : Hp Z0 (LS [T_limnographref18_Disk.obj F0 b0 x0, slR A1 c1 (intR .i64) x1]) w w52 [slR A1 c1 (intR .i64) x1, ownR 78 A29 c29 T_limnographref18_File.rep y28, slR A39 c39 byteR z38.Data, boxR b42 78 [Str (z38.Name), .slice A39 (z38.Data).length c39, .int .i64 (z38.Sure)], T_limnographref18_Disk.obj F50 b0 ({ L := x0.L, Capacity := x0.Capacity, Down := false, Calls := x0.Calls, Fail := (-1), Crash := (-1), Err := x0.Err } : T_limnographref18_Disk)] := hm52
          show Rn _ _ _ _ _ [(0, .pointer (some ⟨b0, 0, none⟩)), (1, .slice A1 (x1).length c1), (5, .slice A29 (y28).length c29), (6, .int .i64 (y31)), (7, .pointer (some ⟨b42, 0, none⟩)), (8, .int .i64 (y51))] _
          try dsimp only at hM
          refine Rn.drawK 10 rfl hm52 (by kernel_rfl) ?_
          intro w53 hm53
          refine RH.take 0 (by kernel_rfl) rfl rfl rfl rfl (fun w' hDr => V.mv rfl) ?_
          refine RH.take 1 (by kernel_rfl) rfl rfl rfl rfl (fun w' hDr => V.fa Try.underlying78 rfl Try.sizeOf9 rfl rfl) ?_
          refine RH.take 2 (by kernel_rfl) rfl rfl rfl rfl (fun w' hDr => V.ldB Try.isAgg9 rfl ((hm53.ext hDr).get 3 rfl) rfl) ?_
          refine RH.take 3 (by kernel_rfl) rfl rfl rfl rfl (fun w' hDr => V.fa Try.underlying78 rfl Try.sizeOf24 rfl rfl) ?_
          refine RH.take 4 (by kernel_rfl) rfl rfl rfl rfl (fun w' hDr => V.ldB Try.isAgg24 rfl ((hm53.ext hDr).get 3 rfl) rfl) ?_
          refine RH.take 5 (by kernel_rfl) rfl rfl rfl rfl (fun w' hDr => V.mv rfl) ?_
          obtain ⟨z54, e54, hM⟩ := bindE hM
          refine RH.cutH 6 (by kernel_rfl) hm53 2 rfl e54 rfl rfl rfl Try.underlying24 Try.sizeOf5 rfl rfl rfl rfl rfl ?_
          intro A54 c54 hm54
          refine RH.here fun hS7 => RH.one 7 (by kernel_rfl) rfl rfl rfl rfl (V.mv rfl) hS7 ?_
          refine RH.here fun hS8 => RH.one 8 (by kernel_rfl) rfl rfl rfl rfl (V.bldS st78 rfl rfl) hS8 ?_
          refine RH.bslS 9 (by kernel_rfl) rfl rfl rfl Try.underlying72 el78 rfl rfl rfl rfl (by first | exact szs rfl | (simp [Value.cells]; done)) (by decide) ?_
          intro b56 w56 hb56 m56 e56
          have hm57 := hm54.addLitZ (rep := T_limnographref18_File.rep) (xs := ([({ Name := z38.Name, Data := z54, Sure := y51 } : T_limnographref18_File)] : List T_limnographref18_File)) (vss := [[Str (z38.Name), .slice A54 (z54).length c54, .int .i64 (y51)]]) hb56 e56 m56 rfl rfl rfl ((relz_cons (show T_limnographref18_File.rep.rel _ _ _ _ from ⟨_, _, rfl, ⟨rfl, trivial⟩, ⟨_, _, rfl, ⟨_, _, rfl, (hm54.get 5 rfl).1, (hm54.get 5 rfl).2.1, (hm54.get 5 rfl).2.2⟩, ⟨rfl, trivial⟩⟩⟩) relz0))
          refine ⟨((Ext.refl _).trans e56), ?_⟩
          refine RG.tailK (by kernel_rfl) ?_
          obtain ⟨z59, e59, hM⟩ := bindE hM
          refine RH.appH 10 (by kernel_rfl) hm57 1 rfl e59 rfl rfl rfl Try.underlying72 el78 rfl rfl rfl rfl (hm57.srcO 6 rfl) ?_
          intro A59 c59 w59 hm59
          refine ⟨trivial, ?_⟩
          refine RH.here fun hS11 => RH.one 11 (by kernel_rfl) rfl rfl rfl rfl (V.as rfl) hS11 ?_
          refine RH.doneP (by kernel_rfl) ?_
          refine Rn.inBlock (Rn.reg (Rn.v rfl rfl rfl rfl (V.mv rfl) (Rn.v rfl rfl rfl rfl (V.addW rfl rfl) (Rn.v rfl rfl rfl rfl (V.as rfl) (Rn.regEnd ?_)))))
          exact hn34 (z59, (W64 (y31 + 1)), F50, A59, c59) _ _ (Sub.cons rfl (Sub.cons rfl (Sub.cons rfl (Sub.cons rfl (Sub.nil _))))) (hm59.pick [0, 4, 1] rfl (by decide)) hM
        intro hk3
        clear hj3
        refine Rn.condS rfl (fun h61 => ?_) (fun h61 => ?_)
        · replace hM := iteT h61 hM
          refine Rn.seq ?_
          refine Rn.drawP rfl hm49 ?_
          intro w62 hm62
          refine RH.takeP 0 (by kernel_rfl) rfl rfl rfl rfl (V.mv rfl) ?_
          refine RH.takeP 1 (by kernel_rfl) rfl rfl rfl rfl (V.mv rfl) ?_
          obtain ⟨z63, e63, hM⟩ := bindE hM
          obtain ⟨kk63, ke63, kz63, kl63⟩ := idxE e63
          obtain ⟨b63, o63, vs63, hA63, hD63, hR63, hrel63⟩ := Hp.at hm62 0 rfl kz63
          obtain ⟨rfl, _⟩ := hrel63
          have hm65 : Hp Z0 (LS [T_limnographref18_Disk.obj F0 b0 x0, slR A1 c1 (intR .i64) x1]) w w62 [slR A1 c1 (intR .i64) x1, ownR 78 A29 c29 T_limnographref18_File.rep y28, slR A39 c39 byteR z38.Data, boxR b42 78 [Str (z38.Name), .slice A39 (z38.Data).length c39, .int .i64 (z38.Sure)], T_limnographref18_Disk.obj F47 b0 ({ L := x0.L, Capacity := x0.Capacity, Down := false, Calls := x0.Calls, Fail := (-1), Crash := (-1), Err := x0.Err } : T_limnographref18_Disk), rdR b63 (o63 + kk63 * 1) [.int .i64 (z63)]] := Hp.knowL [rdR b63 (o63 + kk63 * 1) [.int .i64 (z63)]] _ hm62 (knC (fun _ h => h) ⟨fun _ => hD63, hR63⟩ kn0)
          refine RH.takeP 2 (by kernel_rfl) rfl rfl rfl rfl (V.ixA' hA63 kk63 Try.underlying36 Try.sizeOf3 rfl rfl ke63 kl63) ?_
          refine RH.takeP 3 (by kernel_rfl) rfl rfl rfl rfl (V.ldR0 Try.isAgg3 rfl (hm65.get 5 rfl).2 rfl) ?_
          refine RH.takeP 4 (by kernel_rfl) rfl rfl rfl rfl (V.fa Try.underlying78 rfl Try.sizeOf24 rfl rfl) ?_
          refine RH.takeP 5 (by kernel_rfl) rfl rfl rfl rfl (V.ldB Try.isAgg24 rfl (hm65.get 3 rfl) rfl) ?_
          refine RH.takeP 6 (by kernel_rfl) rfl rfl rfl rfl (V.lenV Try.underlying24 rfl) ?_
          refine RH.takeP 7 (by kernel_rfl) rfl rfl rfl rfl (V.mv rfl) ?_
          refine RH.takeP 8 (by kernel_rfl) rfl rfl rfl rfl (V.subW rfl rfl) ?_
          refine RH.takeP 9 (by kernel_rfl) rfl rfl rfl rfl (V.gtr rfl rfl) ?_
          refine RH.doneP (by kernel_rfl) ?_
          refine Rn.condD rfl (fun h66 => ?_) (fun h66 => ?_)
          · replace hM := iteT h66 hM
            refine Rn.reg (Rn.v rfl rfl rfl rfl (V.fa Try.underlying78 rfl Try.sizeOf24 rfl rfl) (Rn.v rfl rfl rfl rfl (V.ldB Try.isAgg24 rfl (hm65.get 3 rfl) rfl) (Rn.v rfl rfl rfl rfl (V.lenV Try.underlying24 rfl) (Rn.v rfl rfl rfl rfl (V.as rfl) (Rn.regEnd ?_)))))
            exact hk3 ((z38.Data.length : Int), F47) _ _ (Sub.cons rfl (Sub.cons rfl (Sub.cons rfl (Sub.cons rfl (Sub.cons rfl (Sub.cons rfl (Sub.nil _))))))) (hm65.pick [0, 1, 2, 3, 4] rfl (by decide)) hM
          · replace hM := iteF h66 hM
            refine Rn.reg (Rn.v rfl rfl rfl rfl (V.mv rfl) (Rn.v rfl rfl rfl rfl (V.mv rfl) (Rn.v rfl rfl rfl rfl (V.mv rfl) ?_)))
            obtain ⟨z67, e67, hM⟩ := bindE hM
            refine Rn.ixH hm65 0 rfl e67 rfl rfl rfl Try.underlying36 Try.sizeOf3 rfl rfl rfl rfl ?_
            rintro b67 o67 vs67 ⟨rfl, _⟩ hm67
            refine Rn.v rfl rfl rfl rfl (V.ldR0 Try.isAgg3 rfl (hm67.get 6 rfl).2 rfl) (Rn.v rfl rfl rfl rfl (V.addW rfl rfl) (Rn.v rfl rfl rfl rfl (V.as rfl) (Rn.regEnd ?_)))
            exact hk3 ((W64 (z38.Sure + z67)), F47) _ _ (Sub.cons rfl (Sub.cons rfl (Sub.cons rfl (Sub.cons rfl (Sub.cons rfl (Sub.cons rfl (Sub.nil _))))))) (hm67.pick [0, 1, 2, 3, 4] rfl (by decide)) hM
        · replace hM := iteF (by rw [h61]; exact Bool.false_ne_true) hM
          refine Rn.skip ?_
          exact hk3 (z38.Sure, F47) _ _ (Sub.cons rfl (Sub.cons rfl (Sub.cons rfl (Sub.cons rfl (Sub.cons rfl (Sub.cons rfl (Sub.nil _))))))) (hm49.pick [0, 1, 2, 3, 4] rfl (by decide)) hM
      intro hk2
      clear hj2
      refine Rn.partD (t := 45) rfl (fun h69 => ?_) (fun h69 => ?_)
      · replace hM := iteT h69 hM
        refine Rn.v rfl rfl rfl rfl (V.mv rfl) (Rn.v rfl rfl rfl rfl (V.mv rfl) ?_)
        obtain ⟨z70, e70, hM⟩ := bindE hM
        refine Rn.ixH hm45 0 rfl e70 rfl rfl rfl Try.underlying36 Try.sizeOf3 rfl rfl rfl rfl ?_
        rintro b70 o70 vs70 ⟨rfl, _⟩ hm70
        refine Rn.v rfl rfl rfl rfl (V.ldR0 Try.isAgg3 rfl (hm70.get 5 rfl).2 rfl) (Rn.v rfl rfl rfl rfl (V.gtr rfl rfl) (Rn.v rfl rfl rfl rfl (V.pkT rfl rfl) ?_))
        exact hk2 ((decide (z70 > 0)), F45) _ _ (Sub.cons rfl (Sub.cons rfl (Sub.cons rfl (Sub.cons rfl (Sub.cons rfl (Sub.cons rfl (Sub.cons rfl (Sub.nil _)))))))) (hm70.pick [0, 1, 2, 3, 4] rfl (by decide)) hM
      · replace hM := iteF h69 hM
        refine Rn.no rfl rfl rfl rfl (Rn.no rfl rfl rfl rfl (Rn.no rfl rfl rfl rfl (Rn.no rfl rfl rfl rfl (Rn.no rfl rfl rfl rfl (Rn.v rfl rfl rfl rfl (V.pkF rfl rfl) ?_)))))
        exact hk2 (false, F45) _ _ (Sub.cons rfl (Sub.cons rfl (Sub.cons rfl (Sub.cons rfl (Sub.cons rfl (Sub.cons rfl (Sub.cons rfl (Sub.nil _)))))))) (hm45.pick [0, 1, 2, 3, 4] rfl (by decide)) hM
    · replace hM := iteF h37 hM
      refine Rn.exit rfl ?_
      have hm73 : Hp Z0 (LS [T_limnographref18_Disk.obj F0 b0 x0, slR A1 c1 (intR .i64) x1]) w w34 ([slR A1 c1 (intR .i64) x1, ownR 78 A29 c29 T_limnographref18_File.rep y28] ++ [boxR b0 74 [.slice A35_0 (({ L := x0.L, Capacity := x0.Capacity, Down := false, Calls := x0.Calls, Fail := (-1), Crash := (-1), Err := x0.Err } : T_limnographref18_Disk).L).length c35_0, .int .i64 (({ L := x0.L, Capacity := x0.Capacity, Down := false, Calls := x0.Calls, Fail := (-1), Crash := (-1), Err := x0.Err } : T_limnographref18_Disk).Capacity), .bool (({ L := x0.L, Capacity := x0.Capacity, Down := false, Calls := x0.Calls, Fail := (-1), Crash := (-1), Err := x0.Err } : T_limnographref18_Disk).Down), .int .i64 (({ L := x0.L, Capacity := x0.Capacity, Down := false, Calls := x0.Calls, Fail := (-1), Crash := (-1), Err := x0.Err } : T_limnographref18_Disk).Calls), .int .i64 (({ L := x0.L, Capacity := x0.Capacity, Down := false, Calls := x0.Calls, Fail := (-1), Crash := (-1), Err := x0.Err } : T_limnographref18_Disk).Fail), .int .i64 (({ L := x0.L, Capacity := x0.Capacity, Down := false, Calls := x0.Calls, Fail := (-1), Crash := (-1), Err := x0.Err } : T_limnographref18_Disk).Crash), .int .i64 (({ L := x0.L, Capacity := x0.Capacity, Down := false, Calls := x0.Calls, Fail := (-1), Crash := (-1), Err := x0.Err } : T_limnographref18_Disk).Err)], ownR 78 A35_0 c35_0 T_limnographref18_File.rep (({ L := x0.L, Capacity := x0.Capacity, Down := false, Calls := x0.Calls, Fail := (-1), Crash := (-1), Err := x0.Err } : T_limnographref18_Disk).L)]) := hm35.pick [0, 1, 2, 3] rfl (by decide)
      obtain ⟨F72, hm72⟩ := hm73.fold (T_limnographref18_Disk.sh b0 ({ L := x0.L, Capacity := x0.Capacity, Down := false, Calls := x0.Calls, Fail := (-1), Crash := (-1), Err := x0.Err } : T_limnographref18_Disk)) ⟨A35_0, c35_0, rfl⟩
      replace hm72 : Hp Z0 (LS [T_limnographref18_Disk.obj F0 b0 x0, slR A1 c1 (intR .i64) x1]) w w34 [slR A1 c1 (intR .i64) x1, ownR 78 A29 c29 T_limnographref18_File.rep y28, T_limnographref18_Disk.obj F72 b0 ({ L := x0.L, Capacity := x0.Capacity, Down := false, Calls := x0.Calls, Fail := (-1), Crash := (-1), Err := x0.Err } : T_limnographref18_Disk)] := hm72
      exact hk1 (y28, F72, A29, c29) _ _ (Sub.cons rfl (Sub.cons rfl (Sub.nil _))) (hm72.pick [0, 2, 1] rfl (by decide)) hM

set_option maxRecDepth 20000 in
theorem m_limnographlaw18_do_sim {Z0 : Nat → Prop} (w : World) (F0 : Nat → Prop) (b0 : Nat) (x0 : PD) (F1 : Nat → Prop) (b1 : Nat) (x1 : T_limnographref18_Disk) (x2 : T_limnographlaw18_Act) (cs2 : List Value) {r : (Bool × PD × T_limnographref18_Disk)} (hL : Lent Z0 w [diskO 59 64 5 F0 b0 x0, T_limnographref18_Disk.obj F1 b1 x1, relR T_limnographlaw18_Act.rep cs2 x2]) (hM : m_limnographlaw18_do x0 x1 x2 = some r) :
    Calls Try.prog 14 #[.pointer (some ⟨b0, 0, none⟩), .pointer (some ⟨b1, 0, none⟩), .agg cs2.toArray] w fun x w' => ∃ F_p0 F_p1, x = .returned (.bool (r.1)) ∧ Hp Z0 (LS [diskO 59 64 5 F0 b0 x0, T_limnographref18_Disk.obj F1 b1 x1, relR T_limnographlaw18_Act.rep cs2 x2]) w w' [diskO 59 64 5 F_p0 b0 r.2.1, T_limnographref18_Disk.obj F_p1 b1 r.2.2] := by
  have hm0 := hL.start
  have h2 := hm0.get 2 rfl
  obtain ⟨_, _, rfl, ⟨rfl, _⟩, ⟨_, _, rfl, ⟨rfl, _⟩, ⟨_, _, rfl, ⟨rfl, _⟩, ⟨_, _, rfl, ⟨rfl, _⟩, ⟨_, _, rfl, ⟨rfl, _⟩, ⟨A3, c3, rfl, p3, q3, s3⟩⟩⟩⟩⟩⟩ := h2
  have hm6 : Hp Z0 (LS [diskO 59 64 5 F0 b0 x0, T_limnographref18_Disk.obj F1 b1 x1, relR T_limnographlaw18_Act.rep [.int .i64 (x2.Kind), Str (x2.A), Str (x2.B), .int .i64 (x2.N), .int .i64 (x2.Code), .slice A3 (x2.Keep).length c3] x2]) w w [diskO 59 64 5 F0 b0 x0, T_limnographref18_Disk.obj F1 b1 x1, relR T_limnographlaw18_Act.rep [.int .i64 (x2.Kind), Str (x2.A), Str (x2.B), .int .i64 (x2.N), .int .i64 (x2.Code), .slice A3 (x2.Keep).length c3] x2, slR A3 c3 (intR .i64) x2.Keep] := Hp.knowL [slR A3 c3 (intR .i64) x2.Keep] _ hm0 (knC (fun _ h => h) ⟨p3, q3, s3⟩ kn0)
  refine Rn.enter Try.func14 rfl rfl (Nat.le_of_ble_eq_true rfl) ?_
  refine Rn.seq (Rn.reg (Rn.box rfl rfl rfl rfl rfl ?_))
  intro b7 w7 hb7 m7 e7
  have hm9 : Hp Z0 (LS [diskO 59 64 5 F0 b0 x0, T_limnographref18_Disk.obj F1 b1 x1, relR T_limnographlaw18_Act.rep [.int .i64 (x2.Kind), Str (x2.A), Str (x2.B), .int .i64 (x2.N), .int .i64 (x2.Code), .slice A3 (x2.Keep).length c3] x2]) w w7 [diskO 59 64 5 F0 b0 x0, T_limnographref18_Disk.obj F1 b1 x1, relR T_limnographlaw18_Act.rep [.int .i64 (x2.Kind), Str (x2.A), Str (x2.B), .int .i64 (x2.N), .int .i64 (x2.Code), .slice A3 (x2.Keep).length c3] x2, slR A3 c3 (intR .i64) x2.Keep, boxR b7 42 [.int .i64 (x2.Kind), Str (x2.A), Str (x2.B), .int .i64 (x2.N), .int .i64 (x2.Code), .slice A3 (x2.Keep).length c3]] := hm6.addBox hb7 e7 m7
  refine Rn.v rfl rfl rfl rfl (V.as rfl) (Rn.regEnd (Rn.seq (Rn.seq (Rn.reg (Rn.v rfl rfl rfl rfl (V.fa Try.underlying42 rfl Try.sizeOf3 rfl rfl) (Rn.v rfl rfl rfl rfl (V.ldB Try.isAgg3 rfl (hm9.get 4 rfl) rfl) (Rn.regEnd ?_)))))))
  obtain ⟨j1, hj1, hM⟩ := jnE hM
  refine Rn.joinG (r := r) (G := PD × T_limnographref18_Disk × (Nat → Prop) × (Nat → Prop)) (fun g => []) (fun g w' => Hp Z0 (LS [diskO 59 64 5 F0 b0 x0, T_limnographref18_Disk.obj F1 b1 x1, relR T_limnographlaw18_Act.rep [.int .i64 (x2.Kind), Str (x2.A), Str (x2.B), .int .i64 (x2.N), .int .i64 (x2.Code), .slice A3 (x2.Keep).length c3] x2]) w w' [relR T_limnographlaw18_Act.rep [.int .i64 (x2.Kind), Str (x2.A), Str (x2.B), .int .i64 (x2.N), .int .i64 (x2.Code), .slice A3 (x2.Keep).length c3] x2, slR A3 c3 (intR .i64) x2.Keep, boxR b7 42 [.int .i64 (x2.Kind), Str (x2.A), Str (x2.B), .int .i64 (x2.N), .int .i64 (x2.Code), .slice A3 (x2.Keep).length c3], diskO 59 64 5 (g.2.2.1) b0 (g.1), T_limnographref18_Disk.obj (g.2.2.2) b1 (g.2.1)]) (fun g => j1 g.1 g.2.1) ?_ ?_
  · subst hj1
    clear hM
    rintro ⟨y10, y11, F10, F11⟩ w12 hm12 hM
    replace hm12 : Hp Z0 (LS [diskO 59 64 5 F0 b0 x0, T_limnographref18_Disk.obj F1 b1 x1, relR T_limnographlaw18_Act.rep [.int .i64 (x2.Kind), Str (x2.A), Str (x2.B), .int .i64 (x2.N), .int .i64 (x2.Code), .slice A3 (x2.Keep).length c3] x2]) w w12 [relR T_limnographlaw18_Act.rep [.int .i64 (x2.Kind), Str (x2.A), Str (x2.B), .int .i64 (x2.N), .int .i64 (x2.Code), .slice A3 (x2.Keep).length c3] x2, slR A3 c3 (intR .i64) x2.Keep, boxR b7 42 [.int .i64 (x2.Kind), Str (x2.A), Str (x2.B), .int .i64 (x2.N), .int .i64 (x2.Code), .slice A3 (x2.Keep).length c3], diskO 59 64 5 F10 b0 y10, T_limnographref18_Disk.obj F11 b1 y11] := hm12
    show Rn _ _ _ _ _ [] _
    try dsimp only at hM
    refine Rn.seq (Rn.reg (Rn.v rfl rfl rfl rfl (V.as rfl) (Rn.regEnd ?_)))
    refine Rn.retG1 Try.func14 rfl (rvT rfl) ?_
    obtain rfl := someE hM
    exact ⟨F10, F11, rfl, hm12.pick [3, 4] rfl (by decide)⟩
  intro hk1
  clear hj1
  refine Rn.block (Rn.seq (Rn.reg (Rn.v rfl rfl rfl rfl (V.eql rfl rfl) (Rn.v rfl rfl rfl rfl (V.as rfl) (Rn.regEnd ?_)))))
  refine Rn.condD rfl (fun h13 => ?_) (fun h13 => ?_)
  · replace hM := iteT h13 hM
    refine Rn.seq ?_
    have hm15 := hm9.dup 2 rfl (fun _ h => h)
    have hm17 := hm15.dup 3 rfl (fun _ h => h)
    have hm19 : Hp Z0 (LS [diskO 59 64 5 F0 b0 x0, T_limnographref18_Disk.obj F1 b1 x1, relR T_limnographlaw18_Act.rep [.int .i64 (x2.Kind), Str (x2.A), Str (x2.B), .int .i64 (x2.N), .int .i64 (x2.Code), .slice A3 (x2.Keep).length c3] x2]) w w7 ([boxR b7 42 [.int .i64 (x2.Kind), Str (x2.A), Str (x2.B), .int .i64 (x2.N), .int .i64 (x2.Code), .slice A3 (x2.Keep).length c3], relR T_limnographlaw18_Act.rep [.int .i64 (x2.Kind), Str (x2.A), Str (x2.B), .int .i64 (x2.N), .int .i64 (x2.Code), .slice A3 (x2.Keep).length c3] x2, slR A3 c3 (intR .i64) x2.Keep] ++ [diskO 59 64 5 F0 b0 x0, T_limnographref18_Disk.obj F1 b1 x1, relR T_limnographlaw18_Act.rep [.int .i64 (x2.Kind), Str (x2.A), Str (x2.B), .int .i64 (x2.N), .int .i64 (x2.Code), .slice A3 (x2.Keep).length c3] x2, slR A3 c3 (intR .i64) x2.Keep]) := hm17.pick [4, 5, 6, 0, 1, 2, 3] rfl (by decide)
    refine Rn.drawF rfl hm19 ?_
    intro w20 hmo20 hm20
    refine RH.take 0 (by kernel_rfl) rfl rfl rfl rfl (fun w' hDr => V.mv rfl) ?_
    refine RH.take 1 (by kernel_rfl) rfl rfl rfl rfl (fun w' hDr => V.fa Try.underlying42 rfl Try.sizeOf9 rfl rfl) ?_
    refine RH.take 2 (by kernel_rfl) rfl rfl rfl rfl (fun w' hDr => V.ldB Try.isAgg9 rfl ((hmo20.awayK hDr).get 0 rfl) rfl) ?_
    refine RH.take 4 (by kernel_rfl) rfl rfl rfl rfl (fun w' hDr => V.mv rfl) ?_
    refine RH.take 5 (by kernel_rfl) rfl rfl rfl rfl (fun w' hDr => V.fa Try.underlying42 rfl Try.sizeOf9 rfl rfl) ?_
    refine RH.take 6 (by kernel_rfl) rfl rfl rfl rfl (fun w' hDr => V.ldB Try.isAgg9 rfl ((hmo20.awayK hDr).get 0 rfl) rfl) ?_
    obtain ⟨p21, e21, hM⟩ := bindE hM
    have hm22 : Hp (Zo Z0 (LS [diskO 59 64 5 F0 b0 x0, T_limnographref18_Disk.obj F1 b1 x1, relR T_limnographlaw18_Act.rep [.int .i64 (x2.Kind), Str (x2.A), Str (x2.B), .int .i64 (x2.N), .int .i64 (x2.Code), .slice A3 (x2.Keep).length c3] x2]) w ([boxR b7 42 [.int .i64 (x2.Kind), Str (x2.A), Str (x2.B), .int .i64 (x2.N), .int .i64 (x2.Code), .slice A3 (x2.Keep).length c3], relR T_limnographlaw18_Act.rep [.int .i64 (x2.Kind), Str (x2.A), Str (x2.B), .int .i64 (x2.N), .int .i64 (x2.Code), .slice A3 (x2.Keep).length c3] x2, slR A3 c3 (intR .i64) x2.Keep] ++ [diskO 59 64 5 F0 b0 x0, T_limnographref18_Disk.obj F1 b1 x1, relR T_limnographlaw18_Act.rep [.int .i64 (x2.Kind), Str (x2.A), Str (x2.B), .int .i64 (x2.N), .int .i64 (x2.Code), .slice A3 (x2.Keep).length c3] x2, slR A3 c3 (intR .i64) x2.Keep])) (LS [diskO 59 64 5 F0 b0 x0, T_limnographref18_Disk.obj F1 b1 x1, relR T_limnographlaw18_Act.rep [.int .i64 (x2.Kind), Str (x2.A), Str (x2.B), .int .i64 (x2.N), .int .i64 (x2.Code), .slice A3 (x2.Keep).length c3] x2, slR A3 c3 (intR .i64) x2.Keep]) w20 w20 ([T_limnographref18_Disk.obj F1 b1 x1, relR T_limnographlaw18_Act.rep [.int .i64 (x2.Kind), Str (x2.A), Str (x2.B), .int .i64 (x2.N), .int .i64 (x2.Code), .slice A3 (x2.Keep).length c3] x2, slR A3 c3 (intR .i64) x2.Keep] ++ [diskO 59 64 5 F0 b0 x0]) := hm20.pick [1, 2, 3, 0] rfl (by decide)
    refine RH.cl ck8 3 (by kernel_rfl) rfl rfl rfl rfl (m_disk_Disk_Create_sim (Z0 := _) _ F0 b0 x0 x2.A hm22.lend e21) ?_
    rintro _ w21 ⟨F21_p0, rfl, hq21⟩
    have hm24 : Hp (Zo Z0 (LS [diskO 59 64 5 F0 b0 x0, T_limnographref18_Disk.obj F1 b1 x1, relR T_limnographlaw18_Act.rep [.int .i64 (x2.Kind), Str (x2.A), Str (x2.B), .int .i64 (x2.N), .int .i64 (x2.Code), .slice A3 (x2.Keep).length c3] x2]) w ([boxR b7 42 [.int .i64 (x2.Kind), Str (x2.A), Str (x2.B), .int .i64 (x2.N), .int .i64 (x2.Code), .slice A3 (x2.Keep).length c3], relR T_limnographlaw18_Act.rep [.int .i64 (x2.Kind), Str (x2.A), Str (x2.B), .int .i64 (x2.N), .int .i64 (x2.Code), .slice A3 (x2.Keep).length c3] x2, slR A3 c3 (intR .i64) x2.Keep] ++ [diskO 59 64 5 F0 b0 x0, T_limnographref18_Disk.obj F1 b1 x1, relR T_limnographlaw18_Act.rep [.int .i64 (x2.Kind), Str (x2.A), Str (x2.B), .int .i64 (x2.N), .int .i64 (x2.Code), .slice A3 (x2.Keep).length c3] x2, slR A3 c3 (intR .i64) x2.Keep])) (LS [diskO 59 64 5 F0 b0 x0, T_limnographref18_Disk.obj F1 b1 x1, relR T_limnographlaw18_Act.rep [.int .i64 (x2.Kind), Str (x2.A), Str (x2.B), .int .i64 (x2.N), .int .i64 (x2.Code), .slice A3 (x2.Keep).length c3] x2, slR A3 c3 (intR .i64) x2.Keep]) w20 w21 [T_limnographref18_Disk.obj F1 b1 x1, relR T_limnographlaw18_Act.rep [.int .i64 (x2.Kind), Str (x2.A), Str (x2.B), .int .i64 (x2.N), .int .i64 (x2.Code), .slice A3 (x2.Keep).length c3] x2, slR A3 c3 (intR .i64) x2.Keep, diskO 59 64 5 F21_p0 b0 p21.2] := hm22.callAZ hq21
    refine ⟨_, rfl, hm24.fr, ?_⟩
    obtain ⟨p25, e25, hM⟩ := bindE hM
    have hm26 : Hp (Zo Z0 (LS [diskO 59 64 5 F0 b0 x0, T_limnographref18_Disk.obj F1 b1 x1, relR T_limnographlaw18_Act.rep [.int .i64 (x2.Kind), Str (x2.A), Str (x2.B), .int .i64 (x2.N), .int .i64 (x2.Code), .slice A3 (x2.Keep).length c3] x2]) w ([boxR b7 42 [.int .i64 (x2.Kind), Str (x2.A), Str (x2.B), .int .i64 (x2.N), .int .i64 (x2.Code), .slice A3 (x2.Keep).length c3], relR T_limnographlaw18_Act.rep [.int .i64 (x2.Kind), Str (x2.A), Str (x2.B), .int .i64 (x2.N), .int .i64 (x2.Code), .slice A3 (x2.Keep).length c3] x2, slR A3 c3 (intR .i64) x2.Keep] ++ [diskO 59 64 5 F0 b0 x0, T_limnographref18_Disk.obj F1 b1 x1, relR T_limnographlaw18_Act.rep [.int .i64 (x2.Kind), Str (x2.A), Str (x2.B), .int .i64 (x2.N), .int .i64 (x2.Code), .slice A3 (x2.Keep).length c3] x2, slR A3 c3 (intR .i64) x2.Keep])) (LS [diskO 59 64 5 F0 b0 x0, T_limnographref18_Disk.obj F1 b1 x1, relR T_limnographlaw18_Act.rep [.int .i64 (x2.Kind), Str (x2.A), Str (x2.B), .int .i64 (x2.N), .int .i64 (x2.Code), .slice A3 (x2.Keep).length c3] x2, slR A3 c3 (intR .i64) x2.Keep]) w20 w21 ([relR T_limnographlaw18_Act.rep [.int .i64 (x2.Kind), Str (x2.A), Str (x2.B), .int .i64 (x2.N), .int .i64 (x2.Code), .slice A3 (x2.Keep).length c3] x2, slR A3 c3 (intR .i64) x2.Keep, diskO 59 64 5 F21_p0 b0 p21.2] ++ [T_limnographref18_Disk.obj F1 b1 x1]) := hm24.pick [1, 2, 3, 0] rfl (by decide)
    refine RH.cl ck33 7 (by kernel_rfl) rfl rfl rfl rfl (m_limnographref18_Disk_Create_sim (Z0 := _) _ F1 b1 x1 x2.A hm26.lend e25) ?_
    rintro _ w25 ⟨F25_p0, rfl, hq25⟩
    have hm28 : Hp (Zo Z0 (LS [diskO 59 64 5 F0 b0 x0, T_limnographref18_Disk.obj F1 b1 x1, relR T_limnographlaw18_Act.rep [.int .i64 (x2.Kind), Str (x2.A), Str (x2.B), .int .i64 (x2.N), .int .i64 (x2.Code), .slice A3 (x2.Keep).length c3] x2]) w ([boxR b7 42 [.int .i64 (x2.Kind), Str (x2.A), Str (x2.B), .int .i64 (x2.N), .int .i64 (x2.Code), .slice A3 (x2.Keep).length c3], relR T_limnographlaw18_Act.rep [.int .i64 (x2.Kind), Str (x2.A), Str (x2.B), .int .i64 (x2.N), .int .i64 (x2.Code), .slice A3 (x2.Keep).length c3] x2, slR A3 c3 (intR .i64) x2.Keep] ++ [diskO 59 64 5 F0 b0 x0, T_limnographref18_Disk.obj F1 b1 x1, relR T_limnographlaw18_Act.rep [.int .i64 (x2.Kind), Str (x2.A), Str (x2.B), .int .i64 (x2.N), .int .i64 (x2.Code), .slice A3 (x2.Keep).length c3] x2, slR A3 c3 (intR .i64) x2.Keep])) (LS [diskO 59 64 5 F0 b0 x0, T_limnographref18_Disk.obj F1 b1 x1, relR T_limnographlaw18_Act.rep [.int .i64 (x2.Kind), Str (x2.A), Str (x2.B), .int .i64 (x2.N), .int .i64 (x2.Code), .slice A3 (x2.Keep).length c3] x2, slR A3 c3 (intR .i64) x2.Keep]) w20 w25 [relR T_limnographlaw18_Act.rep [.int .i64 (x2.Kind), Str (x2.A), Str (x2.B), .int .i64 (x2.N), .int .i64 (x2.Code), .slice A3 (x2.Keep).length c3] x2, slR A3 c3 (intR .i64) x2.Keep, diskO 59 64 5 F21_p0 b0 p21.2, T_limnographref18_Disk.obj F25_p0 b1 p25.2] := hm26.callAZ hq25
    refine ⟨_, rfl, hm28.fr, ?_⟩
    refine RH.here fun hS8 => RH.one 8 (by kernel_rfl) rfl rfl rfl rfl (V.eql rfl rfl) hS8 ?_
    refine RH.here fun hS9 => RH.one 9 (by kernel_rfl) rfl rfl rfl rfl (V.as rfl) hS9 ?_
    refine RH.doneP (by kernel_rfl) ?_
    have hm29 := hmo20.callAZ hm28
    have hm30 : Hp Z0 (LS [diskO 59 64 5 F0 b0 x0, T_limnographref18_Disk.obj F1 b1 x1, relR T_limnographlaw18_Act.rep [.int .i64 (x2.Kind), Str (x2.A), Str (x2.B), .int .i64 (x2.N), .int .i64 (x2.Code), .slice A3 (x2.Keep).length c3] x2]) w w25 [boxR b7 42 [.int .i64 (x2.Kind), Str (x2.A), Str (x2.B), .int .i64 (x2.N), .int .i64 (x2.Code), .slice A3 (x2.Keep).length c3], relR T_limnographlaw18_Act.rep [.int .i64 (x2.Kind), Str (x2.A), Str (x2.B), .int .i64 (x2.N), .int .i64 (x2.Code), .slice A3 (x2.Keep).length c3] x2, slR A3 c3 (intR .i64) x2.Keep, diskO 59 64 5 F21_p0 b0 p21.2, T_limnographref18_Disk.obj F25_p0 b1 p25.2] := hm29.pick [0, 3, 4, 5, 6] rfl (by decide)
    refine Rn.retG1 Try.func14 rfl (rvT rfl) ?_
    obtain rfl := someE hM
    exact ⟨F21_p0, F25_p0, rfl, hm30.pick [3, 4] rfl (by decide)⟩
  · replace hM := iteF h13 hM
    refine Rn.seq (Rn.reg (Rn.v rfl rfl rfl rfl (V.eql rfl rfl) (Rn.v rfl rfl rfl rfl (V.as rfl) (Rn.regEnd ?_))))
    refine Rn.condD rfl (fun h31 => ?_) (fun h31 => ?_)
    · replace hM := iteT h31 hM
      refine Rn.seq ?_
      have hm33 := hm9.dup 2 rfl (fun _ h => h)
      have hm35 := hm33.dup 3 rfl (fun _ h => h)
      have hm37 : Hp Z0 (LS [diskO 59 64 5 F0 b0 x0, T_limnographref18_Disk.obj F1 b1 x1, relR T_limnographlaw18_Act.rep [.int .i64 (x2.Kind), Str (x2.A), Str (x2.B), .int .i64 (x2.N), .int .i64 (x2.Code), .slice A3 (x2.Keep).length c3] x2]) w w7 ([boxR b7 42 [.int .i64 (x2.Kind), Str (x2.A), Str (x2.B), .int .i64 (x2.N), .int .i64 (x2.Code), .slice A3 (x2.Keep).length c3], relR T_limnographlaw18_Act.rep [.int .i64 (x2.Kind), Str (x2.A), Str (x2.B), .int .i64 (x2.N), .int .i64 (x2.Code), .slice A3 (x2.Keep).length c3] x2, slR A3 c3 (intR .i64) x2.Keep] ++ [diskO 59 64 5 F0 b0 x0, T_limnographref18_Disk.obj F1 b1 x1, relR T_limnographlaw18_Act.rep [.int .i64 (x2.Kind), Str (x2.A), Str (x2.B), .int .i64 (x2.N), .int .i64 (x2.Code), .slice A3 (x2.Keep).length c3] x2, slR A3 c3 (intR .i64) x2.Keep]) := hm35.pick [4, 5, 6, 0, 1, 2, 3] rfl (by decide)
      refine Rn.drawF rfl hm37 ?_
      intro w38 hmo38 hm38
      refine RH.take 0 (by kernel_rfl) rfl rfl rfl rfl (fun w' hDr => V.mv rfl) ?_
      refine RH.take 1 (by kernel_rfl) rfl rfl rfl rfl (fun w' hDr => V.fa Try.underlying42 rfl Try.sizeOf9 rfl rfl) ?_
      refine RH.take 2 (by kernel_rfl) rfl rfl rfl rfl (fun w' hDr => V.ldB Try.isAgg9 rfl ((hmo38.awayK hDr).get 0 rfl) rfl) ?_
      refine RH.take 3 (by kernel_rfl) rfl rfl rfl rfl (fun w' hDr => V.fa Try.underlying42 rfl Try.sizeOf9 rfl rfl) ?_
      refine RH.take 4 (by kernel_rfl) rfl rfl rfl rfl (fun w' hDr => V.ldB Try.isAgg9 rfl ((hmo38.awayK hDr).get 0 rfl) rfl) ?_
      refine RH.take 7 (by kernel_rfl) rfl rfl rfl rfl (fun w' hDr => V.mv rfl) ?_
      refine RH.take 8 (by kernel_rfl) rfl rfl rfl rfl (fun w' hDr => V.fa Try.underlying42 rfl Try.sizeOf9 rfl rfl) ?_
      refine RH.take 9 (by kernel_rfl) rfl rfl rfl rfl (fun w' hDr => V.ldB Try.isAgg9 rfl ((hmo38.awayK hDr).get 0 rfl) rfl) ?_
      refine RH.take 10 (by kernel_rfl) rfl rfl rfl rfl (fun w' hDr => V.fa Try.underlying42 rfl Try.sizeOf9 rfl rfl) ?_
      refine RH.take 11 (by kernel_rfl) rfl rfl rfl rfl (fun w' hDr => V.ldB Try.isAgg9 rfl ((hmo38.awayK hDr).get 0 rfl) rfl) ?_
      obtain ⟨z39, e39, hM⟩ := bindE hM
      obtain ⟨p41, e41, hM⟩ := bindE hM
      obtain ⟨z47, e47, hM⟩ := bindE hM
      obtain ⟨p49, e49, hM⟩ := bindE hM
      refine RH.both 5 12 (by kernel_rfl) ?_ ?_
      · have e57 := e39
        refine RB.s2bH 5 hm38 e57 rfl rfl rfl Try.underlying9 Try.underlying24 Try.underlying5 rfl ?_
        intro A57 c57 w57 hm57 e57
        refine ⟨hm57.fr, ?_⟩
        refine RH.both 6 12 (by kernel_rfl) ?_ ?_
        · have e59 := e41
          have hm60 := hm57.dup 4 rfl (fun _ h => h)
          have hm62 : Hp (Zo Z0 (LS [diskO 59 64 5 F0 b0 x0, T_limnographref18_Disk.obj F1 b1 x1, relR T_limnographlaw18_Act.rep [.int .i64 (x2.Kind), Str (x2.A), Str (x2.B), .int .i64 (x2.N), .int .i64 (x2.Code), .slice A3 (x2.Keep).length c3] x2]) w ([boxR b7 42 [.int .i64 (x2.Kind), Str (x2.A), Str (x2.B), .int .i64 (x2.N), .int .i64 (x2.Code), .slice A3 (x2.Keep).length c3], relR T_limnographlaw18_Act.rep [.int .i64 (x2.Kind), Str (x2.A), Str (x2.B), .int .i64 (x2.N), .int .i64 (x2.Code), .slice A3 (x2.Keep).length c3] x2, slR A3 c3 (intR .i64) x2.Keep] ++ [diskO 59 64 5 F0 b0 x0, T_limnographref18_Disk.obj F1 b1 x1, relR T_limnographlaw18_Act.rep [.int .i64 (x2.Kind), Str (x2.A), Str (x2.B), .int .i64 (x2.N), .int .i64 (x2.Code), .slice A3 (x2.Keep).length c3] x2, slR A3 c3 (intR .i64) x2.Keep])) (LS [diskO 59 64 5 F0 b0 x0, T_limnographref18_Disk.obj F1 b1 x1, relR T_limnographlaw18_Act.rep [.int .i64 (x2.Kind), Str (x2.A), Str (x2.B), .int .i64 (x2.N), .int .i64 (x2.Code), .slice A3 (x2.Keep).length c3] x2, slR A3 c3 (intR .i64) x2.Keep]) w38 w57 ([T_limnographref18_Disk.obj F1 b1 x1, relR T_limnographlaw18_Act.rep [.int .i64 (x2.Kind), Str (x2.A), Str (x2.B), .int .i64 (x2.N), .int .i64 (x2.Code), .slice A3 (x2.Keep).length c3] x2, slR A3 c3 (intR .i64) x2.Keep, slR A57 c57 byteR z39] ++ [diskO 59 64 5 F0 b0 x0, slR A57 c57 byteR z39]) := hm60.pick [1, 2, 3, 4, 0, 5] rfl (by decide)
          refine RB.cl ck11 6 rfl rfl rfl rfl (m_disk_Disk_Append_sim (Z0 := _) _ F0 b0 x0 x2.A A57 c57 z39 hm62.lend e59) ?_
          rintro _ w59 ⟨F59_p0, rfl, hq59⟩
          have hm64 : Hp (Zo Z0 (LS [diskO 59 64 5 F0 b0 x0, T_limnographref18_Disk.obj F1 b1 x1, relR T_limnographlaw18_Act.rep [.int .i64 (x2.Kind), Str (x2.A), Str (x2.B), .int .i64 (x2.N), .int .i64 (x2.Code), .slice A3 (x2.Keep).length c3] x2]) w ([boxR b7 42 [.int .i64 (x2.Kind), Str (x2.A), Str (x2.B), .int .i64 (x2.N), .int .i64 (x2.Code), .slice A3 (x2.Keep).length c3], relR T_limnographlaw18_Act.rep [.int .i64 (x2.Kind), Str (x2.A), Str (x2.B), .int .i64 (x2.N), .int .i64 (x2.Code), .slice A3 (x2.Keep).length c3] x2, slR A3 c3 (intR .i64) x2.Keep] ++ [diskO 59 64 5 F0 b0 x0, T_limnographref18_Disk.obj F1 b1 x1, relR T_limnographlaw18_Act.rep [.int .i64 (x2.Kind), Str (x2.A), Str (x2.B), .int .i64 (x2.N), .int .i64 (x2.Code), .slice A3 (x2.Keep).length c3] x2, slR A3 c3 (intR .i64) x2.Keep])) (LS [diskO 59 64 5 F0 b0 x0, T_limnographref18_Disk.obj F1 b1 x1, relR T_limnographlaw18_Act.rep [.int .i64 (x2.Kind), Str (x2.A), Str (x2.B), .int .i64 (x2.N), .int .i64 (x2.Code), .slice A3 (x2.Keep).length c3] x2, slR A3 c3 (intR .i64) x2.Keep]) w38 w59 [T_limnographref18_Disk.obj F1 b1 x1, relR T_limnographlaw18_Act.rep [.int .i64 (x2.Kind), Str (x2.A), Str (x2.B), .int .i64 (x2.N), .int .i64 (x2.Code), .slice A3 (x2.Keep).length c3] x2, slR A3 c3 (intR .i64) x2.Keep, slR A57 c57 byteR z39, diskO 59 64 5 F59_p0 b0 p41.2] := hm62.callAZ hq59
          refine ⟨_, rfl, hm64.fr, ?_⟩
          have e65 := e47
          refine RH.s2bH 12 (by kernel_rfl) hm64 e65 rfl rfl rfl Try.underlying9 Try.underlying24 Try.underlying5 rfl ?_
          intro A65 c65 w65 hm65 e65
          refine ⟨hm65.fr, ?_⟩
          have e67 := e49
          have hm68 := hm65.dup 5 rfl (fun _ h => h)
          have hm70 : Hp (Zo Z0 (LS [diskO 59 64 5 F0 b0 x0, T_limnographref18_Disk.obj F1 b1 x1, relR T_limnographlaw18_Act.rep [.int .i64 (x2.Kind), Str (x2.A), Str (x2.B), .int .i64 (x2.N), .int .i64 (x2.Code), .slice A3 (x2.Keep).length c3] x2]) w ([boxR b7 42 [.int .i64 (x2.Kind), Str (x2.A), Str (x2.B), .int .i64 (x2.N), .int .i64 (x2.Code), .slice A3 (x2.Keep).length c3], relR T_limnographlaw18_Act.rep [.int .i64 (x2.Kind), Str (x2.A), Str (x2.B), .int .i64 (x2.N), .int .i64 (x2.Code), .slice A3 (x2.Keep).length c3] x2, slR A3 c3 (intR .i64) x2.Keep] ++ [diskO 59 64 5 F0 b0 x0, T_limnographref18_Disk.obj F1 b1 x1, relR T_limnographlaw18_Act.rep [.int .i64 (x2.Kind), Str (x2.A), Str (x2.B), .int .i64 (x2.N), .int .i64 (x2.Code), .slice A3 (x2.Keep).length c3] x2, slR A3 c3 (intR .i64) x2.Keep])) (LS [diskO 59 64 5 F0 b0 x0, T_limnographref18_Disk.obj F1 b1 x1, relR T_limnographlaw18_Act.rep [.int .i64 (x2.Kind), Str (x2.A), Str (x2.B), .int .i64 (x2.N), .int .i64 (x2.Code), .slice A3 (x2.Keep).length c3] x2, slR A3 c3 (intR .i64) x2.Keep]) w38 w65 ([relR T_limnographlaw18_Act.rep [.int .i64 (x2.Kind), Str (x2.A), Str (x2.B), .int .i64 (x2.N), .int .i64 (x2.Code), .slice A3 (x2.Keep).length c3] x2, slR A3 c3 (intR .i64) x2.Keep, slR A57 c57 byteR z39, diskO 59 64 5 F59_p0 b0 p41.2, slR A65 c65 byteR z47] ++ [T_limnographref18_Disk.obj F1 b1 x1, slR A65 c65 byteR z47]) := hm68.pick [1, 2, 3, 4, 5, 0, 6] rfl (by decide)
          refine RH.cl ck34 13 (by kernel_rfl) rfl rfl rfl rfl (m_limnographref18_Disk_Append_sim (Z0 := _) _ F1 b1 x1 x2.A A65 c65 z47 hm70.lend e67) ?_
          rintro _ w67 ⟨F67_p0, rfl, hq67⟩
          have hm72 : Hp (Zo Z0 (LS [diskO 59 64 5 F0 b0 x0, T_limnographref18_Disk.obj F1 b1 x1, relR T_limnographlaw18_Act.rep [.int .i64 (x2.Kind), Str (x2.A), Str (x2.B), .int .i64 (x2.N), .int .i64 (x2.Code), .slice A3 (x2.Keep).length c3] x2]) w ([boxR b7 42 [.int .i64 (x2.Kind), Str (x2.A), Str (x2.B), .int .i64 (x2.N), .int .i64 (x2.Code), .slice A3 (x2.Keep).length c3], relR T_limnographlaw18_Act.rep [.int .i64 (x2.Kind), Str (x2.A), Str (x2.B), .int .i64 (x2.N), .int .i64 (x2.Code), .slice A3 (x2.Keep).length c3] x2, slR A3 c3 (intR .i64) x2.Keep] ++ [diskO 59 64 5 F0 b0 x0, T_limnographref18_Disk.obj F1 b1 x1, relR T_limnographlaw18_Act.rep [.int .i64 (x2.Kind), Str (x2.A), Str (x2.B), .int .i64 (x2.N), .int .i64 (x2.Code), .slice A3 (x2.Keep).length c3] x2, slR A3 c3 (intR .i64) x2.Keep])) (LS [diskO 59 64 5 F0 b0 x0, T_limnographref18_Disk.obj F1 b1 x1, relR T_limnographlaw18_Act.rep [.int .i64 (x2.Kind), Str (x2.A), Str (x2.B), .int .i64 (x2.N), .int .i64 (x2.Code), .slice A3 (x2.Keep).length c3] x2, slR A3 c3 (intR .i64) x2.Keep]) w38 w67 [relR T_limnographlaw18_Act.rep [.int .i64 (x2.Kind), Str (x2.A), Str (x2.B), .int .i64 (x2.N), .int .i64 (x2.Code), .slice A3 (x2.Keep).length c3] x2, slR A3 c3 (intR .i64) x2.Keep, slR A57 c57 byteR z39, diskO 59 64 5 F59_p0 b0 p41.2, slR A65 c65 byteR z47, T_limnographref18_Disk.obj F67_p0 b1 p49.2] := hm70.callAZ hq67
          refine ⟨_, rfl, hm72.fr, ?_⟩
          refine RH.here fun hS14 => RH.one 14 (by kernel_rfl) rfl rfl rfl rfl (V.eql rfl rfl) hS14 ?_
          refine RH.here fun hS15 => RH.one 15 (by kernel_rfl) rfl rfl rfl rfl (V.as rfl) hS15 ?_
          refine RH.doneP (by kernel_rfl) ?_
          have hm73 := hmo38.callAZ hm72
          have hm74 : Hp Z0 (LS [diskO 59 64 5 F0 b0 x0, T_limnographref18_Disk.obj F1 b1 x1, relR T_limnographlaw18_Act.rep [.int .i64 (x2.Kind), Str (x2.A), Str (x2.B), .int .i64 (x2.N), .int .i64 (x2.Code), .slice A3 (x2.Keep).length c3] x2]) w w67 [boxR b7 42 [.int .i64 (x2.Kind), Str (x2.A), Str (x2.B), .int .i64 (x2.N), .int .i64 (x2.Code), .slice A3 (x2.Keep).length c3], relR T_limnographlaw18_Act.rep [.int .i64 (x2.Kind), Str (x2.A), Str (x2.B), .int .i64 (x2.N), .int .i64 (x2.Code), .slice A3 (x2.Keep).length c3] x2, slR A3 c3 (intR .i64) x2.Keep, slR A57 c57 byteR z39, diskO 59 64 5 F59_p0 b0 p41.2, slR A65 c65 byteR z47, T_limnographref18_Disk.obj F67_p0 b1 p49.2] := hm73.pick [0, 3, 4, 5, 6, 7, 8] rfl (by decide)
          refine Rn.retG1 Try.func14 rfl (rvT rfl) ?_
          obtain rfl := someE hM
          exact ⟨F59_p0, F67_p0, rfl, hm74.pick [4, 6] rfl (by decide)⟩
        · have e75 := e47
          refine RB.s2bH 12 hm57 e75 rfl rfl rfl Try.underlying9 Try.underlying24 Try.underlying5 rfl ?_
          intro A75 c75 w75 hm75 e75
          refine ⟨hm75.fr, ?_⟩
          have e77 := e41
          have hm78 := hm75.dup 4 rfl (fun _ h => h)
          have hm80 : Hp (Zo Z0 (LS [diskO 59 64 5 F0 b0 x0, T_limnographref18_Disk.obj F1 b1 x1, relR T_limnographlaw18_Act.rep [.int .i64 (x2.Kind), Str (x2.A), Str (x2.B), .int .i64 (x2.N), .int .i64 (x2.Code), .slice A3 (x2.Keep).length c3] x2]) w ([boxR b7 42 [.int .i64 (x2.Kind), Str (x2.A), Str (x2.B), .int .i64 (x2.N), .int .i64 (x2.Code), .slice A3 (x2.Keep).length c3], relR T_limnographlaw18_Act.rep [.int .i64 (x2.Kind), Str (x2.A), Str (x2.B), .int .i64 (x2.N), .int .i64 (x2.Code), .slice A3 (x2.Keep).length c3] x2, slR A3 c3 (intR .i64) x2.Keep] ++ [diskO 59 64 5 F0 b0 x0, T_limnographref18_Disk.obj F1 b1 x1, relR T_limnographlaw18_Act.rep [.int .i64 (x2.Kind), Str (x2.A), Str (x2.B), .int .i64 (x2.N), .int .i64 (x2.Code), .slice A3 (x2.Keep).length c3] x2, slR A3 c3 (intR .i64) x2.Keep])) (LS [diskO 59 64 5 F0 b0 x0, T_limnographref18_Disk.obj F1 b1 x1, relR T_limnographlaw18_Act.rep [.int .i64 (x2.Kind), Str (x2.A), Str (x2.B), .int .i64 (x2.N), .int .i64 (x2.Code), .slice A3 (x2.Keep).length c3] x2, slR A3 c3 (intR .i64) x2.Keep]) w38 w75 ([T_limnographref18_Disk.obj F1 b1 x1, relR T_limnographlaw18_Act.rep [.int .i64 (x2.Kind), Str (x2.A), Str (x2.B), .int .i64 (x2.N), .int .i64 (x2.Code), .slice A3 (x2.Keep).length c3] x2, slR A3 c3 (intR .i64) x2.Keep, slR A57 c57 byteR z39, slR A75 c75 byteR z47] ++ [diskO 59 64 5 F0 b0 x0, slR A57 c57 byteR z39]) := hm78.pick [1, 2, 3, 4, 5, 0, 6] rfl (by decide)
          refine RH.cl ck11 6 (by kernel_rfl) rfl rfl rfl rfl (m_disk_Disk_Append_sim (Z0 := _) _ F0 b0 x0 x2.A A57 c57 z39 hm80.lend e77) ?_
          rintro _ w77 ⟨F77_p0, rfl, hq77⟩
          have hm82 : Hp (Zo Z0 (LS [diskO 59 64 5 F0 b0 x0, T_limnographref18_Disk.obj F1 b1 x1, relR T_limnographlaw18_Act.rep [.int .i64 (x2.Kind), Str (x2.A), Str (x2.B), .int .i64 (x2.N), .int .i64 (x2.Code), .slice A3 (x2.Keep).length c3] x2]) w ([boxR b7 42 [.int .i64 (x2.Kind), Str (x2.A), Str (x2.B), .int .i64 (x2.N), .int .i64 (x2.Code), .slice A3 (x2.Keep).length c3], relR T_limnographlaw18_Act.rep [.int .i64 (x2.Kind), Str (x2.A), Str (x2.B), .int .i64 (x2.N), .int .i64 (x2.Code), .slice A3 (x2.Keep).length c3] x2, slR A3 c3 (intR .i64) x2.Keep] ++ [diskO 59 64 5 F0 b0 x0, T_limnographref18_Disk.obj F1 b1 x1, relR T_limnographlaw18_Act.rep [.int .i64 (x2.Kind), Str (x2.A), Str (x2.B), .int .i64 (x2.N), .int .i64 (x2.Code), .slice A3 (x2.Keep).length c3] x2, slR A3 c3 (intR .i64) x2.Keep])) (LS [diskO 59 64 5 F0 b0 x0, T_limnographref18_Disk.obj F1 b1 x1, relR T_limnographlaw18_Act.rep [.int .i64 (x2.Kind), Str (x2.A), Str (x2.B), .int .i64 (x2.N), .int .i64 (x2.Code), .slice A3 (x2.Keep).length c3] x2, slR A3 c3 (intR .i64) x2.Keep]) w38 w77 [T_limnographref18_Disk.obj F1 b1 x1, relR T_limnographlaw18_Act.rep [.int .i64 (x2.Kind), Str (x2.A), Str (x2.B), .int .i64 (x2.N), .int .i64 (x2.Code), .slice A3 (x2.Keep).length c3] x2, slR A3 c3 (intR .i64) x2.Keep, slR A57 c57 byteR z39, slR A75 c75 byteR z47, diskO 59 64 5 F77_p0 b0 p41.2] := hm80.callAZ hq77
          refine ⟨_, rfl, hm82.fr, ?_⟩
          have e83 := e49
          have hm84 := hm82.dup 4 rfl (fun _ h => h)
          have hm86 : Hp (Zo Z0 (LS [diskO 59 64 5 F0 b0 x0, T_limnographref18_Disk.obj F1 b1 x1, relR T_limnographlaw18_Act.rep [.int .i64 (x2.Kind), Str (x2.A), Str (x2.B), .int .i64 (x2.N), .int .i64 (x2.Code), .slice A3 (x2.Keep).length c3] x2]) w ([boxR b7 42 [.int .i64 (x2.Kind), Str (x2.A), Str (x2.B), .int .i64 (x2.N), .int .i64 (x2.Code), .slice A3 (x2.Keep).length c3], relR T_limnographlaw18_Act.rep [.int .i64 (x2.Kind), Str (x2.A), Str (x2.B), .int .i64 (x2.N), .int .i64 (x2.Code), .slice A3 (x2.Keep).length c3] x2, slR A3 c3 (intR .i64) x2.Keep] ++ [diskO 59 64 5 F0 b0 x0, T_limnographref18_Disk.obj F1 b1 x1, relR T_limnographlaw18_Act.rep [.int .i64 (x2.Kind), Str (x2.A), Str (x2.B), .int .i64 (x2.N), .int .i64 (x2.Code), .slice A3 (x2.Keep).length c3] x2, slR A3 c3 (intR .i64) x2.Keep])) (LS [diskO 59 64 5 F0 b0 x0, T_limnographref18_Disk.obj F1 b1 x1, relR T_limnographlaw18_Act.rep [.int .i64 (x2.Kind), Str (x2.A), Str (x2.B), .int .i64 (x2.N), .int .i64 (x2.Code), .slice A3 (x2.Keep).length c3] x2, slR A3 c3 (intR .i64) x2.Keep]) w38 w77 ([relR T_limnographlaw18_Act.rep [.int .i64 (x2.Kind), Str (x2.A), Str (x2.B), .int .i64 (x2.N), .int .i64 (x2.Code), .slice A3 (x2.Keep).length c3] x2, slR A3 c3 (intR .i64) x2.Keep, slR A57 c57 byteR z39, slR A75 c75 byteR z47, diskO 59 64 5 F77_p0 b0 p41.2] ++ [T_limnographref18_Disk.obj F1 b1 x1, slR A75 c75 byteR z47]) := hm84.pick [1, 2, 3, 4, 5, 0, 6] rfl (by decide)
          refine RH.cl ck34 13 (by kernel_rfl) rfl rfl rfl rfl (m_limnographref18_Disk_Append_sim (Z0 := _) _ F1 b1 x1 x2.A A75 c75 z47 hm86.lend e83) ?_
          rintro _ w83 ⟨F83_p0, rfl, hq83⟩
          have hm88 : Hp (Zo Z0 (LS [diskO 59 64 5 F0 b0 x0, T_limnographref18_Disk.obj F1 b1 x1, relR T_limnographlaw18_Act.rep [.int .i64 (x2.Kind), Str (x2.A), Str (x2.B), .int .i64 (x2.N), .int .i64 (x2.Code), .slice A3 (x2.Keep).length c3] x2]) w ([boxR b7 42 [.int .i64 (x2.Kind), Str (x2.A), Str (x2.B), .int .i64 (x2.N), .int .i64 (x2.Code), .slice A3 (x2.Keep).length c3], relR T_limnographlaw18_Act.rep [.int .i64 (x2.Kind), Str (x2.A), Str (x2.B), .int .i64 (x2.N), .int .i64 (x2.Code), .slice A3 (x2.Keep).length c3] x2, slR A3 c3 (intR .i64) x2.Keep] ++ [diskO 59 64 5 F0 b0 x0, T_limnographref18_Disk.obj F1 b1 x1, relR T_limnographlaw18_Act.rep [.int .i64 (x2.Kind), Str (x2.A), Str (x2.B), .int .i64 (x2.N), .int .i64 (x2.Code), .slice A3 (x2.Keep).length c3] x2, slR A3 c3 (intR .i64) x2.Keep])) (LS [diskO 59 64 5 F0 b0 x0, T_limnographref18_Disk.obj F1 b1 x1, relR T_limnographlaw18_Act.rep [.int .i64 (x2.Kind), Str (x2.A), Str (x2.B), .int .i64 (x2.N), .int .i64 (x2.Code), .slice A3 (x2.Keep).length c3] x2, slR A3 c3 (intR .i64) x2.Keep]) w38 w83 [relR T_limnographlaw18_Act.rep [.int .i64 (x2.Kind), Str (x2.A), Str (x2.B), .int .i64 (x2.N), .int .i64 (x2.Code), .slice A3 (x2.Keep).length c3] x2, slR A3 c3 (intR .i64) x2.Keep, slR A57 c57 byteR z39, slR A75 c75 byteR z47, diskO 59 64 5 F77_p0 b0 p41.2, T_limnographref18_Disk.obj F83_p0 b1 p49.2] := hm86.callAZ hq83
          refine ⟨_, rfl, hm88.fr, ?_⟩
          refine RH.here fun hS14 => RH.one 14 (by kernel_rfl) rfl rfl rfl rfl (V.eql rfl rfl) hS14 ?_
          refine RH.here fun hS15 => RH.one 15 (by kernel_rfl) rfl rfl rfl rfl (V.as rfl) hS15 ?_
          refine RH.doneP (by kernel_rfl) ?_
          have hm89 := hmo38.callAZ hm88
          have hm90 : Hp Z0 (LS [diskO 59 64 5 F0 b0 x0, T_limnographref18_Disk.obj F1 b1 x1, relR T_limnographlaw18_Act.rep [.int .i64 (x2.Kind), Str (x2.A), Str (x2.B), .int .i64 (x2.N), .int .i64 (x2.Code), .slice A3 (x2.Keep).length c3] x2]) w w83 [boxR b7 42 [.int .i64 (x2.Kind), Str (x2.A), Str (x2.B), .int .i64 (x2.N), .int .i64 (x2.Code), .slice A3 (x2.Keep).length c3], relR T_limnographlaw18_Act.rep [.int .i64 (x2.Kind), Str (x2.A), Str (x2.B), .int .i64 (x2.N), .int .i64 (x2.Code), .slice A3 (x2.Keep).length c3] x2, slR A3 c3 (intR .i64) x2.Keep, slR A57 c57 byteR z39, slR A75 c75 byteR z47, diskO 59 64 5 F77_p0 b0 p41.2, T_limnographref18_Disk.obj F83_p0 b1 p49.2] := hm89.pick [0, 3, 4, 5, 6, 7, 8] rfl (by decide)
          refine Rn.retG1 Try.func14 rfl (rvT rfl) ?_
          obtain rfl := someE hM
          exact ⟨F77_p0, F83_p0, rfl, hm90.pick [5, 6] rfl (by decide)⟩
      · have e91 := e47
        refine RB.s2bH 12 hm38 e91 rfl rfl rfl Try.underlying9 Try.underlying24 Try.underlying5 rfl ?_
        intro A91 c91 w91 hm91 e91
        refine ⟨hm91.fr, ?_⟩
        have e93 := e39
        refine RH.s2bH 5 (by kernel_rfl) hm91 e93 rfl rfl rfl Try.underlying9 Try.underlying24 Try.underlying5 rfl ?_
        intro A93 c93 w93 hm93 e93
        refine ⟨hm93.fr, ?_⟩
        have e95 := e41
        have hm96 := hm93.dup 5 rfl (fun _ h => h)
        have hm98 : Hp (Zo Z0 (LS [diskO 59 64 5 F0 b0 x0, T_limnographref18_Disk.obj F1 b1 x1, relR T_limnographlaw18_Act.rep [.int .i64 (x2.Kind), Str (x2.A), Str (x2.B), .int .i64 (x2.N), .int .i64 (x2.Code), .slice A3 (x2.Keep).length c3] x2]) w ([boxR b7 42 [.int .i64 (x2.Kind), Str (x2.A), Str (x2.B), .int .i64 (x2.N), .int .i64 (x2.Code), .slice A3 (x2.Keep).length c3], relR T_limnographlaw18_Act.rep [.int .i64 (x2.Kind), Str (x2.A), Str (x2.B), .int .i64 (x2.N), .int .i64 (x2.Code), .slice A3 (x2.Keep).length c3] x2, slR A3 c3 (intR .i64) x2.Keep] ++ [diskO 59 64 5 F0 b0 x0, T_limnographref18_Disk.obj F1 b1 x1, relR T_limnographlaw18_Act.rep [.int .i64 (x2.Kind), Str (x2.A), Str (x2.B), .int .i64 (x2.N), .int .i64 (x2.Code), .slice A3 (x2.Keep).length c3] x2, slR A3 c3 (intR .i64) x2.Keep])) (LS [diskO 59 64 5 F0 b0 x0, T_limnographref18_Disk.obj F1 b1 x1, relR T_limnographlaw18_Act.rep [.int .i64 (x2.Kind), Str (x2.A), Str (x2.B), .int .i64 (x2.N), .int .i64 (x2.Code), .slice A3 (x2.Keep).length c3] x2, slR A3 c3 (intR .i64) x2.Keep]) w38 w93 ([T_limnographref18_Disk.obj F1 b1 x1, relR T_limnographlaw18_Act.rep [.int .i64 (x2.Kind), Str (x2.A), Str (x2.B), .int .i64 (x2.N), .int .i64 (x2.Code), .slice A3 (x2.Keep).length c3] x2, slR A3 c3 (intR .i64) x2.Keep, slR A91 c91 byteR z47, slR A93 c93 byteR z39] ++ [diskO 59 64 5 F0 b0 x0, slR A93 c93 byteR z39]) := hm96.pick [1, 2, 3, 4, 5, 0, 6] rfl (by decide)
        refine RH.cl ck11 6 (by kernel_rfl) rfl rfl rfl rfl (m_disk_Disk_Append_sim (Z0 := _) _ F0 b0 x0 x2.A A93 c93 z39 hm98.lend e95) ?_
        rintro _ w95 ⟨F95_p0, rfl, hq95⟩
        have hm100 : Hp (Zo Z0 (LS [diskO 59 64 5 F0 b0 x0, T_limnographref18_Disk.obj F1 b1 x1, relR T_limnographlaw18_Act.rep [.int .i64 (x2.Kind), Str (x2.A), Str (x2.B), .int .i64 (x2.N), .int .i64 (x2.Code), .slice A3 (x2.Keep).length c3] x2]) w ([boxR b7 42 [.int .i64 (x2.Kind), Str (x2.A), Str (x2.B), .int .i64 (x2.N), .int .i64 (x2.Code), .slice A3 (x2.Keep).length c3], relR T_limnographlaw18_Act.rep [.int .i64 (x2.Kind), Str (x2.A), Str (x2.B), .int .i64 (x2.N), .int .i64 (x2.Code), .slice A3 (x2.Keep).length c3] x2, slR A3 c3 (intR .i64) x2.Keep] ++ [diskO 59 64 5 F0 b0 x0, T_limnographref18_Disk.obj F1 b1 x1, relR T_limnographlaw18_Act.rep [.int .i64 (x2.Kind), Str (x2.A), Str (x2.B), .int .i64 (x2.N), .int .i64 (x2.Code), .slice A3 (x2.Keep).length c3] x2, slR A3 c3 (intR .i64) x2.Keep])) (LS [diskO 59 64 5 F0 b0 x0, T_limnographref18_Disk.obj F1 b1 x1, relR T_limnographlaw18_Act.rep [.int .i64 (x2.Kind), Str (x2.A), Str (x2.B), .int .i64 (x2.N), .int .i64 (x2.Code), .slice A3 (x2.Keep).length c3] x2, slR A3 c3 (intR .i64) x2.Keep]) w38 w95 [T_limnographref18_Disk.obj F1 b1 x1, relR T_limnographlaw18_Act.rep [.int .i64 (x2.Kind), Str (x2.A), Str (x2.B), .int .i64 (x2.N), .int .i64 (x2.Code), .slice A3 (x2.Keep).length c3] x2, slR A3 c3 (intR .i64) x2.Keep, slR A91 c91 byteR z47, slR A93 c93 byteR z39, diskO 59 64 5 F95_p0 b0 p41.2] := hm98.callAZ hq95
        refine ⟨_, rfl, hm100.fr, ?_⟩
        have e101 := e49
        have hm102 := hm100.dup 3 rfl (fun _ h => h)
        have hm104 : Hp (Zo Z0 (LS [diskO 59 64 5 F0 b0 x0, T_limnographref18_Disk.obj F1 b1 x1, relR T_limnographlaw18_Act.rep [.int .i64 (x2.Kind), Str (x2.A), Str (x2.B), .int .i64 (x2.N), .int .i64 (x2.Code), .slice A3 (x2.Keep).length c3] x2]) w ([boxR b7 42 [.int .i64 (x2.Kind), Str (x2.A), Str (x2.B), .int .i64 (x2.N), .int .i64 (x2.Code), .slice A3 (x2.Keep).length c3], relR T_limnographlaw18_Act.rep [.int .i64 (x2.Kind), Str (x2.A), Str (x2.B), .int .i64 (x2.N), .int .i64 (x2.Code), .slice A3 (x2.Keep).length c3] x2, slR A3 c3 (intR .i64) x2.Keep] ++ [diskO 59 64 5 F0 b0 x0, T_limnographref18_Disk.obj F1 b1 x1, relR T_limnographlaw18_Act.rep [.int .i64 (x2.Kind), Str (x2.A), Str (x2.B), .int .i64 (x2.N), .int .i64 (x2.Code), .slice A3 (x2.Keep).length c3] x2, slR A3 c3 (intR .i64) x2.Keep])) (LS [diskO 59 64 5 F0 b0 x0, T_limnographref18_Disk.obj F1 b1 x1, relR T_limnographlaw18_Act.rep [.int .i64 (x2.Kind), Str (x2.A), Str (x2.B), .int .i64 (x2.N), .int .i64 (x2.Code), .slice A3 (x2.Keep).length c3] x2, slR A3 c3 (intR .i64) x2.Keep]) w38 w95 ([relR T_limnographlaw18_Act.rep [.int .i64 (x2.Kind), Str (x2.A), Str (x2.B), .int .i64 (x2.N), .int .i64 (x2.Code), .slice A3 (x2.Keep).length c3] x2, slR A3 c3 (intR .i64) x2.Keep, slR A91 c91 byteR z47, slR A93 c93 byteR z39, diskO 59 64 5 F95_p0 b0 p41.2] ++ [T_limnographref18_Disk.obj F1 b1 x1, slR A91 c91 byteR z47]) := hm102.pick [1, 2, 3, 4, 5, 0, 6] rfl (by decide)
        refine RH.cl ck34 13 (by kernel_rfl) rfl rfl rfl rfl (m_limnographref18_Disk_Append_sim (Z0 := _) _ F1 b1 x1 x2.A A91 c91 z47 hm104.lend e101) ?_
        rintro _ w101 ⟨F101_p0, rfl, hq101⟩
        have hm106 : Hp (Zo Z0 (LS [diskO 59 64 5 F0 b0 x0, T_limnographref18_Disk.obj F1 b1 x1, relR T_limnographlaw18_Act.rep [.int .i64 (x2.Kind), Str (x2.A), Str (x2.B), .int .i64 (x2.N), .int .i64 (x2.Code), .slice A3 (x2.Keep).length c3] x2]) w ([boxR b7 42 [.int .i64 (x2.Kind), Str (x2.A), Str (x2.B), .int .i64 (x2.N), .int .i64 (x2.Code), .slice A3 (x2.Keep).length c3], relR T_limnographlaw18_Act.rep [.int .i64 (x2.Kind), Str (x2.A), Str (x2.B), .int .i64 (x2.N), .int .i64 (x2.Code), .slice A3 (x2.Keep).length c3] x2, slR A3 c3 (intR .i64) x2.Keep] ++ [diskO 59 64 5 F0 b0 x0, T_limnographref18_Disk.obj F1 b1 x1, relR T_limnographlaw18_Act.rep [.int .i64 (x2.Kind), Str (x2.A), Str (x2.B), .int .i64 (x2.N), .int .i64 (x2.Code), .slice A3 (x2.Keep).length c3] x2, slR A3 c3 (intR .i64) x2.Keep])) (LS [diskO 59 64 5 F0 b0 x0, T_limnographref18_Disk.obj F1 b1 x1, relR T_limnographlaw18_Act.rep [.int .i64 (x2.Kind), Str (x2.A), Str (x2.B), .int .i64 (x2.N), .int .i64 (x2.Code), .slice A3 (x2.Keep).length c3] x2, slR A3 c3 (intR .i64) x2.Keep]) w38 w101 [relR T_limnographlaw18_Act.rep [.int .i64 (x2.Kind), Str (x2.A), Str (x2.B), .int .i64 (x2.N), .int .i64 (x2.Code), .slice A3 (x2.Keep).length c3] x2, slR A3 c3 (intR .i64) x2.Keep, slR A91 c91 byteR z47, slR A93 c93 byteR z39, diskO 59 64 5 F95_p0 b0 p41.2, T_limnographref18_Disk.obj F101_p0 b1 p49.2] := hm104.callAZ hq101
        refine ⟨_, rfl, hm106.fr, ?_⟩
        refine RH.here fun hS14 => RH.one 14 (by kernel_rfl) rfl rfl rfl rfl (V.eql rfl rfl) hS14 ?_
        refine RH.here fun hS15 => RH.one 15 (by kernel_rfl) rfl rfl rfl rfl (V.as rfl) hS15 ?_
        refine RH.doneP (by kernel_rfl) ?_
        have hm107 := hmo38.callAZ hm106
        have hm108 : Hp Z0 (LS [diskO 59 64 5 F0 b0 x0, T_limnographref18_Disk.obj F1 b1 x1, relR T_limnographlaw18_Act.rep [.int .i64 (x2.Kind), Str (x2.A), Str (x2.B), .int .i64 (x2.N), .int .i64 (x2.Code), .slice A3 (x2.Keep).length c3] x2]) w w101 [boxR b7 42 [.int .i64 (x2.Kind), Str (x2.A), Str (x2.B), .int .i64 (x2.N), .int .i64 (x2.Code), .slice A3 (x2.Keep).length c3], relR T_limnographlaw18_Act.rep [.int .i64 (x2.Kind), Str (x2.A), Str (x2.B), .int .i64 (x2.N), .int .i64 (x2.Code), .slice A3 (x2.Keep).length c3] x2, slR A3 c3 (intR .i64) x2.Keep, slR A91 c91 byteR z47, slR A93 c93 byteR z39, diskO 59 64 5 F95_p0 b0 p41.2, T_limnographref18_Disk.obj F101_p0 b1 p49.2] := hm107.pick [0, 3, 4, 5, 6, 7, 8] rfl (by decide)
        refine Rn.retG1 Try.func14 rfl (rvT rfl) ?_
        obtain rfl := someE hM
        exact ⟨F95_p0, F101_p0, rfl, hm108.pick [5, 6] rfl (by decide)⟩
    · replace hM := iteF h31 hM
      refine Rn.seq (Rn.reg (Rn.v rfl rfl rfl rfl (V.eql rfl rfl) (Rn.v rfl rfl rfl rfl (V.as rfl) (Rn.regEnd ?_))))
      refine Rn.condD rfl (fun h109 => ?_) (fun h109 => ?_)
      · replace hM := iteT h109 hM
        refine Rn.seq ?_
        have hm111 := hm9.dup 2 rfl (fun _ h => h)
        have hm113 := hm111.dup 3 rfl (fun _ h => h)
        have hm115 : Hp Z0 (LS [diskO 59 64 5 F0 b0 x0, T_limnographref18_Disk.obj F1 b1 x1, relR T_limnographlaw18_Act.rep [.int .i64 (x2.Kind), Str (x2.A), Str (x2.B), .int .i64 (x2.N), .int .i64 (x2.Code), .slice A3 (x2.Keep).length c3] x2]) w w7 ([boxR b7 42 [.int .i64 (x2.Kind), Str (x2.A), Str (x2.B), .int .i64 (x2.N), .int .i64 (x2.Code), .slice A3 (x2.Keep).length c3], relR T_limnographlaw18_Act.rep [.int .i64 (x2.Kind), Str (x2.A), Str (x2.B), .int .i64 (x2.N), .int .i64 (x2.Code), .slice A3 (x2.Keep).length c3] x2, slR A3 c3 (intR .i64) x2.Keep] ++ [diskO 59 64 5 F0 b0 x0, T_limnographref18_Disk.obj F1 b1 x1, relR T_limnographlaw18_Act.rep [.int .i64 (x2.Kind), Str (x2.A), Str (x2.B), .int .i64 (x2.N), .int .i64 (x2.Code), .slice A3 (x2.Keep).length c3] x2, slR A3 c3 (intR .i64) x2.Keep]) := hm113.pick [4, 5, 6, 0, 1, 2, 3] rfl (by decide)
        refine Rn.drawF rfl hm115 ?_
        intro w116 hmo116 hm116
        refine RH.take 0 (by kernel_rfl) rfl rfl rfl rfl (fun w' hDr => V.mv rfl) ?_
        refine RH.take 1 (by kernel_rfl) rfl rfl rfl rfl (fun w' hDr => V.fa Try.underlying42 rfl Try.sizeOf9 rfl rfl) ?_
        refine RH.take 2 (by kernel_rfl) rfl rfl rfl rfl (fun w' hDr => V.ldB Try.isAgg9 rfl ((hmo116.awayK hDr).get 0 rfl) rfl) ?_
        refine RH.take 4 (by kernel_rfl) rfl rfl rfl rfl (fun w' hDr => V.mv rfl) ?_
        refine RH.take 5 (by kernel_rfl) rfl rfl rfl rfl (fun w' hDr => V.fa Try.underlying42 rfl Try.sizeOf9 rfl rfl) ?_
        refine RH.take 6 (by kernel_rfl) rfl rfl rfl rfl (fun w' hDr => V.ldB Try.isAgg9 rfl ((hmo116.awayK hDr).get 0 rfl) rfl) ?_
        obtain ⟨p117, e117, hM⟩ := bindE hM
        have hm118 : Hp (Zo Z0 (LS [diskO 59 64 5 F0 b0 x0, T_limnographref18_Disk.obj F1 b1 x1, relR T_limnographlaw18_Act.rep [.int .i64 (x2.Kind), Str (x2.A), Str (x2.B), .int .i64 (x2.N), .int .i64 (x2.Code), .slice A3 (x2.Keep).length c3] x2]) w ([boxR b7 42 [.int .i64 (x2.Kind), Str (x2.A), Str (x2.B), .int .i64 (x2.N), .int .i64 (x2.Code), .slice A3 (x2.Keep).length c3], relR T_limnographlaw18_Act.rep [.int .i64 (x2.Kind), Str (x2.A), Str (x2.B), .int .i64 (x2.N), .int .i64 (x2.Code), .slice A3 (x2.Keep).length c3] x2, slR A3 c3 (intR .i64) x2.Keep] ++ [diskO 59 64 5 F0 b0 x0, T_limnographref18_Disk.obj F1 b1 x1, relR T_limnographlaw18_Act.rep [.int .i64 (x2.Kind), Str (x2.A), Str (x2.B), .int .i64 (x2.N), .int .i64 (x2.Code), .slice A3 (x2.Keep).length c3] x2, slR A3 c3 (intR .i64) x2.Keep])) (LS [diskO 59 64 5 F0 b0 x0, T_limnographref18_Disk.obj F1 b1 x1, relR T_limnographlaw18_Act.rep [.int .i64 (x2.Kind), Str (x2.A), Str (x2.B), .int .i64 (x2.N), .int .i64 (x2.Code), .slice A3 (x2.Keep).length c3] x2, slR A3 c3 (intR .i64) x2.Keep]) w116 w116 ([T_limnographref18_Disk.obj F1 b1 x1, relR T_limnographlaw18_Act.rep [.int .i64 (x2.Kind), Str (x2.A), Str (x2.B), .int .i64 (x2.N), .int .i64 (x2.Code), .slice A3 (x2.Keep).length c3] x2, slR A3 c3 (intR .i64) x2.Keep] ++ [diskO 59 64 5 F0 b0 x0]) := hm116.pick [1, 2, 3, 0] rfl (by decide)
        refine RH.cl ck12 3 (by kernel_rfl) rfl rfl rfl rfl (m_disk_Disk_Sync_sim (Z0 := _) _ F0 b0 x0 x2.A hm118.lend e117) ?_
        rintro _ w117 ⟨F117_p0, rfl, hq117⟩
        have hm120 : Hp (Zo Z0 (LS [diskO 59 64 5 F0 b0 x0, T_limnographref18_Disk.obj F1 b1 x1, relR T_limnographlaw18_Act.rep [.int .i64 (x2.Kind), Str (x2.A), Str (x2.B), .int .i64 (x2.N), .int .i64 (x2.Code), .slice A3 (x2.Keep).length c3] x2]) w ([boxR b7 42 [.int .i64 (x2.Kind), Str (x2.A), Str (x2.B), .int .i64 (x2.N), .int .i64 (x2.Code), .slice A3 (x2.Keep).length c3], relR T_limnographlaw18_Act.rep [.int .i64 (x2.Kind), Str (x2.A), Str (x2.B), .int .i64 (x2.N), .int .i64 (x2.Code), .slice A3 (x2.Keep).length c3] x2, slR A3 c3 (intR .i64) x2.Keep] ++ [diskO 59 64 5 F0 b0 x0, T_limnographref18_Disk.obj F1 b1 x1, relR T_limnographlaw18_Act.rep [.int .i64 (x2.Kind), Str (x2.A), Str (x2.B), .int .i64 (x2.N), .int .i64 (x2.Code), .slice A3 (x2.Keep).length c3] x2, slR A3 c3 (intR .i64) x2.Keep])) (LS [diskO 59 64 5 F0 b0 x0, T_limnographref18_Disk.obj F1 b1 x1, relR T_limnographlaw18_Act.rep [.int .i64 (x2.Kind), Str (x2.A), Str (x2.B), .int .i64 (x2.N), .int .i64 (x2.Code), .slice A3 (x2.Keep).length c3] x2, slR A3 c3 (intR .i64) x2.Keep]) w116 w117 [T_limnographref18_Disk.obj F1 b1 x1, relR T_limnographlaw18_Act.rep [.int .i64 (x2.Kind), Str (x2.A), Str (x2.B), .int .i64 (x2.N), .int .i64 (x2.Code), .slice A3 (x2.Keep).length c3] x2, slR A3 c3 (intR .i64) x2.Keep, diskO 59 64 5 F117_p0 b0 p117.2] := hm118.callAZ hq117
        refine ⟨_, rfl, hm120.fr, ?_⟩
        obtain ⟨p121, e121, hM⟩ := bindE hM
        have hm122 : Hp (Zo Z0 (LS [diskO 59 64 5 F0 b0 x0, T_limnographref18_Disk.obj F1 b1 x1, relR T_limnographlaw18_Act.rep [.int .i64 (x2.Kind), Str (x2.A), Str (x2.B), .int .i64 (x2.N), .int .i64 (x2.Code), .slice A3 (x2.Keep).length c3] x2]) w ([boxR b7 42 [.int .i64 (x2.Kind), Str (x2.A), Str (x2.B), .int .i64 (x2.N), .int .i64 (x2.Code), .slice A3 (x2.Keep).length c3], relR T_limnographlaw18_Act.rep [.int .i64 (x2.Kind), Str (x2.A), Str (x2.B), .int .i64 (x2.N), .int .i64 (x2.Code), .slice A3 (x2.Keep).length c3] x2, slR A3 c3 (intR .i64) x2.Keep] ++ [diskO 59 64 5 F0 b0 x0, T_limnographref18_Disk.obj F1 b1 x1, relR T_limnographlaw18_Act.rep [.int .i64 (x2.Kind), Str (x2.A), Str (x2.B), .int .i64 (x2.N), .int .i64 (x2.Code), .slice A3 (x2.Keep).length c3] x2, slR A3 c3 (intR .i64) x2.Keep])) (LS [diskO 59 64 5 F0 b0 x0, T_limnographref18_Disk.obj F1 b1 x1, relR T_limnographlaw18_Act.rep [.int .i64 (x2.Kind), Str (x2.A), Str (x2.B), .int .i64 (x2.N), .int .i64 (x2.Code), .slice A3 (x2.Keep).length c3] x2, slR A3 c3 (intR .i64) x2.Keep]) w116 w117 ([relR T_limnographlaw18_Act.rep [.int .i64 (x2.Kind), Str (x2.A), Str (x2.B), .int .i64 (x2.N), .int .i64 (x2.Code), .slice A3 (x2.Keep).length c3] x2, slR A3 c3 (intR .i64) x2.Keep, diskO 59 64 5 F117_p0 b0 p117.2] ++ [T_limnographref18_Disk.obj F1 b1 x1]) := hm120.pick [1, 2, 3, 0] rfl (by decide)
        refine RH.cl ck35 7 (by kernel_rfl) rfl rfl rfl rfl (m_limnographref18_Disk_Sync_sim (Z0 := _) _ F1 b1 x1 x2.A hm122.lend e121) ?_
        rintro _ w121 ⟨F121_p0, rfl, hq121⟩
        have hm124 : Hp (Zo Z0 (LS [diskO 59 64 5 F0 b0 x0, T_limnographref18_Disk.obj F1 b1 x1, relR T_limnographlaw18_Act.rep [.int .i64 (x2.Kind), Str (x2.A), Str (x2.B), .int .i64 (x2.N), .int .i64 (x2.Code), .slice A3 (x2.Keep).length c3] x2]) w ([boxR b7 42 [.int .i64 (x2.Kind), Str (x2.A), Str (x2.B), .int .i64 (x2.N), .int .i64 (x2.Code), .slice A3 (x2.Keep).length c3], relR T_limnographlaw18_Act.rep [.int .i64 (x2.Kind), Str (x2.A), Str (x2.B), .int .i64 (x2.N), .int .i64 (x2.Code), .slice A3 (x2.Keep).length c3] x2, slR A3 c3 (intR .i64) x2.Keep] ++ [diskO 59 64 5 F0 b0 x0, T_limnographref18_Disk.obj F1 b1 x1, relR T_limnographlaw18_Act.rep [.int .i64 (x2.Kind), Str (x2.A), Str (x2.B), .int .i64 (x2.N), .int .i64 (x2.Code), .slice A3 (x2.Keep).length c3] x2, slR A3 c3 (intR .i64) x2.Keep])) (LS [diskO 59 64 5 F0 b0 x0, T_limnographref18_Disk.obj F1 b1 x1, relR T_limnographlaw18_Act.rep [.int .i64 (x2.Kind), Str (x2.A), Str (x2.B), .int .i64 (x2.N), .int .i64 (x2.Code), .slice A3 (x2.Keep).length c3] x2, slR A3 c3 (intR .i64) x2.Keep]) w116 w121 [relR T_limnographlaw18_Act.rep [.int .i64 (x2.Kind), Str (x2.A), Str (x2.B), .int .i64 (x2.N), .int .i64 (x2.Code), .slice A3 (x2.Keep).length c3] x2, slR A3 c3 (intR .i64) x2.Keep, diskO 59 64 5 F117_p0 b0 p117.2, T_limnographref18_Disk.obj F121_p0 b1 p121.2] := hm122.callAZ hq121
        refine ⟨_, rfl, hm124.fr, ?_⟩
        refine RH.here fun hS8 => RH.one 8 (by kernel_rfl) rfl rfl rfl rfl (V.eql rfl rfl) hS8 ?_
        refine RH.here fun hS9 => RH.one 9 (by kernel_rfl) rfl rfl rfl rfl (V.as rfl) hS9 ?_
        refine RH.doneP (by kernel_rfl) ?_
        have hm125 := hmo116.callAZ hm124
        have hm126 : Hp Z0 (LS [diskO 59 64 5 F0 b0 x0, T_limnographref18_Disk.obj F1 b1 x1, relR T_limnographlaw18_Act.rep [.int .i64 (x2.Kind), Str (x2.A), Str (x2.B), .int .i64 (x2.N), .int .i64 (x2.Code), .slice A3 (x2.Keep).length c3] x2]) w w121 [boxR b7 42 [.int .i64 (x2.Kind), Str (x2.A), Str (x2.B), .int .i64 (x2.N), .int .i64 (x2.Code), .slice A3 (x2.Keep).length c3], relR T_limnographlaw18_Act.rep [.int .i64 (x2.Kind), Str (x2.A), Str (x2.B), .int .i64 (x2.N), .int .i64 (x2.Code), .slice A3 (x2.Keep).length c3] x2, slR A3 c3 (intR .i64) x2.Keep, diskO 59 64 5 F117_p0 b0 p117.2, T_limnographref18_Disk.obj F121_p0 b1 p121.2] := hm125.pick [0, 3, 4, 5, 6] rfl (by decide)
        refine Rn.retG1 Try.func14 rfl (rvT rfl) ?_
        obtain rfl := someE hM
        exact ⟨F117_p0, F121_p0, rfl, hm126.pick [3, 4] rfl (by decide)⟩
      · replace hM := iteF h109 hM
        refine Rn.seq (Rn.reg (Rn.v rfl rfl rfl rfl (V.eql rfl rfl) (Rn.v rfl rfl rfl rfl (V.as rfl) (Rn.regEnd ?_))))
        refine Rn.condD rfl (fun h127 => ?_) (fun h127 => ?_)
        · replace hM := iteT h127 hM
          refine Rn.seq ?_
          have hm129 := hm9.dup 2 rfl (fun _ h => h)
          have hm131 := hm129.dup 3 rfl (fun _ h => h)
          have hm133 : Hp Z0 (LS [diskO 59 64 5 F0 b0 x0, T_limnographref18_Disk.obj F1 b1 x1, relR T_limnographlaw18_Act.rep [.int .i64 (x2.Kind), Str (x2.A), Str (x2.B), .int .i64 (x2.N), .int .i64 (x2.Code), .slice A3 (x2.Keep).length c3] x2]) w w7 ([boxR b7 42 [.int .i64 (x2.Kind), Str (x2.A), Str (x2.B), .int .i64 (x2.N), .int .i64 (x2.Code), .slice A3 (x2.Keep).length c3], relR T_limnographlaw18_Act.rep [.int .i64 (x2.Kind), Str (x2.A), Str (x2.B), .int .i64 (x2.N), .int .i64 (x2.Code), .slice A3 (x2.Keep).length c3] x2, slR A3 c3 (intR .i64) x2.Keep] ++ [diskO 59 64 5 F0 b0 x0, T_limnographref18_Disk.obj F1 b1 x1, relR T_limnographlaw18_Act.rep [.int .i64 (x2.Kind), Str (x2.A), Str (x2.B), .int .i64 (x2.N), .int .i64 (x2.Code), .slice A3 (x2.Keep).length c3] x2, slR A3 c3 (intR .i64) x2.Keep]) := hm131.pick [4, 5, 6, 0, 1, 2, 3] rfl (by decide)
          refine Rn.drawF rfl hm133 ?_
          intro w134 hmo134 hm134
          refine RH.take 0 (by kernel_rfl) rfl rfl rfl rfl (fun w' hDr => V.mv rfl) ?_
          refine RH.take 1 (by kernel_rfl) rfl rfl rfl rfl (fun w' hDr => V.fa Try.underlying42 rfl Try.sizeOf9 rfl rfl) ?_
          refine RH.take 2 (by kernel_rfl) rfl rfl rfl rfl (fun w' hDr => V.ldB Try.isAgg9 rfl ((hmo134.awayK hDr).get 0 rfl) rfl) ?_
          refine RH.take 3 (by kernel_rfl) rfl rfl rfl rfl (fun w' hDr => V.fa Try.underlying42 rfl Try.sizeOf3 rfl rfl) ?_
          refine RH.take 4 (by kernel_rfl) rfl rfl rfl rfl (fun w' hDr => V.ldB Try.isAgg3 rfl ((hmo134.awayK hDr).get 0 rfl) rfl) ?_
          refine RH.take 6 (by kernel_rfl) rfl rfl rfl rfl (fun w' hDr => V.mv rfl) ?_
          refine RH.take 7 (by kernel_rfl) rfl rfl rfl rfl (fun w' hDr => V.fa Try.underlying42 rfl Try.sizeOf9 rfl rfl) ?_
          refine RH.take 8 (by kernel_rfl) rfl rfl rfl rfl (fun w' hDr => V.ldB Try.isAgg9 rfl ((hmo134.awayK hDr).get 0 rfl) rfl) ?_
          refine RH.take 9 (by kernel_rfl) rfl rfl rfl rfl (fun w' hDr => V.fa Try.underlying42 rfl Try.sizeOf3 rfl rfl) ?_
          refine RH.take 10 (by kernel_rfl) rfl rfl rfl rfl (fun w' hDr => V.ldB Try.isAgg3 rfl ((hmo134.awayK hDr).get 0 rfl) rfl) ?_
          obtain ⟨p135, e135, hM⟩ := bindE hM
          have hm136 : Hp (Zo Z0 (LS [diskO 59 64 5 F0 b0 x0, T_limnographref18_Disk.obj F1 b1 x1, relR T_limnographlaw18_Act.rep [.int .i64 (x2.Kind), Str (x2.A), Str (x2.B), .int .i64 (x2.N), .int .i64 (x2.Code), .slice A3 (x2.Keep).length c3] x2]) w ([boxR b7 42 [.int .i64 (x2.Kind), Str (x2.A), Str (x2.B), .int .i64 (x2.N), .int .i64 (x2.Code), .slice A3 (x2.Keep).length c3], relR T_limnographlaw18_Act.rep [.int .i64 (x2.Kind), Str (x2.A), Str (x2.B), .int .i64 (x2.N), .int .i64 (x2.Code), .slice A3 (x2.Keep).length c3] x2, slR A3 c3 (intR .i64) x2.Keep] ++ [diskO 59 64 5 F0 b0 x0, T_limnographref18_Disk.obj F1 b1 x1, relR T_limnographlaw18_Act.rep [.int .i64 (x2.Kind), Str (x2.A), Str (x2.B), .int .i64 (x2.N), .int .i64 (x2.Code), .slice A3 (x2.Keep).length c3] x2, slR A3 c3 (intR .i64) x2.Keep])) (LS [diskO 59 64 5 F0 b0 x0, T_limnographref18_Disk.obj F1 b1 x1, relR T_limnographlaw18_Act.rep [.int .i64 (x2.Kind), Str (x2.A), Str (x2.B), .int .i64 (x2.N), .int .i64 (x2.Code), .slice A3 (x2.Keep).length c3] x2, slR A3 c3 (intR .i64) x2.Keep]) w134 w134 ([T_limnographref18_Disk.obj F1 b1 x1, relR T_limnographlaw18_Act.rep [.int .i64 (x2.Kind), Str (x2.A), Str (x2.B), .int .i64 (x2.N), .int .i64 (x2.Code), .slice A3 (x2.Keep).length c3] x2, slR A3 c3 (intR .i64) x2.Keep] ++ [diskO 59 64 5 F0 b0 x0]) := hm134.pick [1, 2, 3, 0] rfl (by decide)
          refine RH.cl ck36 5 (by kernel_rfl) rfl rfl rfl rfl (m_disk_Disk_Cut_sim (Z0 := _) _ F0 b0 x0 x2.A x2.N hm136.lend e135) ?_
          rintro _ w135 ⟨F135_p0, rfl, hq135⟩
          have hm138 : Hp (Zo Z0 (LS [diskO 59 64 5 F0 b0 x0, T_limnographref18_Disk.obj F1 b1 x1, relR T_limnographlaw18_Act.rep [.int .i64 (x2.Kind), Str (x2.A), Str (x2.B), .int .i64 (x2.N), .int .i64 (x2.Code), .slice A3 (x2.Keep).length c3] x2]) w ([boxR b7 42 [.int .i64 (x2.Kind), Str (x2.A), Str (x2.B), .int .i64 (x2.N), .int .i64 (x2.Code), .slice A3 (x2.Keep).length c3], relR T_limnographlaw18_Act.rep [.int .i64 (x2.Kind), Str (x2.A), Str (x2.B), .int .i64 (x2.N), .int .i64 (x2.Code), .slice A3 (x2.Keep).length c3] x2, slR A3 c3 (intR .i64) x2.Keep] ++ [diskO 59 64 5 F0 b0 x0, T_limnographref18_Disk.obj F1 b1 x1, relR T_limnographlaw18_Act.rep [.int .i64 (x2.Kind), Str (x2.A), Str (x2.B), .int .i64 (x2.N), .int .i64 (x2.Code), .slice A3 (x2.Keep).length c3] x2, slR A3 c3 (intR .i64) x2.Keep])) (LS [diskO 59 64 5 F0 b0 x0, T_limnographref18_Disk.obj F1 b1 x1, relR T_limnographlaw18_Act.rep [.int .i64 (x2.Kind), Str (x2.A), Str (x2.B), .int .i64 (x2.N), .int .i64 (x2.Code), .slice A3 (x2.Keep).length c3] x2, slR A3 c3 (intR .i64) x2.Keep]) w134 w135 [T_limnographref18_Disk.obj F1 b1 x1, relR T_limnographlaw18_Act.rep [.int .i64 (x2.Kind), Str (x2.A), Str (x2.B), .int .i64 (x2.N), .int .i64 (x2.Code), .slice A3 (x2.Keep).length c3] x2, slR A3 c3 (intR .i64) x2.Keep, diskO 59 64 5 F135_p0 b0 p135.2] := hm136.callAZ hq135
          refine ⟨_, rfl, hm138.fr, ?_⟩
          obtain ⟨p139, e139, hM⟩ := bindE hM
          have hm140 : Hp (Zo Z0 (LS [diskO 59 64 5 F0 b0 x0, T_limnographref18_Disk.obj F1 b1 x1, relR T_limnographlaw18_Act.rep [.int .i64 (x2.Kind), Str (x2.A), Str (x2.B), .int .i64 (x2.N), .int .i64 (x2.Code), .slice A3 (x2.Keep).length c3] x2]) w ([boxR b7 42 [.int .i64 (x2.Kind), Str (x2.A), Str (x2.B), .int .i64 (x2.N), .int .i64 (x2.Code), .slice A3 (x2.Keep).length c3], relR T_limnographlaw18_Act.rep [.int .i64 (x2.Kind), Str (x2.A), Str (x2.B), .int .i64 (x2.N), .int .i64 (x2.Code), .slice A3 (x2.Keep).length c3] x2, slR A3 c3 (intR .i64) x2.Keep] ++ [diskO 59 64 5 F0 b0 x0, T_limnographref18_Disk.obj F1 b1 x1, relR T_limnographlaw18_Act.rep [.int .i64 (x2.Kind), Str (x2.A), Str (x2.B), .int .i64 (x2.N), .int .i64 (x2.Code), .slice A3 (x2.Keep).length c3] x2, slR A3 c3 (intR .i64) x2.Keep])) (LS [diskO 59 64 5 F0 b0 x0, T_limnographref18_Disk.obj F1 b1 x1, relR T_limnographlaw18_Act.rep [.int .i64 (x2.Kind), Str (x2.A), Str (x2.B), .int .i64 (x2.N), .int .i64 (x2.Code), .slice A3 (x2.Keep).length c3] x2, slR A3 c3 (intR .i64) x2.Keep]) w134 w135 ([relR T_limnographlaw18_Act.rep [.int .i64 (x2.Kind), Str (x2.A), Str (x2.B), .int .i64 (x2.N), .int .i64 (x2.Code), .slice A3 (x2.Keep).length c3] x2, slR A3 c3 (intR .i64) x2.Keep, diskO 59 64 5 F135_p0 b0 p135.2] ++ [T_limnographref18_Disk.obj F1 b1 x1]) := hm138.pick [1, 2, 3, 0] rfl (by decide)
          refine RH.cl ck37 11 (by kernel_rfl) rfl rfl rfl rfl (m_limnographref18_Disk_Cut_sim (Z0 := _) _ F1 b1 x1 x2.A x2.N hm140.lend e139) ?_
          rintro _ w139 ⟨F139_p0, rfl, hq139⟩
          have hm142 : Hp (Zo Z0 (LS [diskO 59 64 5 F0 b0 x0, T_limnographref18_Disk.obj F1 b1 x1, relR T_limnographlaw18_Act.rep [.int .i64 (x2.Kind), Str (x2.A), Str (x2.B), .int .i64 (x2.N), .int .i64 (x2.Code), .slice A3 (x2.Keep).length c3] x2]) w ([boxR b7 42 [.int .i64 (x2.Kind), Str (x2.A), Str (x2.B), .int .i64 (x2.N), .int .i64 (x2.Code), .slice A3 (x2.Keep).length c3], relR T_limnographlaw18_Act.rep [.int .i64 (x2.Kind), Str (x2.A), Str (x2.B), .int .i64 (x2.N), .int .i64 (x2.Code), .slice A3 (x2.Keep).length c3] x2, slR A3 c3 (intR .i64) x2.Keep] ++ [diskO 59 64 5 F0 b0 x0, T_limnographref18_Disk.obj F1 b1 x1, relR T_limnographlaw18_Act.rep [.int .i64 (x2.Kind), Str (x2.A), Str (x2.B), .int .i64 (x2.N), .int .i64 (x2.Code), .slice A3 (x2.Keep).length c3] x2, slR A3 c3 (intR .i64) x2.Keep])) (LS [diskO 59 64 5 F0 b0 x0, T_limnographref18_Disk.obj F1 b1 x1, relR T_limnographlaw18_Act.rep [.int .i64 (x2.Kind), Str (x2.A), Str (x2.B), .int .i64 (x2.N), .int .i64 (x2.Code), .slice A3 (x2.Keep).length c3] x2, slR A3 c3 (intR .i64) x2.Keep]) w134 w139 [relR T_limnographlaw18_Act.rep [.int .i64 (x2.Kind), Str (x2.A), Str (x2.B), .int .i64 (x2.N), .int .i64 (x2.Code), .slice A3 (x2.Keep).length c3] x2, slR A3 c3 (intR .i64) x2.Keep, diskO 59 64 5 F135_p0 b0 p135.2, T_limnographref18_Disk.obj F139_p0 b1 p139.2] := hm140.callAZ hq139
          refine ⟨_, rfl, hm142.fr, ?_⟩
          refine RH.here fun hS12 => RH.one 12 (by kernel_rfl) rfl rfl rfl rfl (V.eql rfl rfl) hS12 ?_
          refine RH.here fun hS13 => RH.one 13 (by kernel_rfl) rfl rfl rfl rfl (V.as rfl) hS13 ?_
          refine RH.doneP (by kernel_rfl) ?_
          have hm143 := hmo134.callAZ hm142
          have hm144 : Hp Z0 (LS [diskO 59 64 5 F0 b0 x0, T_limnographref18_Disk.obj F1 b1 x1, relR T_limnographlaw18_Act.rep [.int .i64 (x2.Kind), Str (x2.A), Str (x2.B), .int .i64 (x2.N), .int .i64 (x2.Code), .slice A3 (x2.Keep).length c3] x2]) w w139 [boxR b7 42 [.int .i64 (x2.Kind), Str (x2.A), Str (x2.B), .int .i64 (x2.N), .int .i64 (x2.Code), .slice A3 (x2.Keep).length c3], relR T_limnographlaw18_Act.rep [.int .i64 (x2.Kind), Str (x2.A), Str (x2.B), .int .i64 (x2.N), .int .i64 (x2.Code), .slice A3 (x2.Keep).length c3] x2, slR A3 c3 (intR .i64) x2.Keep, diskO 59 64 5 F135_p0 b0 p135.2, T_limnographref18_Disk.obj F139_p0 b1 p139.2] := hm143.pick [0, 3, 4, 5, 6] rfl (by decide)
          refine Rn.retG1 Try.func14 rfl (rvT rfl) ?_
          obtain rfl := someE hM
          exact ⟨F135_p0, F139_p0, rfl, hm144.pick [3, 4] rfl (by decide)⟩
        · replace hM := iteF h127 hM
          refine Rn.seq (Rn.reg (Rn.v rfl rfl rfl rfl (V.eql rfl rfl) (Rn.v rfl rfl rfl rfl (V.as rfl) (Rn.regEnd ?_))))
          refine Rn.condD rfl (fun h145 => ?_) (fun h145 => ?_)
          · replace hM := iteT h145 hM
            refine Rn.seq ?_
            have hm147 := hm9.dup 2 rfl (fun _ h => h)
            have hm149 := hm147.dup 3 rfl (fun _ h => h)
            have hm151 : Hp Z0 (LS [diskO 59 64 5 F0 b0 x0, T_limnographref18_Disk.obj F1 b1 x1, relR T_limnographlaw18_Act.rep [.int .i64 (x2.Kind), Str (x2.A), Str (x2.B), .int .i64 (x2.N), .int .i64 (x2.Code), .slice A3 (x2.Keep).length c3] x2]) w w7 ([boxR b7 42 [.int .i64 (x2.Kind), Str (x2.A), Str (x2.B), .int .i64 (x2.N), .int .i64 (x2.Code), .slice A3 (x2.Keep).length c3], relR T_limnographlaw18_Act.rep [.int .i64 (x2.Kind), Str (x2.A), Str (x2.B), .int .i64 (x2.N), .int .i64 (x2.Code), .slice A3 (x2.Keep).length c3] x2, slR A3 c3 (intR .i64) x2.Keep] ++ [diskO 59 64 5 F0 b0 x0, T_limnographref18_Disk.obj F1 b1 x1, relR T_limnographlaw18_Act.rep [.int .i64 (x2.Kind), Str (x2.A), Str (x2.B), .int .i64 (x2.N), .int .i64 (x2.Code), .slice A3 (x2.Keep).length c3] x2, slR A3 c3 (intR .i64) x2.Keep]) := hm149.pick [4, 5, 6, 0, 1, 2, 3] rfl (by decide)
            refine Rn.drawF rfl hm151 ?_
            intro w152 hmo152 hm152
            refine RH.take 0 (by kernel_rfl) rfl rfl rfl rfl (fun w' hDr => V.mv rfl) ?_
            refine RH.take 1 (by kernel_rfl) rfl rfl rfl rfl (fun w' hDr => V.fa Try.underlying42 rfl Try.sizeOf9 rfl rfl) ?_
            refine RH.take 2 (by kernel_rfl) rfl rfl rfl rfl (fun w' hDr => V.ldB Try.isAgg9 rfl ((hmo152.awayK hDr).get 0 rfl) rfl) ?_
            refine RH.take 3 (by kernel_rfl) rfl rfl rfl rfl (fun w' hDr => V.fa Try.underlying42 rfl Try.sizeOf9 rfl rfl) ?_
            refine RH.take 4 (by kernel_rfl) rfl rfl rfl rfl (fun w' hDr => V.ldB Try.isAgg9 rfl ((hmo152.awayK hDr).get 0 rfl) rfl) ?_
            refine RH.take 6 (by kernel_rfl) rfl rfl rfl rfl (fun w' hDr => V.mv rfl) ?_
            refine RH.take 7 (by kernel_rfl) rfl rfl rfl rfl (fun w' hDr => V.fa Try.underlying42 rfl Try.sizeOf9 rfl rfl) ?_
            refine RH.take 8 (by kernel_rfl) rfl rfl rfl rfl (fun w' hDr => V.ldB Try.isAgg9 rfl ((hmo152.awayK hDr).get 0 rfl) rfl) ?_
            refine RH.take 9 (by kernel_rfl) rfl rfl rfl rfl (fun w' hDr => V.fa Try.underlying42 rfl Try.sizeOf9 rfl rfl) ?_
            refine RH.take 10 (by kernel_rfl) rfl rfl rfl rfl (fun w' hDr => V.ldB Try.isAgg9 rfl ((hmo152.awayK hDr).get 0 rfl) rfl) ?_
            obtain ⟨p153, e153, hM⟩ := bindE hM
            have hm154 : Hp (Zo Z0 (LS [diskO 59 64 5 F0 b0 x0, T_limnographref18_Disk.obj F1 b1 x1, relR T_limnographlaw18_Act.rep [.int .i64 (x2.Kind), Str (x2.A), Str (x2.B), .int .i64 (x2.N), .int .i64 (x2.Code), .slice A3 (x2.Keep).length c3] x2]) w ([boxR b7 42 [.int .i64 (x2.Kind), Str (x2.A), Str (x2.B), .int .i64 (x2.N), .int .i64 (x2.Code), .slice A3 (x2.Keep).length c3], relR T_limnographlaw18_Act.rep [.int .i64 (x2.Kind), Str (x2.A), Str (x2.B), .int .i64 (x2.N), .int .i64 (x2.Code), .slice A3 (x2.Keep).length c3] x2, slR A3 c3 (intR .i64) x2.Keep] ++ [diskO 59 64 5 F0 b0 x0, T_limnographref18_Disk.obj F1 b1 x1, relR T_limnographlaw18_Act.rep [.int .i64 (x2.Kind), Str (x2.A), Str (x2.B), .int .i64 (x2.N), .int .i64 (x2.Code), .slice A3 (x2.Keep).length c3] x2, slR A3 c3 (intR .i64) x2.Keep])) (LS [diskO 59 64 5 F0 b0 x0, T_limnographref18_Disk.obj F1 b1 x1, relR T_limnographlaw18_Act.rep [.int .i64 (x2.Kind), Str (x2.A), Str (x2.B), .int .i64 (x2.N), .int .i64 (x2.Code), .slice A3 (x2.Keep).length c3] x2, slR A3 c3 (intR .i64) x2.Keep]) w152 w152 ([T_limnographref18_Disk.obj F1 b1 x1, relR T_limnographlaw18_Act.rep [.int .i64 (x2.Kind), Str (x2.A), Str (x2.B), .int .i64 (x2.N), .int .i64 (x2.Code), .slice A3 (x2.Keep).length c3] x2, slR A3 c3 (intR .i64) x2.Keep] ++ [diskO 59 64 5 F0 b0 x0]) := hm152.pick [1, 2, 3, 0] rfl (by decide)
            refine RH.cl ck38 5 (by kernel_rfl) rfl rfl rfl rfl (m_disk_Disk_Rename_sim (Z0 := _) _ F0 b0 x0 x2.A x2.B hm154.lend e153) ?_
            rintro _ w153 ⟨F153_p0, rfl, hq153⟩
            have hm156 : Hp (Zo Z0 (LS [diskO 59 64 5 F0 b0 x0, T_limnographref18_Disk.obj F1 b1 x1, relR T_limnographlaw18_Act.rep [.int .i64 (x2.Kind), Str (x2.A), Str (x2.B), .int .i64 (x2.N), .int .i64 (x2.Code), .slice A3 (x2.Keep).length c3] x2]) w ([boxR b7 42 [.int .i64 (x2.Kind), Str (x2.A), Str (x2.B), .int .i64 (x2.N), .int .i64 (x2.Code), .slice A3 (x2.Keep).length c3], relR T_limnographlaw18_Act.rep [.int .i64 (x2.Kind), Str (x2.A), Str (x2.B), .int .i64 (x2.N), .int .i64 (x2.Code), .slice A3 (x2.Keep).length c3] x2, slR A3 c3 (intR .i64) x2.Keep] ++ [diskO 59 64 5 F0 b0 x0, T_limnographref18_Disk.obj F1 b1 x1, relR T_limnographlaw18_Act.rep [.int .i64 (x2.Kind), Str (x2.A), Str (x2.B), .int .i64 (x2.N), .int .i64 (x2.Code), .slice A3 (x2.Keep).length c3] x2, slR A3 c3 (intR .i64) x2.Keep])) (LS [diskO 59 64 5 F0 b0 x0, T_limnographref18_Disk.obj F1 b1 x1, relR T_limnographlaw18_Act.rep [.int .i64 (x2.Kind), Str (x2.A), Str (x2.B), .int .i64 (x2.N), .int .i64 (x2.Code), .slice A3 (x2.Keep).length c3] x2, slR A3 c3 (intR .i64) x2.Keep]) w152 w153 [T_limnographref18_Disk.obj F1 b1 x1, relR T_limnographlaw18_Act.rep [.int .i64 (x2.Kind), Str (x2.A), Str (x2.B), .int .i64 (x2.N), .int .i64 (x2.Code), .slice A3 (x2.Keep).length c3] x2, slR A3 c3 (intR .i64) x2.Keep, diskO 59 64 5 F153_p0 b0 p153.2] := hm154.callAZ hq153
            refine ⟨_, rfl, hm156.fr, ?_⟩
            obtain ⟨p157, e157, hM⟩ := bindE hM
            have hm158 : Hp (Zo Z0 (LS [diskO 59 64 5 F0 b0 x0, T_limnographref18_Disk.obj F1 b1 x1, relR T_limnographlaw18_Act.rep [.int .i64 (x2.Kind), Str (x2.A), Str (x2.B), .int .i64 (x2.N), .int .i64 (x2.Code), .slice A3 (x2.Keep).length c3] x2]) w ([boxR b7 42 [.int .i64 (x2.Kind), Str (x2.A), Str (x2.B), .int .i64 (x2.N), .int .i64 (x2.Code), .slice A3 (x2.Keep).length c3], relR T_limnographlaw18_Act.rep [.int .i64 (x2.Kind), Str (x2.A), Str (x2.B), .int .i64 (x2.N), .int .i64 (x2.Code), .slice A3 (x2.Keep).length c3] x2, slR A3 c3 (intR .i64) x2.Keep] ++ [diskO 59 64 5 F0 b0 x0, T_limnographref18_Disk.obj F1 b1 x1, relR T_limnographlaw18_Act.rep [.int .i64 (x2.Kind), Str (x2.A), Str (x2.B), .int .i64 (x2.N), .int .i64 (x2.Code), .slice A3 (x2.Keep).length c3] x2, slR A3 c3 (intR .i64) x2.Keep])) (LS [diskO 59 64 5 F0 b0 x0, T_limnographref18_Disk.obj F1 b1 x1, relR T_limnographlaw18_Act.rep [.int .i64 (x2.Kind), Str (x2.A), Str (x2.B), .int .i64 (x2.N), .int .i64 (x2.Code), .slice A3 (x2.Keep).length c3] x2, slR A3 c3 (intR .i64) x2.Keep]) w152 w153 ([relR T_limnographlaw18_Act.rep [.int .i64 (x2.Kind), Str (x2.A), Str (x2.B), .int .i64 (x2.N), .int .i64 (x2.Code), .slice A3 (x2.Keep).length c3] x2, slR A3 c3 (intR .i64) x2.Keep, diskO 59 64 5 F153_p0 b0 p153.2] ++ [T_limnographref18_Disk.obj F1 b1 x1]) := hm156.pick [1, 2, 3, 0] rfl (by decide)
            refine RH.cl ck39 11 (by kernel_rfl) rfl rfl rfl rfl (m_limnographref18_Disk_Rename_sim (Z0 := _) _ F1 b1 x1 x2.A x2.B hm158.lend e157) ?_
            rintro _ w157 ⟨F157_p0, rfl, hq157⟩
            have hm160 : Hp (Zo Z0 (LS [diskO 59 64 5 F0 b0 x0, T_limnographref18_Disk.obj F1 b1 x1, relR T_limnographlaw18_Act.rep [.int .i64 (x2.Kind), Str (x2.A), Str (x2.B), .int .i64 (x2.N), .int .i64 (x2.Code), .slice A3 (x2.Keep).length c3] x2]) w ([boxR b7 42 [.int .i64 (x2.Kind), Str (x2.A), Str (x2.B), .int .i64 (x2.N), .int .i64 (x2.Code), .slice A3 (x2.Keep).length c3], relR T_limnographlaw18_Act.rep [.int .i64 (x2.Kind), Str (x2.A), Str (x2.B), .int .i64 (x2.N), .int .i64 (x2.Code), .slice A3 (x2.Keep).length c3] x2, slR A3 c3 (intR .i64) x2.Keep] ++ [diskO 59 64 5 F0 b0 x0, T_limnographref18_Disk.obj F1 b1 x1, relR T_limnographlaw18_Act.rep [.int .i64 (x2.Kind), Str (x2.A), Str (x2.B), .int .i64 (x2.N), .int .i64 (x2.Code), .slice A3 (x2.Keep).length c3] x2, slR A3 c3 (intR .i64) x2.Keep])) (LS [diskO 59 64 5 F0 b0 x0, T_limnographref18_Disk.obj F1 b1 x1, relR T_limnographlaw18_Act.rep [.int .i64 (x2.Kind), Str (x2.A), Str (x2.B), .int .i64 (x2.N), .int .i64 (x2.Code), .slice A3 (x2.Keep).length c3] x2, slR A3 c3 (intR .i64) x2.Keep]) w152 w157 [relR T_limnographlaw18_Act.rep [.int .i64 (x2.Kind), Str (x2.A), Str (x2.B), .int .i64 (x2.N), .int .i64 (x2.Code), .slice A3 (x2.Keep).length c3] x2, slR A3 c3 (intR .i64) x2.Keep, diskO 59 64 5 F153_p0 b0 p153.2, T_limnographref18_Disk.obj F157_p0 b1 p157.2] := hm158.callAZ hq157
            refine ⟨_, rfl, hm160.fr, ?_⟩
            refine RH.here fun hS12 => RH.one 12 (by kernel_rfl) rfl rfl rfl rfl (V.eql rfl rfl) hS12 ?_
            refine RH.here fun hS13 => RH.one 13 (by kernel_rfl) rfl rfl rfl rfl (V.as rfl) hS13 ?_
            refine RH.doneP (by kernel_rfl) ?_
            have hm161 := hmo152.callAZ hm160
            have hm162 : Hp Z0 (LS [diskO 59 64 5 F0 b0 x0, T_limnographref18_Disk.obj F1 b1 x1, relR T_limnographlaw18_Act.rep [.int .i64 (x2.Kind), Str (x2.A), Str (x2.B), .int .i64 (x2.N), .int .i64 (x2.Code), .slice A3 (x2.Keep).length c3] x2]) w w157 [boxR b7 42 [.int .i64 (x2.Kind), Str (x2.A), Str (x2.B), .int .i64 (x2.N), .int .i64 (x2.Code), .slice A3 (x2.Keep).length c3], relR T_limnographlaw18_Act.rep [.int .i64 (x2.Kind), Str (x2.A), Str (x2.B), .int .i64 (x2.N), .int .i64 (x2.Code), .slice A3 (x2.Keep).length c3] x2, slR A3 c3 (intR .i64) x2.Keep, diskO 59 64 5 F153_p0 b0 p153.2, T_limnographref18_Disk.obj F157_p0 b1 p157.2] := hm161.pick [0, 3, 4, 5, 6] rfl (by decide)
            refine Rn.retG1 Try.func14 rfl (rvT rfl) ?_
            obtain rfl := someE hM
            exact ⟨F153_p0, F157_p0, rfl, hm162.pick [3, 4] rfl (by decide)⟩
          · replace hM := iteF h145 hM
            refine Rn.seq (Rn.reg (Rn.v rfl rfl rfl rfl (V.eql rfl rfl) (Rn.v rfl rfl rfl rfl (V.as rfl) (Rn.regEnd ?_))))
            refine Rn.condD rfl (fun h163 => ?_) (fun h163 => ?_)
            · replace hM := iteT h163 hM
              refine Rn.seq ?_
              have hm165 := hm9.dup 2 rfl (fun _ h => h)
              have hm167 := hm165.dup 3 rfl (fun _ h => h)
              have hm169 : Hp Z0 (LS [diskO 59 64 5 F0 b0 x0, T_limnographref18_Disk.obj F1 b1 x1, relR T_limnographlaw18_Act.rep [.int .i64 (x2.Kind), Str (x2.A), Str (x2.B), .int .i64 (x2.N), .int .i64 (x2.Code), .slice A3 (x2.Keep).length c3] x2]) w w7 ([boxR b7 42 [.int .i64 (x2.Kind), Str (x2.A), Str (x2.B), .int .i64 (x2.N), .int .i64 (x2.Code), .slice A3 (x2.Keep).length c3], relR T_limnographlaw18_Act.rep [.int .i64 (x2.Kind), Str (x2.A), Str (x2.B), .int .i64 (x2.N), .int .i64 (x2.Code), .slice A3 (x2.Keep).length c3] x2, slR A3 c3 (intR .i64) x2.Keep] ++ [diskO 59 64 5 F0 b0 x0, T_limnographref18_Disk.obj F1 b1 x1, relR T_limnographlaw18_Act.rep [.int .i64 (x2.Kind), Str (x2.A), Str (x2.B), .int .i64 (x2.N), .int .i64 (x2.Code), .slice A3 (x2.Keep).length c3] x2, slR A3 c3 (intR .i64) x2.Keep]) := hm167.pick [4, 5, 6, 0, 1, 2, 3] rfl (by decide)
              refine Rn.drawF rfl hm169 ?_
              intro w170 hmo170 hm170
              refine RH.take 0 (by kernel_rfl) rfl rfl rfl rfl (fun w' hDr => V.mv rfl) ?_
              refine RH.take 1 (by kernel_rfl) rfl rfl rfl rfl (fun w' hDr => V.fa Try.underlying42 rfl Try.sizeOf9 rfl rfl) ?_
              refine RH.take 2 (by kernel_rfl) rfl rfl rfl rfl (fun w' hDr => V.ldB Try.isAgg9 rfl ((hmo170.awayK hDr).get 0 rfl) rfl) ?_
              refine RH.take 4 (by kernel_rfl) rfl rfl rfl rfl (fun w' hDr => V.mv rfl) ?_
              refine RH.take 5 (by kernel_rfl) rfl rfl rfl rfl (fun w' hDr => V.fa Try.underlying42 rfl Try.sizeOf9 rfl rfl) ?_
              refine RH.take 6 (by kernel_rfl) rfl rfl rfl rfl (fun w' hDr => V.ldB Try.isAgg9 rfl ((hmo170.awayK hDr).get 0 rfl) rfl) ?_
              obtain ⟨p171, e171, hM⟩ := bindE hM
              have hm172 : Hp (Zo Z0 (LS [diskO 59 64 5 F0 b0 x0, T_limnographref18_Disk.obj F1 b1 x1, relR T_limnographlaw18_Act.rep [.int .i64 (x2.Kind), Str (x2.A), Str (x2.B), .int .i64 (x2.N), .int .i64 (x2.Code), .slice A3 (x2.Keep).length c3] x2]) w ([boxR b7 42 [.int .i64 (x2.Kind), Str (x2.A), Str (x2.B), .int .i64 (x2.N), .int .i64 (x2.Code), .slice A3 (x2.Keep).length c3], relR T_limnographlaw18_Act.rep [.int .i64 (x2.Kind), Str (x2.A), Str (x2.B), .int .i64 (x2.N), .int .i64 (x2.Code), .slice A3 (x2.Keep).length c3] x2, slR A3 c3 (intR .i64) x2.Keep] ++ [diskO 59 64 5 F0 b0 x0, T_limnographref18_Disk.obj F1 b1 x1, relR T_limnographlaw18_Act.rep [.int .i64 (x2.Kind), Str (x2.A), Str (x2.B), .int .i64 (x2.N), .int .i64 (x2.Code), .slice A3 (x2.Keep).length c3] x2, slR A3 c3 (intR .i64) x2.Keep])) (LS [diskO 59 64 5 F0 b0 x0, T_limnographref18_Disk.obj F1 b1 x1, relR T_limnographlaw18_Act.rep [.int .i64 (x2.Kind), Str (x2.A), Str (x2.B), .int .i64 (x2.N), .int .i64 (x2.Code), .slice A3 (x2.Keep).length c3] x2, slR A3 c3 (intR .i64) x2.Keep]) w170 w170 ([T_limnographref18_Disk.obj F1 b1 x1, relR T_limnographlaw18_Act.rep [.int .i64 (x2.Kind), Str (x2.A), Str (x2.B), .int .i64 (x2.N), .int .i64 (x2.Code), .slice A3 (x2.Keep).length c3] x2, slR A3 c3 (intR .i64) x2.Keep] ++ [diskO 59 64 5 F0 b0 x0]) := hm170.pick [1, 2, 3, 0] rfl (by decide)
              refine RH.cl ck40 3 (by kernel_rfl) rfl rfl rfl rfl (m_disk_Disk_Remove_sim (Z0 := _) _ F0 b0 x0 x2.A hm172.lend e171) ?_
              rintro _ w171 ⟨F171_p0, rfl, hq171⟩
              have hm174 : Hp (Zo Z0 (LS [diskO 59 64 5 F0 b0 x0, T_limnographref18_Disk.obj F1 b1 x1, relR T_limnographlaw18_Act.rep [.int .i64 (x2.Kind), Str (x2.A), Str (x2.B), .int .i64 (x2.N), .int .i64 (x2.Code), .slice A3 (x2.Keep).length c3] x2]) w ([boxR b7 42 [.int .i64 (x2.Kind), Str (x2.A), Str (x2.B), .int .i64 (x2.N), .int .i64 (x2.Code), .slice A3 (x2.Keep).length c3], relR T_limnographlaw18_Act.rep [.int .i64 (x2.Kind), Str (x2.A), Str (x2.B), .int .i64 (x2.N), .int .i64 (x2.Code), .slice A3 (x2.Keep).length c3] x2, slR A3 c3 (intR .i64) x2.Keep] ++ [diskO 59 64 5 F0 b0 x0, T_limnographref18_Disk.obj F1 b1 x1, relR T_limnographlaw18_Act.rep [.int .i64 (x2.Kind), Str (x2.A), Str (x2.B), .int .i64 (x2.N), .int .i64 (x2.Code), .slice A3 (x2.Keep).length c3] x2, slR A3 c3 (intR .i64) x2.Keep])) (LS [diskO 59 64 5 F0 b0 x0, T_limnographref18_Disk.obj F1 b1 x1, relR T_limnographlaw18_Act.rep [.int .i64 (x2.Kind), Str (x2.A), Str (x2.B), .int .i64 (x2.N), .int .i64 (x2.Code), .slice A3 (x2.Keep).length c3] x2, slR A3 c3 (intR .i64) x2.Keep]) w170 w171 [T_limnographref18_Disk.obj F1 b1 x1, relR T_limnographlaw18_Act.rep [.int .i64 (x2.Kind), Str (x2.A), Str (x2.B), .int .i64 (x2.N), .int .i64 (x2.Code), .slice A3 (x2.Keep).length c3] x2, slR A3 c3 (intR .i64) x2.Keep, diskO 59 64 5 F171_p0 b0 p171.2] := hm172.callAZ hq171
              refine ⟨_, rfl, hm174.fr, ?_⟩
              obtain ⟨p175, e175, hM⟩ := bindE hM
              have hm176 : Hp (Zo Z0 (LS [diskO 59 64 5 F0 b0 x0, T_limnographref18_Disk.obj F1 b1 x1, relR T_limnographlaw18_Act.rep [.int .i64 (x2.Kind), Str (x2.A), Str (x2.B), .int .i64 (x2.N), .int .i64 (x2.Code), .slice A3 (x2.Keep).length c3] x2]) w ([boxR b7 42 [.int .i64 (x2.Kind), Str (x2.A), Str (x2.B), .int .i64 (x2.N), .int .i64 (x2.Code), .slice A3 (x2.Keep).length c3], relR T_limnographlaw18_Act.rep [.int .i64 (x2.Kind), Str (x2.A), Str (x2.B), .int .i64 (x2.N), .int .i64 (x2.Code), .slice A3 (x2.Keep).length c3] x2, slR A3 c3 (intR .i64) x2.Keep] ++ [diskO 59 64 5 F0 b0 x0, T_limnographref18_Disk.obj F1 b1 x1, relR T_limnographlaw18_Act.rep [.int .i64 (x2.Kind), Str (x2.A), Str (x2.B), .int .i64 (x2.N), .int .i64 (x2.Code), .slice A3 (x2.Keep).length c3] x2, slR A3 c3 (intR .i64) x2.Keep])) (LS [diskO 59 64 5 F0 b0 x0, T_limnographref18_Disk.obj F1 b1 x1, relR T_limnographlaw18_Act.rep [.int .i64 (x2.Kind), Str (x2.A), Str (x2.B), .int .i64 (x2.N), .int .i64 (x2.Code), .slice A3 (x2.Keep).length c3] x2, slR A3 c3 (intR .i64) x2.Keep]) w170 w171 ([relR T_limnographlaw18_Act.rep [.int .i64 (x2.Kind), Str (x2.A), Str (x2.B), .int .i64 (x2.N), .int .i64 (x2.Code), .slice A3 (x2.Keep).length c3] x2, slR A3 c3 (intR .i64) x2.Keep, diskO 59 64 5 F171_p0 b0 p171.2] ++ [T_limnographref18_Disk.obj F1 b1 x1]) := hm174.pick [1, 2, 3, 0] rfl (by decide)
              refine RH.cl ck41 7 (by kernel_rfl) rfl rfl rfl rfl (m_limnographref18_Disk_Remove_sim (Z0 := _) _ F1 b1 x1 x2.A hm176.lend e175) ?_
              rintro _ w175 ⟨F175_p0, rfl, hq175⟩
              have hm178 : Hp (Zo Z0 (LS [diskO 59 64 5 F0 b0 x0, T_limnographref18_Disk.obj F1 b1 x1, relR T_limnographlaw18_Act.rep [.int .i64 (x2.Kind), Str (x2.A), Str (x2.B), .int .i64 (x2.N), .int .i64 (x2.Code), .slice A3 (x2.Keep).length c3] x2]) w ([boxR b7 42 [.int .i64 (x2.Kind), Str (x2.A), Str (x2.B), .int .i64 (x2.N), .int .i64 (x2.Code), .slice A3 (x2.Keep).length c3], relR T_limnographlaw18_Act.rep [.int .i64 (x2.Kind), Str (x2.A), Str (x2.B), .int .i64 (x2.N), .int .i64 (x2.Code), .slice A3 (x2.Keep).length c3] x2, slR A3 c3 (intR .i64) x2.Keep] ++ [diskO 59 64 5 F0 b0 x0, T_limnographref18_Disk.obj F1 b1 x1, relR T_limnographlaw18_Act.rep [.int .i64 (x2.Kind), Str (x2.A), Str (x2.B), .int .i64 (x2.N), .int .i64 (x2.Code), .slice A3 (x2.Keep).length c3] x2, slR A3 c3 (intR .i64) x2.Keep])) (LS [diskO 59 64 5 F0 b0 x0, T_limnographref18_Disk.obj F1 b1 x1, relR T_limnographlaw18_Act.rep [.int .i64 (x2.Kind), Str (x2.A), Str (x2.B), .int .i64 (x2.N), .int .i64 (x2.Code), .slice A3 (x2.Keep).length c3] x2, slR A3 c3 (intR .i64) x2.Keep]) w170 w175 [relR T_limnographlaw18_Act.rep [.int .i64 (x2.Kind), Str (x2.A), Str (x2.B), .int .i64 (x2.N), .int .i64 (x2.Code), .slice A3 (x2.Keep).length c3] x2, slR A3 c3 (intR .i64) x2.Keep, diskO 59 64 5 F171_p0 b0 p171.2, T_limnographref18_Disk.obj F175_p0 b1 p175.2] := hm176.callAZ hq175
              refine ⟨_, rfl, hm178.fr, ?_⟩
              refine RH.here fun hS8 => RH.one 8 (by kernel_rfl) rfl rfl rfl rfl (V.eql rfl rfl) hS8 ?_
              refine RH.here fun hS9 => RH.one 9 (by kernel_rfl) rfl rfl rfl rfl (V.as rfl) hS9 ?_
              refine RH.doneP (by kernel_rfl) ?_
              have hm179 := hmo170.callAZ hm178
              have hm180 : Hp Z0 (LS [diskO 59 64 5 F0 b0 x0, T_limnographref18_Disk.obj F1 b1 x1, relR T_limnographlaw18_Act.rep [.int .i64 (x2.Kind), Str (x2.A), Str (x2.B), .int .i64 (x2.N), .int .i64 (x2.Code), .slice A3 (x2.Keep).length c3] x2]) w w175 [boxR b7 42 [.int .i64 (x2.Kind), Str (x2.A), Str (x2.B), .int .i64 (x2.N), .int .i64 (x2.Code), .slice A3 (x2.Keep).length c3], relR T_limnographlaw18_Act.rep [.int .i64 (x2.Kind), Str (x2.A), Str (x2.B), .int .i64 (x2.N), .int .i64 (x2.Code), .slice A3 (x2.Keep).length c3] x2, slR A3 c3 (intR .i64) x2.Keep, diskO 59 64 5 F171_p0 b0 p171.2, T_limnographref18_Disk.obj F175_p0 b1 p175.2] := hm179.pick [0, 3, 4, 5, 6] rfl (by decide)
              refine Rn.retG1 Try.func14 rfl (rvT rfl) ?_
              obtain rfl := someE hM
              exact ⟨F171_p0, F175_p0, rfl, hm180.pick [3, 4] rfl (by decide)⟩
            · replace hM := iteF h163 hM
              refine Rn.seq (Rn.reg (Rn.v rfl rfl rfl rfl (V.eql rfl rfl) (Rn.v rfl rfl rfl rfl (V.as rfl) (Rn.regEnd ?_))))
              refine Rn.condD rfl (fun h181 => ?_) (fun h181 => ?_)
              · replace hM := iteT h181 hM
                refine Rn.seq (Rn.reg (Rn.v rfl rfl rfl rfl (V.mv rfl) (Rn.v rfl rfl rfl rfl (V.fa Try.underlying42 rfl Try.sizeOf3 rfl rfl) (Rn.v rfl rfl rfl rfl (V.ldB Try.isAgg3 rfl (hm9.get 4 rfl) rfl) (Rn.v rfl rfl rfl rfl (V.fa Try.underlying42 rfl Try.sizeOf29 rfl rfl) (Rn.v rfl rfl rfl rfl (V.ldB Try.isAgg29 rfl (hm9.get 4 rfl) rfl) ?_))))))
                obtain ⟨p182, e182, hM⟩ := bindE hM
                have hm183 : Hp Z0 (LS [diskO 59 64 5 F0 b0 x0, T_limnographref18_Disk.obj F1 b1 x1, relR T_limnographlaw18_Act.rep [.int .i64 (x2.Kind), Str (x2.A), Str (x2.B), .int .i64 (x2.N), .int .i64 (x2.Code), .slice A3 (x2.Keep).length c3] x2]) w w7 ([T_limnographref18_Disk.obj F1 b1 x1, relR T_limnographlaw18_Act.rep [.int .i64 (x2.Kind), Str (x2.A), Str (x2.B), .int .i64 (x2.N), .int .i64 (x2.Code), .slice A3 (x2.Keep).length c3] x2, slR A3 c3 (intR .i64) x2.Keep, boxR b7 42 [.int .i64 (x2.Kind), Str (x2.A), Str (x2.B), .int .i64 (x2.N), .int .i64 (x2.Code), .slice A3 (x2.Keep).length c3]] ++ [diskO 59 64 5 F0 b0 x0]) := hm9.pick [1, 2, 3, 4, 0] rfl (by decide)
                refine Rn.cl ck42 rfl rfl rfl rfl (m_disk_Disk_Fail_sim (Z0 := _) _ F0 b0 x0 x2.N x2.Code hm183.lend e182) ?_
                rintro _ w182 ⟨F182_p0, rfl, hq182⟩
                refine ⟨_, rfl, ?_⟩
                have hm185 : Hp Z0 (LS [diskO 59 64 5 F0 b0 x0, T_limnographref18_Disk.obj F1 b1 x1, relR T_limnographlaw18_Act.rep [.int .i64 (x2.Kind), Str (x2.A), Str (x2.B), .int .i64 (x2.N), .int .i64 (x2.Code), .slice A3 (x2.Keep).length c3] x2]) w w182 [T_limnographref18_Disk.obj F1 b1 x1, relR T_limnographlaw18_Act.rep [.int .i64 (x2.Kind), Str (x2.A), Str (x2.B), .int .i64 (x2.N), .int .i64 (x2.Code), .slice A3 (x2.Keep).length c3] x2, slR A3 c3 (intR .i64) x2.Keep, boxR b7 42 [.int .i64 (x2.Kind), Str (x2.A), Str (x2.B), .int .i64 (x2.N), .int .i64 (x2.Code), .slice A3 (x2.Keep).length c3], diskO 59 64 5 F182_p0 b0 p182] := hm183.callAZ hq182
                refine Rn.regEnd (Rn.seq (Rn.reg (Rn.v rfl rfl rfl rfl (V.mv rfl) (Rn.v rfl rfl rfl rfl (V.fa Try.underlying42 rfl Try.sizeOf3 rfl rfl) (Rn.v rfl rfl rfl rfl (V.ldB Try.isAgg3 rfl (hm185.get 3 rfl) rfl) (Rn.v rfl rfl rfl rfl (V.fa Try.underlying42 rfl Try.sizeOf29 rfl rfl) (Rn.v rfl rfl rfl rfl (V.ldB Try.isAgg29 rfl (hm185.get 3 rfl) rfl) ?_)))))))
                obtain ⟨p186, e186, hM⟩ := bindE hM
                refine Rn.cl ck43 rfl rfl rfl rfl (m_limnographref18_Arm_sim (Z0 := All) _ x2.N x2.Code  e186) ?_
                rintro _ w186 ⟨rfl, hq186⟩
                refine ⟨_, rfl, ?_⟩
                have hm187 := hm185.call0 hq186
                refine Rn.v rfl rfl rfl rfl (V.nil rfl) (Rn.v rfl rfl rfl rfl (V.fa Try.underlying74 rfl Try.sizeOf3 rfl rfl) ?_)
                obtain ⟨_, ⟨A188_0, c188_0, rfl⟩, hm188⟩ := hm187.unf 0 rfl
                replace hm188 : Hp Z0 (LS [diskO 59 64 5 F0 b0 x0, T_limnographref18_Disk.obj F1 b1 x1, relR T_limnographlaw18_Act.rep [.int .i64 (x2.Kind), Str (x2.A), Str (x2.B), .int .i64 (x2.N), .int .i64 (x2.Code), .slice A3 (x2.Keep).length c3] x2]) w w186 [relR T_limnographlaw18_Act.rep [.int .i64 (x2.Kind), Str (x2.A), Str (x2.B), .int .i64 (x2.N), .int .i64 (x2.Code), .slice A3 (x2.Keep).length c3] x2, slR A3 c3 (intR .i64) x2.Keep, boxR b7 42 [.int .i64 (x2.Kind), Str (x2.A), Str (x2.B), .int .i64 (x2.N), .int .i64 (x2.Code), .slice A3 (x2.Keep).length c3], diskO 59 64 5 F182_p0 b0 p182, boxR b1 74 [.slice A188_0 (x1.L).length c188_0, .int .i64 (x1.Capacity), .bool (x1.Down), .int .i64 (x1.Calls), .int .i64 (x1.Fail), .int .i64 (x1.Crash), .int .i64 (x1.Err)], ownR 78 A188_0 c188_0 T_limnographref18_File.rep x1.L] := hm188
                refine Rn.st rfl rfl Try.sizeOf3 rfl rfl rfl rfl (by first | exact ones rfl | (simp [Value.oneCell']; done)) (hm188.get 4 rfl) (by first | exact Nat.le_of_ble_eq_true rfl | (simp; done)) ?_
                intro w190 m190 x190
                have hm191 : Hp Z0 (LS [diskO 59 64 5 F0 b0 x0, T_limnographref18_Disk.obj F1 b1 x1, relR T_limnographlaw18_Act.rep [.int .i64 (x2.Kind), Str (x2.A), Str (x2.B), .int .i64 (x2.N), .int .i64 (x2.Code), .slice A3 (x2.Keep).length c3] x2]) w w190 [relR T_limnographlaw18_Act.rep [.int .i64 (x2.Kind), Str (x2.A), Str (x2.B), .int .i64 (x2.N), .int .i64 (x2.Code), .slice A3 (x2.Keep).length c3] x2, slR A3 c3 (intR .i64) x2.Keep, boxR b7 42 [.int .i64 (x2.Kind), Str (x2.A), Str (x2.B), .int .i64 (x2.N), .int .i64 (x2.Code), .slice A3 (x2.Keep).length c3], diskO 59 64 5 F182_p0 b0 p182, boxR b1 74 [.slice A188_0 (x1.L).length c188_0, .int .i64 (x1.Capacity), .bool (x1.Down), .int .i64 (x1.Calls), .int .i64 (p186), .int .i64 (x1.Crash), .int .i64 (x1.Err)], ownR 78 A188_0 c188_0 T_limnographref18_File.rep x1.L] := hm188.st 4 rfl x190 m190
                refine Rn.regEnd (Rn.reg (Rn.v rfl rfl rfl rfl (V.mv rfl) (Rn.v rfl rfl rfl rfl (V.fa Try.underlying42 rfl Try.sizeOf29 rfl rfl) (Rn.v rfl rfl rfl rfl (V.ldB Try.isAgg29 rfl (hm191.get 2 rfl) rfl) (Rn.v rfl rfl rfl rfl (V.nil rfl) (Rn.v rfl rfl rfl rfl (V.fa Try.underlying74 rfl Try.sizeOf29 rfl rfl) (Rn.st rfl rfl Try.sizeOf29 rfl rfl rfl rfl (by first | exact ones rfl | (simp [Value.oneCell']; done)) (hm191.get 4 rfl) (by first | exact Nat.le_of_ble_eq_true rfl | (simp; done)) ?_)))))))
                intro w192 m192 x192
                have hm193 : Hp Z0 (LS [diskO 59 64 5 F0 b0 x0, T_limnographref18_Disk.obj F1 b1 x1, relR T_limnographlaw18_Act.rep [.int .i64 (x2.Kind), Str (x2.A), Str (x2.B), .int .i64 (x2.N), .int .i64 (x2.Code), .slice A3 (x2.Keep).length c3] x2]) w w192 [relR T_limnographlaw18_Act.rep [.int .i64 (x2.Kind), Str (x2.A), Str (x2.B), .int .i64 (x2.N), .int .i64 (x2.Code), .slice A3 (x2.Keep).length c3] x2, slR A3 c3 (intR .i64) x2.Keep, boxR b7 42 [.int .i64 (x2.Kind), Str (x2.A), Str (x2.B), .int .i64 (x2.N), .int .i64 (x2.Code), .slice A3 (x2.Keep).length c3], diskO 59 64 5 F182_p0 b0 p182, boxR b1 74 [.slice A188_0 (x1.L).length c188_0, .int .i64 (x1.Capacity), .bool (x1.Down), .int .i64 (x1.Calls), .int .i64 (p186), .int .i64 (x1.Crash), .int .i64 (x2.Code)], ownR 78 A188_0 c188_0 T_limnographref18_File.rep x1.L] := hm191.st 4 rfl x192 m192
                refine Rn.regEnd (Rn.inBlock ?_)
                have hm195 : Hp Z0 (LS [diskO 59 64 5 F0 b0 x0, T_limnographref18_Disk.obj F1 b1 x1, relR T_limnographlaw18_Act.rep [.int .i64 (x2.Kind), Str (x2.A), Str (x2.B), .int .i64 (x2.N), .int .i64 (x2.Code), .slice A3 (x2.Keep).length c3] x2]) w w192 ([relR T_limnographlaw18_Act.rep [.int .i64 (x2.Kind), Str (x2.A), Str (x2.B), .int .i64 (x2.N), .int .i64 (x2.Code), .slice A3 (x2.Keep).length c3] x2, slR A3 c3 (intR .i64) x2.Keep, boxR b7 42 [.int .i64 (x2.Kind), Str (x2.A), Str (x2.B), .int .i64 (x2.N), .int .i64 (x2.Code), .slice A3 (x2.Keep).length c3], diskO 59 64 5 F182_p0 b0 p182] ++ [boxR b1 74 [.slice A188_0 (x1.L).length c188_0, .int .i64 (x1.Capacity), .bool (x1.Down), .int .i64 (x1.Calls), .int .i64 (p186), .int .i64 (x1.Crash), .int .i64 (x2.Code)], ownR 78 A188_0 c188_0 T_limnographref18_File.rep x1.L]) := hm193.pick [0, 1, 2, 3, 4, 5] rfl (by decide)
                obtain ⟨F194, hm194⟩ := hm195.fold (T_limnographref18_Disk.sh b1 ({ L := x1.L, Capacity := x1.Capacity, Down := x1.Down, Calls := x1.Calls, Fail := p186, Crash := x1.Crash, Err := x2.Code } : T_limnographref18_Disk)) ⟨A188_0, c188_0, rfl⟩
                replace hm194 : Hp Z0 (LS [diskO 59 64 5 F0 b0 x0, T_limnographref18_Disk.obj F1 b1 x1, relR T_limnographlaw18_Act.rep [.int .i64 (x2.Kind), Str (x2.A), Str (x2.B), .int .i64 (x2.N), .int .i64 (x2.Code), .slice A3 (x2.Keep).length c3] x2]) w w192 [relR T_limnographlaw18_Act.rep [.int .i64 (x2.Kind), Str (x2.A), Str (x2.B), .int .i64 (x2.N), .int .i64 (x2.Code), .slice A3 (x2.Keep).length c3] x2, slR A3 c3 (intR .i64) x2.Keep, boxR b7 42 [.int .i64 (x2.Kind), Str (x2.A), Str (x2.B), .int .i64 (x2.N), .int .i64 (x2.Code), .slice A3 (x2.Keep).length c3], diskO 59 64 5 F182_p0 b0 p182, T_limnographref18_Disk.obj F194 b1 ({ L := x1.L, Capacity := x1.Capacity, Down := x1.Down, Calls := x1.Calls, Fail := p186, Crash := x1.Crash, Err := x2.Code } : T_limnographref18_Disk)] := hm194
                exact hk1 (p182, ({ L := x1.L, Capacity := x1.Capacity, Down := x1.Down, Calls := x1.Calls, Fail := p186, Crash := x1.Crash, Err := x2.Code } : T_limnographref18_Disk), F182_p0, F194) _ _ (Sub.nil _) (hm194.pick [0, 1, 2, 3, 4] rfl (by decide)) hM
              · replace hM := iteF h181 hM
                refine Rn.seq (Rn.reg (Rn.v rfl rfl rfl rfl (V.eql rfl rfl) (Rn.v rfl rfl rfl rfl (V.as rfl) (Rn.regEnd ?_))))
                refine Rn.condD rfl (fun h196 => ?_) (fun h196 => ?_)
                · replace hM := iteT h196 hM
                  refine Rn.seq (Rn.reg (Rn.v rfl rfl rfl rfl (V.mv rfl) (Rn.v rfl rfl rfl rfl (V.fa Try.underlying42 rfl Try.sizeOf3 rfl rfl) (Rn.v rfl rfl rfl rfl (V.ldB Try.isAgg3 rfl (hm9.get 4 rfl) rfl) ?_))))
                  obtain ⟨p197, e197, hM⟩ := bindE hM
                  have hm198 : Hp Z0 (LS [diskO 59 64 5 F0 b0 x0, T_limnographref18_Disk.obj F1 b1 x1, relR T_limnographlaw18_Act.rep [.int .i64 (x2.Kind), Str (x2.A), Str (x2.B), .int .i64 (x2.N), .int .i64 (x2.Code), .slice A3 (x2.Keep).length c3] x2]) w w7 ([T_limnographref18_Disk.obj F1 b1 x1, relR T_limnographlaw18_Act.rep [.int .i64 (x2.Kind), Str (x2.A), Str (x2.B), .int .i64 (x2.N), .int .i64 (x2.Code), .slice A3 (x2.Keep).length c3] x2, slR A3 c3 (intR .i64) x2.Keep, boxR b7 42 [.int .i64 (x2.Kind), Str (x2.A), Str (x2.B), .int .i64 (x2.N), .int .i64 (x2.Code), .slice A3 (x2.Keep).length c3]] ++ [diskO 59 64 5 F0 b0 x0]) := hm9.pick [1, 2, 3, 4, 0] rfl (by decide)
                  refine Rn.cl ck15 rfl rfl rfl rfl (m_disk_Disk_Crash_sim (Z0 := _) _ F0 b0 x0 x2.N hm198.lend e197) ?_
                  rintro _ w197 ⟨F197_p0, rfl, hq197⟩
                  refine ⟨_, rfl, ?_⟩
                  have hm200 : Hp Z0 (LS [diskO 59 64 5 F0 b0 x0, T_limnographref18_Disk.obj F1 b1 x1, relR T_limnographlaw18_Act.rep [.int .i64 (x2.Kind), Str (x2.A), Str (x2.B), .int .i64 (x2.N), .int .i64 (x2.Code), .slice A3 (x2.Keep).length c3] x2]) w w197 [T_limnographref18_Disk.obj F1 b1 x1, relR T_limnographlaw18_Act.rep [.int .i64 (x2.Kind), Str (x2.A), Str (x2.B), .int .i64 (x2.N), .int .i64 (x2.Code), .slice A3 (x2.Keep).length c3] x2, slR A3 c3 (intR .i64) x2.Keep, boxR b7 42 [.int .i64 (x2.Kind), Str (x2.A), Str (x2.B), .int .i64 (x2.N), .int .i64 (x2.Code), .slice A3 (x2.Keep).length c3], diskO 59 64 5 F197_p0 b0 p197] := hm198.callAZ hq197
                  refine Rn.regEnd (Rn.reg (Rn.v rfl rfl rfl rfl (V.mv rfl) (Rn.v rfl rfl rfl rfl (V.fa Try.underlying42 rfl Try.sizeOf3 rfl rfl) (Rn.v rfl rfl rfl rfl (V.ldB Try.isAgg3 rfl (hm200.get 3 rfl) rfl) ?_))))
                  obtain ⟨p201, e201, hM⟩ := bindE hM
                  refine Rn.cl ck43 rfl rfl rfl rfl (m_limnographref18_Arm_sim (Z0 := All) _ x2.N 13  e201) ?_
                  rintro _ w201 ⟨rfl, hq201⟩
                  refine ⟨_, rfl, ?_⟩
                  have hm202 := hm200.call0 hq201
                  refine Rn.v rfl rfl rfl rfl (V.nil rfl) (Rn.v rfl rfl rfl rfl (V.fa Try.underlying74 rfl Try.sizeOf3 rfl rfl) ?_)
                  obtain ⟨_, ⟨A203_0, c203_0, rfl⟩, hm203⟩ := hm202.unf 0 rfl
                  replace hm203 : Hp Z0 (LS [diskO 59 64 5 F0 b0 x0, T_limnographref18_Disk.obj F1 b1 x1, relR T_limnographlaw18_Act.rep [.int .i64 (x2.Kind), Str (x2.A), Str (x2.B), .int .i64 (x2.N), .int .i64 (x2.Code), .slice A3 (x2.Keep).length c3] x2]) w w201 [relR T_limnographlaw18_Act.rep [.int .i64 (x2.Kind), Str (x2.A), Str (x2.B), .int .i64 (x2.N), .int .i64 (x2.Code), .slice A3 (x2.Keep).length c3] x2, slR A3 c3 (intR .i64) x2.Keep, boxR b7 42 [.int .i64 (x2.Kind), Str (x2.A), Str (x2.B), .int .i64 (x2.N), .int .i64 (x2.Code), .slice A3 (x2.Keep).length c3], diskO 59 64 5 F197_p0 b0 p197, boxR b1 74 [.slice A203_0 (x1.L).length c203_0, .int .i64 (x1.Capacity), .bool (x1.Down), .int .i64 (x1.Calls), .int .i64 (x1.Fail), .int .i64 (x1.Crash), .int .i64 (x1.Err)], ownR 78 A203_0 c203_0 T_limnographref18_File.rep x1.L] := hm203
                  refine Rn.st rfl rfl Try.sizeOf3 rfl rfl rfl rfl (by first | exact ones rfl | (simp [Value.oneCell']; done)) (hm203.get 4 rfl) (by first | exact Nat.le_of_ble_eq_true rfl | (simp; done)) ?_
                  intro w205 m205 x205
                  have hm206 : Hp Z0 (LS [diskO 59 64 5 F0 b0 x0, T_limnographref18_Disk.obj F1 b1 x1, relR T_limnographlaw18_Act.rep [.int .i64 (x2.Kind), Str (x2.A), Str (x2.B), .int .i64 (x2.N), .int .i64 (x2.Code), .slice A3 (x2.Keep).length c3] x2]) w w205 [relR T_limnographlaw18_Act.rep [.int .i64 (x2.Kind), Str (x2.A), Str (x2.B), .int .i64 (x2.N), .int .i64 (x2.Code), .slice A3 (x2.Keep).length c3] x2, slR A3 c3 (intR .i64) x2.Keep, boxR b7 42 [.int .i64 (x2.Kind), Str (x2.A), Str (x2.B), .int .i64 (x2.N), .int .i64 (x2.Code), .slice A3 (x2.Keep).length c3], diskO 59 64 5 F197_p0 b0 p197, boxR b1 74 [.slice A203_0 (x1.L).length c203_0, .int .i64 (x1.Capacity), .bool (x1.Down), .int .i64 (x1.Calls), .int .i64 (x1.Fail), .int .i64 (p201), .int .i64 (x1.Err)], ownR 78 A203_0 c203_0 T_limnographref18_File.rep x1.L] := hm203.st 4 rfl x205 m205
                  refine Rn.regEnd (Rn.inBlock ?_)
                  have hm208 : Hp Z0 (LS [diskO 59 64 5 F0 b0 x0, T_limnographref18_Disk.obj F1 b1 x1, relR T_limnographlaw18_Act.rep [.int .i64 (x2.Kind), Str (x2.A), Str (x2.B), .int .i64 (x2.N), .int .i64 (x2.Code), .slice A3 (x2.Keep).length c3] x2]) w w205 ([relR T_limnographlaw18_Act.rep [.int .i64 (x2.Kind), Str (x2.A), Str (x2.B), .int .i64 (x2.N), .int .i64 (x2.Code), .slice A3 (x2.Keep).length c3] x2, slR A3 c3 (intR .i64) x2.Keep, boxR b7 42 [.int .i64 (x2.Kind), Str (x2.A), Str (x2.B), .int .i64 (x2.N), .int .i64 (x2.Code), .slice A3 (x2.Keep).length c3], diskO 59 64 5 F197_p0 b0 p197] ++ [boxR b1 74 [.slice A203_0 (x1.L).length c203_0, .int .i64 (x1.Capacity), .bool (x1.Down), .int .i64 (x1.Calls), .int .i64 (x1.Fail), .int .i64 (p201), .int .i64 (x1.Err)], ownR 78 A203_0 c203_0 T_limnographref18_File.rep x1.L]) := hm206.pick [0, 1, 2, 3, 4, 5] rfl (by decide)
                  obtain ⟨F207, hm207⟩ := hm208.fold (T_limnographref18_Disk.sh b1 ({ L := x1.L, Capacity := x1.Capacity, Down := x1.Down, Calls := x1.Calls, Fail := x1.Fail, Crash := p201, Err := x1.Err } : T_limnographref18_Disk)) ⟨A203_0, c203_0, rfl⟩
                  replace hm207 : Hp Z0 (LS [diskO 59 64 5 F0 b0 x0, T_limnographref18_Disk.obj F1 b1 x1, relR T_limnographlaw18_Act.rep [.int .i64 (x2.Kind), Str (x2.A), Str (x2.B), .int .i64 (x2.N), .int .i64 (x2.Code), .slice A3 (x2.Keep).length c3] x2]) w w205 [relR T_limnographlaw18_Act.rep [.int .i64 (x2.Kind), Str (x2.A), Str (x2.B), .int .i64 (x2.N), .int .i64 (x2.Code), .slice A3 (x2.Keep).length c3] x2, slR A3 c3 (intR .i64) x2.Keep, boxR b7 42 [.int .i64 (x2.Kind), Str (x2.A), Str (x2.B), .int .i64 (x2.N), .int .i64 (x2.Code), .slice A3 (x2.Keep).length c3], diskO 59 64 5 F197_p0 b0 p197, T_limnographref18_Disk.obj F207 b1 ({ L := x1.L, Capacity := x1.Capacity, Down := x1.Down, Calls := x1.Calls, Fail := x1.Fail, Crash := p201, Err := x1.Err } : T_limnographref18_Disk)] := hm207
                  exact hk1 (p197, ({ L := x1.L, Capacity := x1.Capacity, Down := x1.Down, Calls := x1.Calls, Fail := x1.Fail, Crash := p201, Err := x1.Err } : T_limnographref18_Disk), F197_p0, F207) _ _ (Sub.nil _) (hm207.pick [0, 1, 2, 3, 4] rfl (by decide)) hM
                · replace hM := iteF h196 hM
                  refine Rn.seq (Rn.reg (Rn.v rfl rfl rfl rfl (V.eql rfl rfl) (Rn.v rfl rfl rfl rfl (V.as rfl) (Rn.regEnd ?_))))
                  refine Rn.condD rfl (fun h209 => ?_) (fun h209 => ?_)
                  · replace hM := iteT h209 hM
                    refine Rn.seq ?_
                    have hm211 := hm9.dup 2 rfl (fun _ h => h)
                    have hm213 := hm211.dup 3 rfl (fun _ h => h)
                    have hm215 : Hp Z0 (LS [diskO 59 64 5 F0 b0 x0, T_limnographref18_Disk.obj F1 b1 x1, relR T_limnographlaw18_Act.rep [.int .i64 (x2.Kind), Str (x2.A), Str (x2.B), .int .i64 (x2.N), .int .i64 (x2.Code), .slice A3 (x2.Keep).length c3] x2]) w w7 ([boxR b7 42 [.int .i64 (x2.Kind), Str (x2.A), Str (x2.B), .int .i64 (x2.N), .int .i64 (x2.Code), .slice A3 (x2.Keep).length c3], relR T_limnographlaw18_Act.rep [.int .i64 (x2.Kind), Str (x2.A), Str (x2.B), .int .i64 (x2.N), .int .i64 (x2.Code), .slice A3 (x2.Keep).length c3] x2, slR A3 c3 (intR .i64) x2.Keep] ++ [diskO 59 64 5 F0 b0 x0, T_limnographref18_Disk.obj F1 b1 x1, relR T_limnographlaw18_Act.rep [.int .i64 (x2.Kind), Str (x2.A), Str (x2.B), .int .i64 (x2.N), .int .i64 (x2.Code), .slice A3 (x2.Keep).length c3] x2, slR A3 c3 (intR .i64) x2.Keep]) := hm213.pick [4, 5, 6, 0, 1, 2, 3] rfl (by decide)
                    refine Rn.drawF rfl hm215 ?_
                    intro w216 hmo216 hm216
                    refine RH.take 0 (by kernel_rfl) rfl rfl rfl rfl (fun w' hDr => V.mv rfl) ?_
                    refine RH.take 1 (by kernel_rfl) rfl rfl rfl rfl (fun w' hDr => V.fa Try.underlying42 rfl Try.sizeOf36 rfl rfl) ?_
                    refine RH.take 2 (by kernel_rfl) rfl rfl rfl rfl (fun w' hDr => V.ldB Try.isAgg36 rfl ((hmo216.awayK hDr).get 0 rfl) rfl) ?_
                    refine RH.take 4 (by kernel_rfl) rfl rfl rfl rfl (fun w' hDr => V.mv rfl) ?_
                    refine RH.take 5 (by kernel_rfl) rfl rfl rfl rfl (fun w' hDr => V.fa Try.underlying42 rfl Try.sizeOf36 rfl rfl) ?_
                    refine RH.take 6 (by kernel_rfl) rfl rfl rfl rfl (fun w' hDr => V.ldB Try.isAgg36 rfl ((hmo216.awayK hDr).get 0 rfl) rfl) ?_
                    obtain ⟨p217, e217, hM⟩ := bindE hM
                    have hm218 := hm216.dup 3 rfl (fun _ h => h)
                    have hm220 : Hp (Zo Z0 (LS [diskO 59 64 5 F0 b0 x0, T_limnographref18_Disk.obj F1 b1 x1, relR T_limnographlaw18_Act.rep [.int .i64 (x2.Kind), Str (x2.A), Str (x2.B), .int .i64 (x2.N), .int .i64 (x2.Code), .slice A3 (x2.Keep).length c3] x2]) w ([boxR b7 42 [.int .i64 (x2.Kind), Str (x2.A), Str (x2.B), .int .i64 (x2.N), .int .i64 (x2.Code), .slice A3 (x2.Keep).length c3], relR T_limnographlaw18_Act.rep [.int .i64 (x2.Kind), Str (x2.A), Str (x2.B), .int .i64 (x2.N), .int .i64 (x2.Code), .slice A3 (x2.Keep).length c3] x2, slR A3 c3 (intR .i64) x2.Keep] ++ [diskO 59 64 5 F0 b0 x0, T_limnographref18_Disk.obj F1 b1 x1, relR T_limnographlaw18_Act.rep [.int .i64 (x2.Kind), Str (x2.A), Str (x2.B), .int .i64 (x2.N), .int .i64 (x2.Code), .slice A3 (x2.Keep).length c3] x2, slR A3 c3 (intR .i64) x2.Keep])) (LS [diskO 59 64 5 F0 b0 x0, T_limnographref18_Disk.obj F1 b1 x1, relR T_limnographlaw18_Act.rep [.int .i64 (x2.Kind), Str (x2.A), Str (x2.B), .int .i64 (x2.N), .int .i64 (x2.Code), .slice A3 (x2.Keep).length c3] x2, slR A3 c3 (intR .i64) x2.Keep]) w216 w216 ([T_limnographref18_Disk.obj F1 b1 x1, relR T_limnographlaw18_Act.rep [.int .i64 (x2.Kind), Str (x2.A), Str (x2.B), .int .i64 (x2.N), .int .i64 (x2.Code), .slice A3 (x2.Keep).length c3] x2, slR A3 c3 (intR .i64) x2.Keep] ++ [diskO 59 64 5 F0 b0 x0, slR A3 c3 (intR .i64) x2.Keep]) := hm218.pick [1, 2, 3, 0, 4] rfl (by decide)
                    refine RH.cl ck17 3 (by kernel_rfl) rfl rfl rfl rfl (m_disk_Disk_Boot_sim (Z0 := _) _ F0 b0 x0 A3 c3 x2.Keep hm220.lend e217) ?_
                    rintro _ w217 ⟨F217_p0, rfl, hq217⟩
                    have hm222 : Hp (Zo Z0 (LS [diskO 59 64 5 F0 b0 x0, T_limnographref18_Disk.obj F1 b1 x1, relR T_limnographlaw18_Act.rep [.int .i64 (x2.Kind), Str (x2.A), Str (x2.B), .int .i64 (x2.N), .int .i64 (x2.Code), .slice A3 (x2.Keep).length c3] x2]) w ([boxR b7 42 [.int .i64 (x2.Kind), Str (x2.A), Str (x2.B), .int .i64 (x2.N), .int .i64 (x2.Code), .slice A3 (x2.Keep).length c3], relR T_limnographlaw18_Act.rep [.int .i64 (x2.Kind), Str (x2.A), Str (x2.B), .int .i64 (x2.N), .int .i64 (x2.Code), .slice A3 (x2.Keep).length c3] x2, slR A3 c3 (intR .i64) x2.Keep] ++ [diskO 59 64 5 F0 b0 x0, T_limnographref18_Disk.obj F1 b1 x1, relR T_limnographlaw18_Act.rep [.int .i64 (x2.Kind), Str (x2.A), Str (x2.B), .int .i64 (x2.N), .int .i64 (x2.Code), .slice A3 (x2.Keep).length c3] x2, slR A3 c3 (intR .i64) x2.Keep])) (LS [diskO 59 64 5 F0 b0 x0, T_limnographref18_Disk.obj F1 b1 x1, relR T_limnographlaw18_Act.rep [.int .i64 (x2.Kind), Str (x2.A), Str (x2.B), .int .i64 (x2.N), .int .i64 (x2.Code), .slice A3 (x2.Keep).length c3] x2, slR A3 c3 (intR .i64) x2.Keep]) w216 w217 [T_limnographref18_Disk.obj F1 b1 x1, relR T_limnographlaw18_Act.rep [.int .i64 (x2.Kind), Str (x2.A), Str (x2.B), .int .i64 (x2.N), .int .i64 (x2.Code), .slice A3 (x2.Keep).length c3] x2, slR A3 c3 (intR .i64) x2.Keep, diskO 59 64 5 F217_p0 b0 p217.2] := hm220.callAZ hq217
                    refine ⟨_, rfl, hm222.fr, ?_⟩
                    obtain ⟨p223, e223, hM⟩ := bindE hM
                    have hm224 := hm222.dup 2 rfl (fun _ h => h)
                    have hm226 : Hp (Zo Z0 (LS [diskO 59 64 5 F0 b0 x0, T_limnographref18_Disk.obj F1 b1 x1, relR T_limnographlaw18_Act.rep [.int .i64 (x2.Kind), Str (x2.A), Str (x2.B), .int .i64 (x2.N), .int .i64 (x2.Code), .slice A3 (x2.Keep).length c3] x2]) w ([boxR b7 42 [.int .i64 (x2.Kind), Str (x2.A), Str (x2.B), .int .i64 (x2.N), .int .i64 (x2.Code), .slice A3 (x2.Keep).length c3], relR T_limnographlaw18_Act.rep [.int .i64 (x2.Kind), Str (x2.A), Str (x2.B), .int .i64 (x2.N), .int .i64 (x2.Code), .slice A3 (x2.Keep).length c3] x2, slR A3 c3 (intR .i64) x2.Keep] ++ [diskO 59 64 5 F0 b0 x0, T_limnographref18_Disk.obj F1 b1 x1, relR T_limnographlaw18_Act.rep [.int .i64 (x2.Kind), Str (x2.A), Str (x2.B), .int .i64 (x2.N), .int .i64 (x2.Code), .slice A3 (x2.Keep).length c3] x2, slR A3 c3 (intR .i64) x2.Keep])) (LS [diskO 59 64 5 F0 b0 x0, T_limnographref18_Disk.obj F1 b1 x1, relR T_limnographlaw18_Act.rep [.int .i64 (x2.Kind), Str (x2.A), Str (x2.B), .int .i64 (x2.N), .int .i64 (x2.Code), .slice A3 (x2.Keep).length c3] x2, slR A3 c3 (intR .i64) x2.Keep]) w216 w217 ([relR T_limnographlaw18_Act.rep [.int .i64 (x2.Kind), Str (x2.A), Str (x2.B), .int .i64 (x2.N), .int .i64 (x2.Code), .slice A3 (x2.Keep).length c3] x2, slR A3 c3 (intR .i64) x2.Keep, diskO 59 64 5 F217_p0 b0 p217.2] ++ [T_limnographref18_Disk.obj F1 b1 x1, slR A3 c3 (intR .i64) x2.Keep]) := hm224.pick [1, 2, 3, 0, 4] rfl (by decide)
                    refine RH.cl ck44 7 (by kernel_rfl) rfl rfl rfl rfl (m_limnographref18_Disk_Boot_sim (Z0 := _) _ F1 b1 x1 A3 c3 x2.Keep hm226.lend e223) ?_
                    rintro _ w223 ⟨F223_p0, rfl, hq223⟩
                    have hm228 : Hp (Zo Z0 (LS [diskO 59 64 5 F0 b0 x0, T_limnographref18_Disk.obj F1 b1 x1, relR T_limnographlaw18_Act.rep [.int .i64 (x2.Kind), Str (x2.A), Str (x2.B), .int .i64 (x2.N), .int .i64 (x2.Code), .slice A3 (x2.Keep).length c3] x2]) w ([boxR b7 42 [.int .i64 (x2.Kind), Str (x2.A), Str (x2.B), .int .i64 (x2.N), .int .i64 (x2.Code), .slice A3 (x2.Keep).length c3], relR T_limnographlaw18_Act.rep [.int .i64 (x2.Kind), Str (x2.A), Str (x2.B), .int .i64 (x2.N), .int .i64 (x2.Code), .slice A3 (x2.Keep).length c3] x2, slR A3 c3 (intR .i64) x2.Keep] ++ [diskO 59 64 5 F0 b0 x0, T_limnographref18_Disk.obj F1 b1 x1, relR T_limnographlaw18_Act.rep [.int .i64 (x2.Kind), Str (x2.A), Str (x2.B), .int .i64 (x2.N), .int .i64 (x2.Code), .slice A3 (x2.Keep).length c3] x2, slR A3 c3 (intR .i64) x2.Keep])) (LS [diskO 59 64 5 F0 b0 x0, T_limnographref18_Disk.obj F1 b1 x1, relR T_limnographlaw18_Act.rep [.int .i64 (x2.Kind), Str (x2.A), Str (x2.B), .int .i64 (x2.N), .int .i64 (x2.Code), .slice A3 (x2.Keep).length c3] x2, slR A3 c3 (intR .i64) x2.Keep]) w216 w223 [relR T_limnographlaw18_Act.rep [.int .i64 (x2.Kind), Str (x2.A), Str (x2.B), .int .i64 (x2.N), .int .i64 (x2.Code), .slice A3 (x2.Keep).length c3] x2, slR A3 c3 (intR .i64) x2.Keep, diskO 59 64 5 F217_p0 b0 p217.2, T_limnographref18_Disk.obj F223_p0 b1 p223.2] := hm226.callAZ hq223
                    refine ⟨_, rfl, hm228.fr, ?_⟩
                    refine RH.here fun hS8 => RH.one 8 (by kernel_rfl) rfl rfl rfl rfl (V.eql rfl rfl) hS8 ?_
                    refine RH.here fun hS9 => RH.one 9 (by kernel_rfl) rfl rfl rfl rfl (V.as rfl) hS9 ?_
                    refine RH.doneP (by kernel_rfl) ?_
                    have hm229 := hmo216.callAZ hm228
                    have hm230 : Hp Z0 (LS [diskO 59 64 5 F0 b0 x0, T_limnographref18_Disk.obj F1 b1 x1, relR T_limnographlaw18_Act.rep [.int .i64 (x2.Kind), Str (x2.A), Str (x2.B), .int .i64 (x2.N), .int .i64 (x2.Code), .slice A3 (x2.Keep).length c3] x2]) w w223 [boxR b7 42 [.int .i64 (x2.Kind), Str (x2.A), Str (x2.B), .int .i64 (x2.N), .int .i64 (x2.Code), .slice A3 (x2.Keep).length c3], relR T_limnographlaw18_Act.rep [.int .i64 (x2.Kind), Str (x2.A), Str (x2.B), .int .i64 (x2.N), .int .i64 (x2.Code), .slice A3 (x2.Keep).length c3] x2, slR A3 c3 (intR .i64) x2.Keep, diskO 59 64 5 F217_p0 b0 p217.2, T_limnographref18_Disk.obj F223_p0 b1 p223.2] := hm229.pick [0, 3, 4, 5, 6] rfl (by decide)
                    refine Rn.retG1 Try.func14 rfl (rvT rfl) ?_
                    obtain rfl := someE hM
                    exact ⟨F217_p0, F223_p0, rfl, hm230.pick [3, 4] rfl (by decide)⟩
                  · replace hM := iteF h209 hM
                    refine Rn.skip (Rn.inBlock ?_)
                    exact hk1 (x0, x1, F0, F1) _ _ (Sub.nil _) (hm9.pick [2, 3, 4, 0, 1] rfl (by decide)) hM

set_option maxRecDepth 20000 in
theorem m_limnographlaw18_DiskPlays_sim {Z0 : Nat → Prop} (w : World) (A0 : Option Addr) (c0 : Nat) (x0 : (List T_api_File)) (x1 : Int) (A2 : Option Addr) (c2 : Nat) (x2 : (List T_limnographlaw18_Act)) {r : Bool} (f0 : (slR A0 c0 T_api_File.rep x0).H Z0 w) (f1 : (slR A2 c2 T_limnographlaw18_Act.rep x2).H Z0 w) (hM : m_limnographlaw18_DiskPlays x0 x1 x2 = some r) :
    Calls Try.prog 5 #[.slice A0 (x0).length c0, .int .i64 (x1), .slice A2 (x2).length c2] w fun x w' => x = .returned (.bool (r)) ∧ Hp Z0 No w w' [] := by
  have hm0 := Hp.nil Z0 No w
  have hc0 := Calm.nil
  have hm3 := hm0.know (slR A0 c0 T_api_File.rep x0) (fun _ h => h) (hm0.in0 hc0 f0)
  replace hc0 := hc0.snoc (r := slR A0 c0 T_api_File.rep x0) (fun _ h => h)
  have hm4 := hm3.know (slR A2 c2 T_limnographlaw18_Act.rep x2) (fun _ h => h) (hm3.in0 hc0 f1)
  replace hc0 := hc0.snoc (r := slR A2 c2 T_limnographlaw18_Act.rep x2) (fun _ h => h)
  refine Rn.enter Try.func5 rfl rfl (Nat.le_of_ble_eq_true rfl) ?_
  refine Rn.seq (Rn.reg (Rn.v rfl rfl rfl rfl (V.as rfl) (Rn.regEnd (Rn.seq (Rn.seq (Rn.reg ?_))))))
  obtain ⟨p5, e5, hM⟩ := bindE hM
  refine Rn.cl ck6 rfl rfl rfl rfl (m_limnographlaw18_awake_sim (Z0 := All) _   e5) ?_
  rintro _ w5 ⟨rfl, hq5⟩
  refine ⟨_, rfl, ?_⟩
  have hm6 := hm4.call0 hq5
  refine Rn.v rfl rfl rfl rfl (V.notB rfl) (Rn.regEnd ?_)
  refine Rn.condS rfl (fun h7 => ?_) (fun h7 => ?_)
  · replace hM := iteT h7 hM
    refine Rn.seq (Rn.reg (Rn.v rfl rfl rfl rfl (V.as rfl) (Rn.regEnd ?_)))
    refine Rn.retG1 Try.func5 rfl (rvT rfl) ?_
    obtain rfl := someE hM
    exact ⟨rfl, hm6.pick [] rfl (by decide)⟩
  · replace hM := iteF (by rw [h7]; exact Bool.false_ne_true) hM
    refine Rn.skip (Rn.seq (Rn.seq (Rn.reg (Rn.v rfl rfl rfl rfl (V.mv rfl) ?_))))
    obtain ⟨p8, e8, hM⟩ := bindE hM
    refine Rn.cl ck20 rfl rfl rfl rfl (m_limnographref18_Bulk_sim (Z0 := All) _ A0 c0 x0 3000 (slR_all (hm6.get 0 rfl)) e8) ?_
    rintro _ w8 ⟨rfl, hq8⟩
    refine ⟨_, rfl, ?_⟩
    have hm9 := hm6.call0 hq8
    refine Rn.v rfl rfl rfl rfl (V.gtr rfl rfl) (Rn.v rfl rfl rfl rfl (V.mv rfl) ?_)
    refine Rn.cutR [8, 9, 10, 11, 12] [(0, .slice A0 (x0).length c0), (1, .int .i64 (x1)), (2, .slice A2 (x2).length c2), (19, .bool (decide ((p8 > 3000) ∨ ((x0.length : Int) > 30))))] (fun hk10 => ?_) ?_
    · refine Rn.partD (t := 15) rfl (fun h11 => ?_) (fun h11 => ?_)
      · refine Rn.no rfl rfl rfl rfl (Rn.no rfl rfl rfl rfl (Rn.no rfl rfl rfl rfl (Rn.v rfl rfl rfl rfl (V.pkT rfl rfl) ?_)))
        refine hk10 _ ?_
        exact Sub.cons rfl (Sub.cons rfl (Sub.cons rfl (Sub.cons (lkv _ rfl (by first | exact andT h11 | exact andF h11 | exact orT h11 | exact orF h11 | exact nandF h11 | exact nandT h11 | exact norT h11 | exact norF h11 | (simp [h11]; done) | grind)) (Sub.nil _))))
      · refine Rn.v rfl rfl rfl rfl (V.mv rfl) (Rn.v rfl rfl rfl rfl (V.lenV Try.underlying23 rfl) (Rn.v rfl rfl rfl rfl (V.gtr rfl rfl) (Rn.v rfl rfl rfl rfl (V.pkF rfl rfl) ?_)))
        refine hk10 _ ?_
        exact Sub.cons rfl (Sub.cons rfl (Sub.cons rfl (Sub.cons (lkv _ rfl (by first | exact andT h11 | exact andF h11 | exact orT h11 | exact orF h11 | exact nandF h11 | exact nandT h11 | exact norT h11 | exact norF h11 | (simp [h11]; done) | grind)) (Sub.nil _))))
    refine Rn.v rfl rfl rfl rfl (V.mv rfl) ?_
    obtain ⟨j1, hj1, hM⟩ := jnE hM
    refine Rn.joinR (r := r) (G := Bool) [] (fun g => [(0, .slice A0 (x0).length c0), (1, .int .i64 (x1)), (2, .slice A2 (x2).length c2), (24, .bool (g))]) (fun g w' => Hp Z0 No w w' [slR A0 c0 T_api_File.rep x0, slR A2 c2 T_limnographlaw18_Act.rep x2]) (fun g => j1 g) ?_ ?_
    · subst hj1
      clear hM
      rintro y12 w13 hm13 hM
      replace hm13 : Hp Z0 No w w13 [slR A0 c0 T_api_File.rep x0, slR A2 c2 T_limnographlaw18_Act.rep x2] := hm13
      show Rn _ _ _ _ _ [(0, .slice A0 (x0).length c0), (1, .int .i64 (x1)), (2, .slice A2 (x2).length c2), (24, .bool (y12))] _
      try dsimp only at hM
      refine Rn.regEnd ?_
      refine Rn.condS rfl (fun h14 => ?_) (fun h14 => ?_)
      · replace hM := iteT h14 hM
        refine Rn.seq (Rn.reg (Rn.v rfl rfl rfl rfl (V.as rfl) (Rn.regEnd ?_)))
        refine Rn.retG1 Try.func5 rfl (rvT rfl) ?_
        obtain rfl := someE hM
        exact ⟨rfl, hm13.pick [] rfl (by decide)⟩
      · replace hM := iteF (by rw [h14]; exact Bool.false_ne_true) hM
        refine Rn.skip (Rn.seq (Rn.reg (Rn.v rfl rfl rfl rfl (V.mv rfl) (Rn.v rfl rfl rfl rfl (V.mv rfl) ?_))))
        obtain ⟨p15, e15, hM⟩ := bindE hM
        refine Rn.cl ck7 rfl rfl rfl rfl (m_disk_New_sim (Z0 := All) _ A0 c0 x0 x1 (slR_all (hm13.get 0 rfl)) e15) ?_
        rintro _ w15 ⟨F15_0, b15_0, rfl, hq15⟩
        refine ⟨_, rfl, ?_⟩
        have hm17 : Hp Z0 No w w15 [slR A0 c0 T_api_File.rep x0, slR A2 c2 T_limnographlaw18_Act.rep x2, optR p15 (fun z => diskO 59 64 5 F15_0 b15_0 z)] := hm13.callF (flC (optR_flat fun _ => diskO_flat _ _ _ _ _ _) fl0) hq15
        refine Rn.v rfl rfl rfl rfl (V.as rfl) (Rn.regEnd (Rn.seq (Rn.reg (Rn.v rfl rfl rfl rfl (V.mv rfl) (Rn.v rfl rfl rfl rfl (V.mv rfl) ?_)))))
        obtain ⟨p18, e18, hM⟩ := bindE hM
        refine Rn.cl ck13 rfl rfl rfl rfl (m_limnographref18_New_sim (Z0 := Zo Z0 No w [slR A0 c0 T_api_File.rep x0, slR A2 c2 T_limnographlaw18_Act.rep x2, optR p15 (fun z => diskO 59 64 5 F15_0 b15_0 z)]) _ A0 c0 x0 x1 (hm17.get 0 rfl) e18) ?_
        rintro _ w18 ⟨F18_0, b18_0, rfl, hq18⟩
        refine ⟨_, rfl, ?_⟩
        have hm20 : Hp Z0 No w w18 [slR A0 c0 T_api_File.rep x0, slR A2 c2 T_limnographlaw18_Act.rep x2, optR p15 (fun z => diskO 59 64 5 F15_0 b15_0 z), optR p18 (fun z => T_limnographref18_Disk.obj F18_0 b18_0 z)] := hm17.callZ hq18
        refine Rn.v rfl rfl rfl rfl (V.as rfl) (Rn.regEnd (Rn.seq (Rn.seq (Rn.reg (Rn.v rfl rfl rfl rfl (V.mv rfl) (Rn.v rfl rfl rfl rfl (V.eqlO Try.underlying27 rfl rfl) (Rn.v rfl rfl rfl rfl (V.mv rfl) ?_)))))))
        obtain ⟨j2, hj2, hM⟩ := jnE hM
        refine Rn.joinR (r := r) (G := Bool) [] (fun g => [(1, .int .i64 (x1)), (2, .slice A2 (x2).length c2), (7, .pointer (optP b15_0 p15)), (8, .pointer (optP b18_0 p18)), (36, .bool (g))]) (fun g w' => Hp Z0 No w w' [slR A0 c0 T_api_File.rep x0, slR A2 c2 T_limnographlaw18_Act.rep x2, optR p15 (fun z => diskO 59 64 5 F15_0 b15_0 z), optR p18 (fun z => T_limnographref18_Disk.obj F18_0 b18_0 z)]) (fun g => j2 g) ?_ ?_
        · subst hj2
          clear hM
          rintro y21 w22 hm22 hM
          replace hm22 : Hp Z0 No w w22 [slR A0 c0 T_api_File.rep x0, slR A2 c2 T_limnographlaw18_Act.rep x2, optR p15 (fun z => diskO 59 64 5 F15_0 b15_0 z), optR p18 (fun z => T_limnographref18_Disk.obj F18_0 b18_0 z)] := hm22
          show Rn _ _ _ _ _ [(1, .int .i64 (x1)), (2, .slice A2 (x2).length c2), (7, .pointer (optP b15_0 p15)), (8, .pointer (optP b18_0 p18)), (36, .bool (y21))] _
          try dsimp only at hM
          refine Rn.regEnd ?_
          refine Rn.condS rfl (fun h23 => ?_) (fun h23 => ?_)
          · replace hM := iteT h23 hM
            refine Rn.seq (Rn.reg (Rn.v rfl rfl rfl rfl (V.mv rfl) (Rn.v rfl rfl rfl rfl (V.eqlO Try.underlying27 rfl rfl) (Rn.v rfl rfl rfl rfl (V.mv rfl) ?_))))
            obtain ⟨j3, hj3, hM⟩ := jnE hM
            refine Rn.joinR (r := r) (G := Bool) [6] (fun g => [(42, .bool (g))]) (fun g w' => Hp Z0 No w w' [slR A0 c0 T_api_File.rep x0, slR A2 c2 T_limnographlaw18_Act.rep x2, optR p15 (fun z => diskO 59 64 5 F15_0 b15_0 z), optR p18 (fun z => T_limnographref18_Disk.obj F18_0 b18_0 z)]) (fun g => j3 g) ?_ ?_
            · subst hj3
              clear hM
              rintro y24 w25 hm25 hM
              replace hm25 : Hp Z0 No w w25 [slR A0 c0 T_api_File.rep x0, slR A2 c2 T_limnographlaw18_Act.rep x2, optR p15 (fun z => diskO 59 64 5 F15_0 b15_0 z), optR p18 (fun z => T_limnographref18_Disk.obj F18_0 b18_0 z)] := hm25
              show Rn _ _ _ _ _ [(42, .bool (y24))] _
              try dsimp only at hM
              refine Rn.v rfl rfl rfl rfl (V.as rfl) (Rn.regEnd ?_)
              refine Rn.retG1 Try.func5 rfl (rvT rfl) ?_
              obtain rfl := someE hM
              exact ⟨rfl, hm25.pick [] rfl (by decide)⟩
            intro hk3
            clear hj3
            refine Rn.part (t := 39) rfl (fun h26 => ?_) (fun h26 => ?_)
            · replace hM := iteT h26 hM
              refine Rn.v rfl rfl rfl rfl (V.mv rfl) (Rn.v rfl rfl rfl rfl (V.eqlO Try.underlying39 rfl rfl) (Rn.v rfl rfl rfl rfl (V.pkT rfl rfl) ?_))
              exact hk3 ((p18).isNone) _ _ (Sub.cons rfl (Sub.nil _)) (hm22.pick [0, 1, 2, 3] rfl (by decide)) hM
            · replace hM := iteF (by rw [h26]; exact Bool.false_ne_true) hM
              refine Rn.no rfl rfl rfl rfl (Rn.no rfl rfl rfl rfl (Rn.v rfl rfl rfl rfl (V.pkF rfl rfl) ?_))
              exact hk3 false _ _ (Sub.cons rfl (Sub.nil _)) (hm22.pick [0, 1, 2, 3] rfl (by decide)) hM
          · replace hM := iteF (by rw [h23]; exact Bool.false_ne_true) hM
            refine Rn.skip (Rn.seq (Rn.seq (Rn.reg (Rn.v rfl rfl rfl rfl (V.mv rfl) (Rn.v rfl rfl rfl rfl (V.mv rfl) ?_)))))
            obtain ⟨z28, e28, hM⟩ := bindE hM
            have hm29 : Hp Z0 No w w22 [slR A0 c0 T_api_File.rep x0, slR A2 c2 T_limnographlaw18_Act.rep x2, diskO 59 64 5 F15_0 b15_0 z28, optR p18 (fun z => T_limnographref18_Disk.obj F18_0 b18_0 z)] := hm22.optSome 2 rfl e28
            refine Rn.say (t := 43) (.pointer (some ⟨b15_0, 0, none⟩)) rfl (by rw [e28]; rfl) ?_
            obtain ⟨z30, e30, hM⟩ := bindE hM
            have hm31 : Hp Z0 No w w22 [slR A0 c0 T_api_File.rep x0, slR A2 c2 T_limnographlaw18_Act.rep x2, diskO 59 64 5 F15_0 b15_0 z28, T_limnographref18_Disk.obj F18_0 b18_0 z30] := hm29.optSome 3 rfl e30
            refine Rn.say (t := 44) (.pointer (some ⟨b18_0, 0, none⟩)) rfl (by rw [e30]; rfl) ?_
            obtain ⟨p27, e27, hM⟩ := bindE hM
            refine Rn.cl ck21 rfl rfl rfl rfl (m_limnographlaw18_same_sim (Z0 := All) _ F15_0 b15_0 z28 F18_0 b18_0 z30 (fz_all (hm31.get 2 rfl)) (fz_all (hm31.get 3 rfl)) e27) ?_
            rintro _ w27 ⟨rfl, hq27⟩
            refine ⟨_, rfl, ?_⟩
            have hm32 := hm31.call0 hq27
            refine Rn.v rfl rfl rfl rfl (V.notB rfl) (Rn.regEnd ?_)
            refine Rn.condS rfl (fun h33 => ?_) (fun h33 => ?_)
            · replace hM := iteT h33 hM
              refine Rn.seq (Rn.reg (Rn.v rfl rfl rfl rfl (V.as rfl) (Rn.regEnd ?_)))
              refine Rn.retG1 Try.func5 rfl (rvT rfl) ?_
              obtain rfl := someE hM
              exact ⟨rfl, hm32.pick [] rfl (by decide)⟩
            · replace hM := iteF (by rw [h33]; exact Bool.false_ne_true) hM
              refine Rn.skip (Rn.seq (Rn.seq (Rn.reg (Rn.v rfl rfl rfl rfl (V.as rfl) (Rn.regEnd ?_)))))
              obtain ⟨j4, hj4, hM⟩ := jnE hM
              refine Rn.joinG (r := r) (G := Unit) (fun g => []) (fun g w' => Hp Z0 No w w' [slR A0 c0 T_api_File.rep x0, slR A2 c2 T_limnographlaw18_Act.rep x2]) (fun g => j4 ()) ?_ ?_
              · subst hj4
                clear hM
                rintro _ w34 hm34 hM
                replace hm34 : Hp Z0 No w w34 [slR A0 c0 T_api_File.rep x0, slR A2 c2 T_limnographlaw18_Act.rep x2] := hm34
                show Rn _ _ _ _ _ [] _
                try dsimp only at hM
                refine Rn.seq (Rn.reg (Rn.v rfl rfl rfl rfl (V.as rfl) (Rn.regEnd ?_)))
                refine Rn.retG1 Try.func5 rfl (rvT rfl) ?_
                obtain rfl := someE hM
                exact ⟨rfl, hm34.pick [] rfl (by decide)⟩
              intro hk4
              clear hj4
              refine Rn.block ?_
              refine Rn.loopF (G := Int × PD × T_limnographref18_Disk × (Nat → Prop) × (Nat → Prop)) (fun g => [(1, .int .i64 (x1)), (2, .slice A2 (x2).length c2), (7, .pointer (optP b15_0 p15)), (8, .pointer (optP b18_0 p18)), (9, .int .i64 ((g.1)))]) (fun g w' => Hp Z0 No w w' [slR A0 c0 T_api_File.rep x0, slR A2 c2 T_limnographlaw18_Act.rep x2, diskO 59 64 5 (g.2.2.2.1) b15_0 (g.2.1), T_limnographref18_Disk.obj (g.2.2.2.2) b18_0 (g.2.2.1)]) (fun n g => m_limnographlaw18_DiskPlays_L1 x1 x2 j4 n g.1 g.2.1 g.2.2.1) fuel (0, z28, z30, F15_0, F18_0) (Sub.cons rfl (Sub.cons rfl (Sub.cons rfl (Sub.cons rfl (Sub.cons rfl (Sub.nil _)))))) (hm32.pick [0, 1, 2, 3] rfl (by decide)) hM (fun _ => rfl) ?_
              clear hM
              rintro m38 ⟨y35, y36, y37, F36, F37⟩ w38 hm38 hM hn38
              replace hm38 : Hp Z0 No w w38 [slR A0 c0 T_api_File.rep x0, slR A2 c2 T_limnographlaw18_Act.rep x2, diskO 59 64 5 F36 b15_0 y36, T_limnographref18_Disk.obj F37 b18_0 y37] := hm38
              show Rn _ _ _ _ _ [(1, .int .i64 (x1)), (2, .slice A2 (x2).length c2), (7, .pointer (optP b15_0 p15)), (8, .pointer (optP b18_0 p18)), (9, .int .i64 (y35))] _
              replace hM : m_limnographlaw18_DiskPlays_L1 x1 x2 j4 (m38 + 1) y35 y36 y37 = some r := hM
              rw [m_limnographlaw18_DiskPlays_L1] at hM
              refine Rn.seq (Rn.seq (Rn.reg (Rn.v rfl rfl rfl rfl (V.mv rfl) (Rn.v rfl rfl rfl rfl (V.mv rfl) (Rn.v rfl rfl rfl rfl (V.lenV Try.underlying35 rfl) (Rn.v rfl rfl rfl rfl (V.lss rfl rfl) (Rn.regEnd ?_)))))))
              refine Rn.condD rfl (fun h39 => ?_) (fun h39 => ?_)
              · replace hM := iteT h39 hM
                refine Rn.skip (Rn.seq (Rn.block (Rn.seq (Rn.reg (Rn.v rfl rfl rfl rfl (V.mv rfl) (Rn.v rfl rfl rfl rfl (V.mv rfl) (Rn.v rfl rfl rfl rfl (V.mv rfl) (Rn.v rfl rfl rfl rfl (V.mv rfl) ?_))))))))
                obtain ⟨z40, e40, hM⟩ := bindE hM
                refine Rn.ixH hm38 1 rfl e40 rfl rfl rfl Try.underlying35 Try.sizeOf42 rfl rfl rfl rfl ?_
                rintro b40 o40 vs40 ⟨_, _, rfl, ⟨rfl, _⟩, ⟨_, _, rfl, ⟨rfl, _⟩, ⟨_, _, rfl, ⟨rfl, _⟩, ⟨_, _, rfl, ⟨rfl, _⟩, ⟨_, _, rfl, ⟨rfl, _⟩, ⟨A41, c41, rfl, p41, q41, s41⟩⟩⟩⟩⟩⟩ hm40
                have hm44 : Hp Z0 No w w38 [slR A0 c0 T_api_File.rep x0, slR A2 c2 T_limnographlaw18_Act.rep x2, diskO 59 64 5 F36 b15_0 y36, T_limnographref18_Disk.obj F37 b18_0 y37, rdR b40 o40 [.int .i64 (z40.Kind), Str (z40.A), Str (z40.B), .int .i64 (z40.N), .int .i64 (z40.Code), .slice A41 (z40.Keep).length c41], slR A41 c41 (intR .i64) z40.Keep] := Hp.know1 (M := [slR A41 c41 (intR .i64) z40.Keep]) hm40 (fun _ h => h) (knC (fun _ h => h) ⟨p41, q41, s41⟩ kn0)
                refine Rn.v rfl rfl rfl rfl (V.ldA Try.isAgg42 Try.sizeOf42 rfl (Rd.pre (hm44.get 4 rfl).2 6) rfl) ?_
                refine Rn.say (t := 53) (.pointer (some ⟨b15_0, 0, none⟩)) rfl (by rw [e28]; rfl) ?_
                refine Rn.say (t := 54) (.pointer (some ⟨b18_0, 0, none⟩)) rfl (by rw [e30]; rfl) ?_
                obtain ⟨p45, e45, hM⟩ := bindE hM
                have hm46 := hm44.know (relR T_limnographlaw18_Act.rep [.int .i64 (z40.Kind), Str (z40.A), Str (z40.B), .int .i64 (z40.N), .int .i64 (z40.Code), .slice A41 (z40.Keep).length c41] z40) (fun _ h => h) (show T_limnographlaw18_Act.rep.rel _ _ _ _ from ⟨_, _, rfl, ⟨rfl, trivial⟩, ⟨_, _, rfl, ⟨rfl, trivial⟩, ⟨_, _, rfl, ⟨rfl, trivial⟩, ⟨_, _, rfl, ⟨rfl, trivial⟩, ⟨_, _, rfl, ⟨rfl, trivial⟩, ⟨_, _, rfl, (hm44.get 5 rfl).1, (hm44.get 5 rfl).2.1, (hm44.get 5 rfl).2.2⟩⟩⟩⟩⟩⟩)
                have hm48 : Hp Z0 No w w38 ([slR A0 c0 T_api_File.rep x0, slR A2 c2 T_limnographlaw18_Act.rep x2, rdR b40 o40 [.int .i64 (z40.Kind), Str (z40.A), Str (z40.B), .int .i64 (z40.N), .int .i64 (z40.Code), .slice A41 (z40.Keep).length c41], slR A41 c41 (intR .i64) z40.Keep] ++ [diskO 59 64 5 F36 b15_0 y36, T_limnographref18_Disk.obj F37 b18_0 y37, relR T_limnographlaw18_Act.rep [.int .i64 (z40.Kind), Str (z40.A), Str (z40.B), .int .i64 (z40.N), .int .i64 (z40.Code), .slice A41 (z40.Keep).length c41] z40]) := hm46.pick [0, 1, 4, 5, 2, 3, 6] rfl (by decide)
                refine Rn.cl ck14 rfl rfl rfl rfl (m_limnographlaw18_do_sim (Z0 := _) _ F36 b15_0 y36 F37 b18_0 y37 z40 [.int .i64 (z40.Kind), Str (z40.A), Str (z40.B), .int .i64 (z40.N), .int .i64 (z40.Code), .slice A41 (z40.Keep).length c41] hm48.lend e45) ?_
                rintro _ w45 ⟨F45_p0, F45_p1, rfl, hq45⟩
                refine ⟨_, rfl, ?_⟩
                have hm51 : Hp Z0 No w w45 [slR A0 c0 T_api_File.rep x0, slR A2 c2 T_limnographlaw18_Act.rep x2, rdR b40 o40 [.int .i64 (z40.Kind), Str (z40.A), Str (z40.B), .int .i64 (z40.N), .int .i64 (z40.Code), .slice A41 (z40.Keep).length c41], slR A41 c41 (intR .i64) z40.Keep, diskO 59 64 5 F45_p0 b15_0 p45.2.1, T_limnographref18_Disk.obj F45_p1 b18_0 p45.2.2] := hm48.callAZ hq45
                refine Rn.v rfl rfl rfl rfl (V.notB rfl) (Rn.v rfl rfl rfl rfl (V.mv rfl) ?_)
                obtain ⟨j5, hj5, hM⟩ := jnE hM
                refine Rn.joinR (r := r) (G := Bool × (Nat → Prop) × (Nat → Prop)) [14, 15, 16, 17, 18, 19] (fun g => [(1, .int .i64 (x1)), (2, .slice A2 (x2).length c2), (7, .pointer (optP b15_0 p15)), (8, .pointer (optP b18_0 p18)), (9, .int .i64 (y35)), (66, .bool ((g.1)))]) (fun g w' => Hp Z0 No w w' [slR A0 c0 T_api_File.rep x0, slR A2 c2 T_limnographlaw18_Act.rep x2, rdR b40 o40 [.int .i64 (z40.Kind), Str (z40.A), Str (z40.B), .int .i64 (z40.N), .int .i64 (z40.Code), .slice A41 (z40.Keep).length c41], slR A41 c41 (intR .i64) z40.Keep, diskO 59 64 5 (g.2.1) b15_0 p45.2.1, T_limnographref18_Disk.obj (g.2.2) b18_0 p45.2.2]) (fun g => j5 g.1) ?_ ?_
                · subst hj5
                  clear hM
                  rintro ⟨y54, F52, F53⟩ w55 hm55 hM
                  replace hm55 : Hp Z0 No w w55 [slR A0 c0 T_api_File.rep x0, slR A2 c2 T_limnographlaw18_Act.rep x2, rdR b40 o40 [.int .i64 (z40.Kind), Str (z40.A), Str (z40.B), .int .i64 (z40.N), .int .i64 (z40.Code), .slice A41 (z40.Keep).length c41], slR A41 c41 (intR .i64) z40.Keep, diskO 59 64 5 F52 b15_0 p45.2.1, T_limnographref18_Disk.obj F53 b18_0 p45.2.2] := hm55
                  show Rn _ _ _ _ _ [(1, .int .i64 (x1)), (2, .slice A2 (x2).length c2), (7, .pointer (optP b15_0 p15)), (8, .pointer (optP b18_0 p18)), (9, .int .i64 (y35)), (66, .bool (y54))] _
                  try dsimp only at hM
                  refine Rn.v rfl rfl rfl rfl (V.mv rfl) ?_
                  obtain ⟨j6, hj6, hM⟩ := jnE hM
                  refine Rn.joinR (r := r) (G := Bool × (Nat → Prop) × (Nat → Prop)) [] (fun g => [(1, .int .i64 (x1)), (2, .slice A2 (x2).length c2), (7, .pointer (optP b15_0 p15)), (8, .pointer (optP b18_0 p18)), (9, .int .i64 (y35)), (72, .bool ((g.1)))]) (fun g w' => Hp Z0 No w w' [slR A0 c0 T_api_File.rep x0, slR A2 c2 T_limnographlaw18_Act.rep x2, rdR b40 o40 [.int .i64 (z40.Kind), Str (z40.A), Str (z40.B), .int .i64 (z40.N), .int .i64 (z40.Code), .slice A41 (z40.Keep).length c41], slR A41 c41 (intR .i64) z40.Keep, diskO 59 64 5 (g.2.1) b15_0 p45.2.1, T_limnographref18_Disk.obj (g.2.2) b18_0 p45.2.2]) (fun g => j6 g.1) ?_ ?_
                  · subst hj6
                    clear hM
                    rintro ⟨y58, F56, F57⟩ w59 hm59 hM
                    replace hm59 : Hp Z0 No w w59 [slR A0 c0 T_api_File.rep x0, slR A2 c2 T_limnographlaw18_Act.rep x2, rdR b40 o40 [.int .i64 (z40.Kind), Str (z40.A), Str (z40.B), .int .i64 (z40.N), .int .i64 (z40.Code), .slice A41 (z40.Keep).length c41], slR A41 c41 (intR .i64) z40.Keep, diskO 59 64 5 F56 b15_0 p45.2.1, T_limnographref18_Disk.obj F57 b18_0 p45.2.2] := hm59
                    show Rn _ _ _ _ _ [(1, .int .i64 (x1)), (2, .slice A2 (x2).length c2), (7, .pointer (optP b15_0 p15)), (8, .pointer (optP b18_0 p18)), (9, .int .i64 (y35)), (72, .bool (y58))] _
                    try dsimp only at hM
                    refine Rn.regEnd ?_
                    refine Rn.condS rfl (fun h60 => ?_) (fun h60 => ?_)
                    · replace hM := iteT h60 hM
                      refine Rn.seq (Rn.reg (Rn.v rfl rfl rfl rfl (V.as rfl) (Rn.regEnd ?_)))
                      refine Rn.retG1 Try.func5 rfl (rvT rfl) ?_
                      obtain rfl := someE hM
                      exact ⟨rfl, hm59.pick [] rfl (by decide)⟩
                    · replace hM := iteF (by rw [h60]; exact Bool.false_ne_true) hM
                      refine Rn.skip (Rn.inBlock (Rn.reg (Rn.v rfl rfl rfl rfl (V.mv rfl) (Rn.v rfl rfl rfl rfl (V.addW rfl rfl) (Rn.v rfl rfl rfl rfl (V.as rfl) (Rn.regEnd ?_))))))
                      exact hn38 ((W64 (y35 + 1)), p45.2.1, p45.2.2, F56, F57) _ _ (Sub.cons rfl (Sub.cons rfl (Sub.cons rfl (Sub.cons rfl (Sub.cons rfl (Sub.nil _)))))) (hm59.pick [0, 1, 4, 5] rfl (by decide)) hM
                  intro hk6
                  clear hj6
                  refine Rn.part (t := 67) rfl (fun h61 => ?_) (fun h61 => ?_)
                  · replace hM := iteT h61 hM
                    refine Rn.no rfl rfl rfl rfl (Rn.no rfl rfl rfl rfl (Rn.no rfl rfl rfl rfl (Rn.no rfl rfl rfl rfl (Rn.v rfl rfl rfl rfl (V.pkT rfl rfl) ?_))))
                    exact hk6 (true, F52, F53) _ _ (Sub.cons rfl (Sub.cons rfl (Sub.cons rfl (Sub.cons rfl (Sub.cons rfl (Sub.cons rfl (Sub.nil _))))))) (hm55.pick [0, 1, 2, 3, 4, 5] rfl (by decide)) hM
                  · replace hM := iteF (by rw [h61]; exact Bool.false_ne_true) hM
                    refine Rn.v rfl rfl rfl rfl (V.mv rfl) ?_
                    refine Rn.say (t := 68) (.pointer (some ⟨b15_0, 0, none⟩)) rfl (by rw [e28]; rfl) ?_
                    obtain ⟨p62, e62, hM⟩ := bindE hM
                    refine Rn.cl ck22 rfl rfl rfl rfl (m_disk_Disk_Used_sim (Z0 := All) _ F52 b15_0 p45.2.1 (fz_all (hm55.get 4 rfl)) e62) ?_
                    rintro _ w62 ⟨rfl, hq62⟩
                    refine ⟨_, rfl, ?_⟩
                    have hm63 := hm55.call0 hq62
                    refine Rn.v rfl rfl rfl rfl (V.mv rfl) (Rn.v rfl rfl rfl rfl (V.gtr rfl rfl) (Rn.v rfl rfl rfl rfl (V.pkF rfl rfl) ?_))
                    exact hk6 ((decide (p62 > x1)), F52, F53) _ _ (Sub.cons rfl (Sub.cons rfl (Sub.cons rfl (Sub.cons rfl (Sub.cons rfl (Sub.cons rfl (Sub.nil _))))))) (hm63.pick [0, 1, 2, 3, 4, 5] rfl (by decide)) hM
                intro hk5
                clear hj5
                refine Rn.part (t := 61) rfl (fun h64 => ?_) (fun h64 => ?_)
                · replace hM := iteT h64 hM
                  refine Rn.no rfl rfl rfl rfl (Rn.no rfl rfl rfl rfl (Rn.no rfl rfl rfl rfl (Rn.no rfl rfl rfl rfl (Rn.v rfl rfl rfl rfl (V.pkT rfl rfl) ?_))))
                  exact hk5 (true, F45_p0, F45_p1) _ _ (Sub.cons rfl (Sub.cons rfl (Sub.cons rfl (Sub.cons rfl (Sub.cons rfl (Sub.cons rfl (Sub.nil _))))))) (hm51.pick [0, 1, 2, 3, 4, 5] rfl (by decide)) hM
                · replace hM := iteF (by rw [h64]; exact Bool.false_ne_true) hM
                  refine Rn.v rfl rfl rfl rfl (V.mv rfl) (Rn.v rfl rfl rfl rfl (V.mv rfl) ?_)
                  refine Rn.say (t := 62) (.pointer (some ⟨b15_0, 0, none⟩)) rfl (by rw [e28]; rfl) ?_
                  refine Rn.say (t := 63) (.pointer (some ⟨b18_0, 0, none⟩)) rfl (by rw [e30]; rfl) ?_
                  obtain ⟨p65, e65, hM⟩ := bindE hM
                  refine Rn.cl ck21 rfl rfl rfl rfl (m_limnographlaw18_same_sim (Z0 := All) _ F45_p0 b15_0 p45.2.1 F45_p1 b18_0 p45.2.2 (fz_all (hm51.get 4 rfl)) (fz_all (hm51.get 5 rfl)) e65) ?_
                  rintro _ w65 ⟨rfl, hq65⟩
                  refine ⟨_, rfl, ?_⟩
                  have hm66 := hm51.call0 hq65
                  refine Rn.v rfl rfl rfl rfl (V.notB rfl) (Rn.v rfl rfl rfl rfl (V.pkF rfl rfl) ?_)
                  exact hk5 ((!p65), F45_p0, F45_p1) _ _ (Sub.cons rfl (Sub.cons rfl (Sub.cons rfl (Sub.cons rfl (Sub.cons rfl (Sub.cons rfl (Sub.nil _))))))) (hm66.pick [0, 1, 2, 3, 4, 5] rfl (by decide)) hM
              · replace hM := iteF h39 hM
                refine Rn.exit rfl ?_
                exact hk4 () _ _ (Sub.nil _) (hm38.pick [0, 1] rfl (by decide)) hM
        intro hk2
        clear hj2
        refine Rn.part (t := 33) rfl (fun h67 => ?_) (fun h67 => ?_)
        · replace hM := iteT h67 hM
          refine Rn.no rfl rfl rfl rfl (Rn.no rfl rfl rfl rfl (Rn.v rfl rfl rfl rfl (V.pkT rfl rfl) ?_))
          exact hk2 true _ _ (Sub.cons rfl (Sub.cons rfl (Sub.cons rfl (Sub.cons rfl (Sub.cons rfl (Sub.nil _)))))) (hm20.pick [0, 1, 2, 3] rfl (by decide)) hM
        · replace hM := iteF (by rw [h67]; exact Bool.false_ne_true) hM
          refine Rn.v rfl rfl rfl rfl (V.mv rfl) (Rn.v rfl rfl rfl rfl (V.eqlO Try.underlying39 rfl rfl) (Rn.v rfl rfl rfl rfl (V.pkF rfl rfl) ?_))
          exact hk2 ((p18).isNone) _ _ (Sub.cons rfl (Sub.cons rfl (Sub.cons rfl (Sub.cons rfl (Sub.cons rfl (Sub.nil _)))))) (hm20.pick [0, 1, 2, 3] rfl (by decide)) hM
    intro hk1
    clear hj1
    refine Rn.partD (t := 20) rfl (fun h68 => ?_) (fun h68 => ?_)
    · replace hM := iteT h68 hM
      refine Rn.no rfl rfl rfl rfl (Rn.no rfl rfl rfl rfl (Rn.no rfl rfl rfl rfl (Rn.v rfl rfl rfl rfl (V.pkT rfl rfl) ?_)))
      exact hk1 true _ _ (Sub.cons rfl (Sub.cons rfl (Sub.cons rfl (Sub.cons rfl (Sub.nil _))))) (hm9.pick [0, 1] rfl (by decide)) hM
    · replace hM := iteF h68 hM
      refine Rn.v rfl rfl rfl rfl (V.mv rfl) ?_
      obtain ⟨p69, e69, hM⟩ := bindE hM
      refine Rn.cl ck10 rfl rfl rfl rfl (m_limnographlaw18_few_sim (Z0 := All) _ A2 c2 x2 (slR_all (hm9.get 1 rfl)) e69) ?_
      rintro _ w69 ⟨rfl, hq69⟩
      refine ⟨_, rfl, ?_⟩
      have hm70 := hm9.call0 hq69
      refine Rn.v rfl rfl rfl rfl (V.notB rfl) (Rn.v rfl rfl rfl rfl (V.pkF rfl rfl) ?_)
      exact hk1 (!p69) _ _ (Sub.cons rfl (Sub.cons rfl (Sub.cons rfl (Sub.cons rfl (Sub.nil _))))) (hm70.pick [0, 1] rfl (by decide)) hM

end Go.Proofs.Ytboelmiicbcjiaa
