/-
  The calls of functions of the program answer as their plain forms say, part 2. Printed by a program.
-/
import Derived.Test.YtknenggmdnpimaaRows
import Derived.Test.YtknenggmdnpimaaSA1
import Derived.Test.YtknenggmdnpimaaK1
import Derived.Test.YtknenggmdnpimaaWv
import Derived.Test.YtknenggmdnpimaaIt
set_option linter.unusedVariables false
set_option linter.unusedSimpArgs false
namespace Go.Proofs.Ytknenggmdnpimaa
open Go Go.RowKit Go.Wk
set_option maxRecDepth 20000 in
theorem m_limnographref18_Disk_Sync_sim {Z0 : Nat → Prop} (w : World) (F0 : Nat → Prop) (b0 : Nat) (x0 : T_limnographref18_Disk) (x1 : (List UInt8)) {r : (Int × T_limnographref18_Disk)} (hL : Lent Z0 w [T_limnographref18_Disk.obj F0 b0 x0]) (hM : m_limnographref18_Disk_Sync x0 x1 = some r) :
    Calls Try.prog 62 #[.pointer (some ⟨b0, 0, none⟩), Str (x1)] w fun x w' => ∃ F_p0, x = .returned (.int .i64 (r.1)) ∧ Hp Z0 (LS [T_limnographref18_Disk.obj F0 b0 x0]) w w' [T_limnographref18_Disk.obj F_p0 b0 r.2] := by
  have hm0 := hL.start
  refine Rn.enter Try.func62 rfl rfl (Nat.le_of_ble_eq_true rfl) ?_
  refine Rn.seq (Rn.reg (Rn.v rfl rfl rfl rfl (V.as rfl) (Rn.regEnd (Rn.seq (Rn.seq (Rn.reg (Rn.v rfl rfl rfl rfl (V.mv rfl) ?_)))))))
  obtain ⟨p2, e2, hM⟩ := bindE hM
  have hm3 : Hp Z0 (LS [T_limnographref18_Disk.obj F0 b0 x0]) w w ([] ++ [T_limnographref18_Disk.obj F0 b0 x0]) := hm0.pick [0] rfl (by decide)
  refine Rn.cl ck64 rfl rfl rfl rfl (m_limnographref18_Disk_begin_sim (Z0 := _) _ F0 b0 x0 hm3.lend e2) ?_
  rintro _ w2 ⟨F2_p0, rfl, hq2⟩
  refine ⟨_, rfl, ?_⟩
  have hm5 : Hp Z0 (LS [T_limnographref18_Disk.obj F0 b0 x0]) w w2 [T_limnographref18_Disk.obj F2_p0 b0 p2.2] := hm3.callAZ hq2
  refine Rn.v rfl rfl rfl rfl (V.as rfl) (Rn.regEnd (Rn.seq (Rn.reg (Rn.v rfl rfl rfl rfl (V.mv rfl) (Rn.v rfl rfl rfl rfl (V.neq rfl rfl) (Rn.regEnd ?_))))))
  refine Rn.condD rfl (fun h6 => ?_) (fun h6 => ?_)
  · replace hM := iteT h6 hM
    refine Rn.seq (Rn.reg (Rn.v rfl rfl rfl rfl (V.mv rfl) (Rn.v rfl rfl rfl rfl (V.as rfl) (Rn.regEnd ?_))))
    refine Rn.retG1 Try.func62 rfl (rvT rfl) ?_
    obtain rfl := someE hM
    exact ⟨F2_p0, rfl, hm5.pick [0] rfl (by decide)⟩
  · replace hM := iteF h6 hM
    refine Rn.skip (Rn.seq (Rn.reg (Rn.v rfl rfl rfl rfl (V.mv rfl) (Rn.v rfl rfl rfl rfl (V.mv rfl) ?_))))
    obtain ⟨p7, e7, hM⟩ := bindE hM
    refine Rn.cl ck39 rfl rfl rfl rfl (m_limnographref18_Disk_Find_sim (Z0 := All) _ F2_p0 b0 p2.2 x1 (fz_all (hm5.get 0 rfl)) e7) ?_
    rintro _ w7 ⟨rfl, hq7⟩
    refine ⟨_, rfl, ?_⟩
    have hm8 := hm5.call0 hq7
    refine Rn.v rfl rfl rfl rfl (V.as rfl) (Rn.regEnd (Rn.seq (Rn.seq (Rn.reg (Rn.v rfl rfl rfl rfl (V.mv rfl) (Rn.v rfl rfl rfl rfl (V.lss rfl rfl) (Rn.regEnd ?_)))))))
    refine Rn.condD rfl (fun h9 => ?_) (fun h9 => ?_)
    · replace hM := iteT h9 hM
      refine Rn.seq (Rn.reg (Rn.v rfl rfl rfl rfl (V.as rfl) (Rn.regEnd ?_)))
      refine Rn.retG1 Try.func62 rfl (rvT rfl) ?_
      obtain rfl := someE hM
      exact ⟨F2_p0, rfl, hm8.pick [0] rfl (by decide)⟩
    · replace hM := iteF h9 hM
      refine Rn.skip (Rn.seq (Rn.reg (Rn.v rfl rfl rfl rfl (V.mv rfl) (Rn.v rfl rfl rfl rfl (V.nil rfl) (Rn.v rfl rfl rfl rfl (V.fa Try.underlying52 rfl Try.sizeOf50 rfl rfl) ?_)))))
      obtain ⟨_, ⟨A10_0, c10_0, rfl⟩, hm10⟩ := hm8.unf 0 rfl
      replace hm10 : Hp Z0 (LS [T_limnographref18_Disk.obj F0 b0 x0]) w w7 [boxR b0 52 [.slice A10_0 (p2.2.L).length c10_0, .int .i64 (p2.2.Capacity), .bool (p2.2.Down), .int .i64 (p2.2.Calls), .int .i64 (p2.2.Fail), .int .i64 (p2.2.Crash), .int .i64 (p2.2.Err)], ownR 87 A10_0 c10_0 T_limnographref18_File.rep p2.2.L] := hm10
      refine Rn.v rfl rfl rfl rfl (V.ldB Try.isAgg50 rfl (hm10.get 0 rfl) rfl) (Rn.v rfl rfl rfl rfl (V.mv rfl) ?_)
      obtain ⟨z12, e12, hM⟩ := bindE hM
      obtain ⟨kk12, ke12, kz12, kl12⟩ := idxE e12
      obtain ⟨g12, vs12, hA12, hR12, hrel12⟩ := hm10.ownAt 1 rfl kz12
      subst hA12
      obtain ⟨_, _, rfl, ⟨rfl, _⟩, ⟨_, _, rfl, ⟨A13, c13, rfl, p13, q13, s13⟩, ⟨rfl, _⟩⟩⟩ := hrel12
      have hm15 : Hp Z0 (LS [T_limnographref18_Disk.obj F0 b0 x0]) w w7 [boxR b0 52 [.slice (some ⟨g12, 0, none⟩) (p2.2.L).length c10_0, .int .i64 (p2.2.Capacity), .bool (p2.2.Down), .int .i64 (p2.2.Calls), .int .i64 (p2.2.Fail), .int .i64 (p2.2.Crash), .int .i64 (p2.2.Err)], ownR 87 (some ⟨g12, 0, none⟩) c10_0 T_limnographref18_File.rep p2.2.L, slR A13 c13 byteR z12.Data] := Hp.knowL [slR A13 c13 byteR z12.Data] _ hm10 (knC (fun _ h => h) ⟨p13, q13, s13⟩ kn0)
      refine Rn.v rfl rfl rfl rfl (V.ixE kk12 Try.underlying50 Try.sizeOf87 rfl rfl ke12 kl12) (Rn.v rfl rfl rfl rfl (V.ldA Try.isAgg87 Try.sizeOf87 rfl (Rd.pre hR12 3) rfl) (Rn.als rfl rfl rfl Try.zeroValue87 rfl Try.sizeOf87 rfl rfl rfl rfl (by first | exact ones rfl | (simp [Value.oneCell']; done)) ?_))
      intro b16 w16 hb16 m16 e16
      have hm18 : Hp Z0 (LS [T_limnographref18_Disk.obj F0 b0 x0]) w w16 [boxR b0 52 [.slice (some ⟨g12, 0, none⟩) (p2.2.L).length c10_0, .int .i64 (p2.2.Capacity), .bool (p2.2.Down), .int .i64 (p2.2.Calls), .int .i64 (p2.2.Fail), .int .i64 (p2.2.Crash), .int .i64 (p2.2.Err)], ownR 87 (some ⟨g12, 0, none⟩) c10_0 T_limnographref18_File.rep p2.2.L, slR A13 c13 byteR z12.Data, boxR b16 87 [Str (z12.Name), .slice A13 (z12.Data).length c13, .int .i64 (z12.Sure)]] := hm15.addBox hb16 e16 m16
      refine Rn.regEnd (Rn.seq (Rn.reg (Rn.v rfl rfl rfl rfl (V.mv rfl) (Rn.v rfl rfl rfl rfl (V.mv rfl) (Rn.v rfl rfl rfl rfl (V.fa Try.underlying87 rfl Try.sizeOf22 rfl rfl) (Rn.v rfl rfl rfl rfl (V.ldB Try.isAgg22 rfl (hm18.get 3 rfl) rfl) (Rn.v rfl rfl rfl rfl (V.fa Try.underlying87 rfl Try.sizeOf22 rfl rfl) (Rn.v rfl rfl rfl rfl (V.ldB Try.isAgg22 rfl (hm18.get 3 rfl) rfl) (Rn.v rfl rfl rfl rfl (V.lenV Try.underlying22 rfl) (Rn.v rfl rfl rfl rfl (V.bldS st87 rfl rfl) ?_))))))))))
      have hm21 : Hp Z0 (LS [T_limnographref18_Disk.obj F0 b0 x0]) w w16 ([slR A13 c13 byteR z12.Data, boxR b16 87 [Str (z12.Name), .slice A13 (z12.Data).length c13, .int .i64 (z12.Sure)]] ++ [boxR b0 52 [.slice (some ⟨g12, 0, none⟩) (p2.2.L).length c10_0, .int .i64 (p2.2.Capacity), .bool (p2.2.Down), .int .i64 (p2.2.Calls), .int .i64 (p2.2.Fail), .int .i64 (p2.2.Crash), .int .i64 (p2.2.Err)], ownR 87 (some ⟨g12, 0, none⟩) c10_0 T_limnographref18_File.rep p2.2.L]) := hm18.pick [2, 3, 0, 1] rfl (by decide)
      obtain ⟨F20, hm20⟩ := hm21.fold (T_limnographref18_Disk.sh b0 p2.2) ⟨(some ⟨g12, 0, none⟩), c10_0, rfl⟩
      replace hm20 : Hp Z0 (LS [T_limnographref18_Disk.obj F0 b0 x0]) w w16 [slR A13 c13 byteR z12.Data, boxR b16 87 [Str (z12.Name), .slice A13 (z12.Data).length c13, .int .i64 (z12.Sure)], T_limnographref18_Disk.obj F20 b0 p2.2] := hm20
      obtain ⟨p19, e19, hM⟩ := bindE hM
      have hm22 := hm20.know (relR T_limnographref18_File.rep [Str (x1), .slice A13 (z12.Data).length c13, .int .i64 ((z12.Data.length : Int))] ({ Name := x1, Data := z12.Data, Sure := (z12.Data.length : Int) } : T_limnographref18_File)) (fun _ h => h) (show T_limnographref18_File.rep.rel _ _ _ _ from ⟨_, _, rfl, ⟨rfl, trivial⟩, ⟨_, _, rfl, ⟨_, _, rfl, (hm20.get 0 rfl).1, (hm20.get 0 rfl).2.1, (hm20.get 0 rfl).2.2⟩, ⟨rfl, trivial⟩⟩⟩)
      have hm24 : Hp Z0 (LS [T_limnographref18_Disk.obj F0 b0 x0]) w w16 ([slR A13 c13 byteR z12.Data, boxR b16 87 [Str (z12.Name), .slice A13 (z12.Data).length c13, .int .i64 (z12.Sure)]] ++ [T_limnographref18_Disk.obj F20 b0 p2.2, relR T_limnographref18_File.rep [Str (x1), .slice A13 (z12.Data).length c13, .int .i64 ((z12.Data.length : Int))] ({ Name := x1, Data := z12.Data, Sure := (z12.Data.length : Int) } : T_limnographref18_File)]) := hm22.pick [0, 1, 2, 3] rfl (by decide)
      refine Rn.cl ck41 rfl rfl rfl rfl (m_limnographref18_Disk_put_sim (Z0 := _) _ F20 b0 p2.2 ({ Name := x1, Data := z12.Data, Sure := (z12.Data.length : Int) } : T_limnographref18_File) [Str (x1), .slice A13 (z12.Data).length c13, .int .i64 ((z12.Data.length : Int))] hm24.lend e19) ?_
      rintro _ w19 ⟨F19_p0, rfl, hq19⟩
      refine ⟨_, rfl, ?_⟩
      have hm26 : Hp Z0 (LS [T_limnographref18_Disk.obj F0 b0 x0]) w w19 [slR A13 c13 byteR z12.Data, boxR b16 87 [Str (z12.Name), .slice A13 (z12.Data).length c13, .int .i64 (z12.Sure)], T_limnographref18_Disk.obj F19_p0 b0 p19] := hm24.callAZ hq19
      refine Rn.regEnd (Rn.seq (Rn.reg (Rn.v rfl rfl rfl rfl (V.as rfl) (Rn.regEnd ?_))))
      refine Rn.retG1 Try.func62 rfl (rvT rfl) ?_
      obtain rfl := someE hM
      exact ⟨F19_p0, rfl, hm26.pick [2] rfl (by decide)⟩

set_option maxRecDepth 20000 in
theorem m_limnographref18_Disk_Rename_sim {Z0 : Nat → Prop} (w : World) (F0 : Nat → Prop) (b0 : Nat) (x0 : T_limnographref18_Disk) (x1 : (List UInt8)) (x2 : (List UInt8)) {r : (Int × T_limnographref18_Disk)} (hL : Lent Z0 w [T_limnographref18_Disk.obj F0 b0 x0]) (hM : m_limnographref18_Disk_Rename x0 x1 x2 = some r) :
    Calls Try.prog 63 #[.pointer (some ⟨b0, 0, none⟩), Str (x1), Str (x2)] w fun x w' => ∃ F_p0, x = .returned (.int .i64 (r.1)) ∧ Hp Z0 (LS [T_limnographref18_Disk.obj F0 b0 x0]) w w' [T_limnographref18_Disk.obj F_p0 b0 r.2] := by
  have hm0 := hL.start
  refine Rn.enter Try.func63 rfl rfl (Nat.le_of_ble_eq_true rfl) ?_
  refine Rn.seq (Rn.reg (Rn.v rfl rfl rfl rfl (V.as rfl) (Rn.regEnd (Rn.seq (Rn.seq (Rn.reg (Rn.v rfl rfl rfl rfl (V.mv rfl) ?_)))))))
  obtain ⟨p2, e2, hM⟩ := bindE hM
  have hm3 : Hp Z0 (LS [T_limnographref18_Disk.obj F0 b0 x0]) w w ([] ++ [T_limnographref18_Disk.obj F0 b0 x0]) := hm0.pick [0] rfl (by decide)
  refine Rn.cl ck64 rfl rfl rfl rfl (m_limnographref18_Disk_begin_sim (Z0 := _) _ F0 b0 x0 hm3.lend e2) ?_
  rintro _ w2 ⟨F2_p0, rfl, hq2⟩
  refine ⟨_, rfl, ?_⟩
  have hm5 : Hp Z0 (LS [T_limnographref18_Disk.obj F0 b0 x0]) w w2 [T_limnographref18_Disk.obj F2_p0 b0 p2.2] := hm3.callAZ hq2
  refine Rn.v rfl rfl rfl rfl (V.as rfl) (Rn.regEnd (Rn.seq (Rn.reg (Rn.v rfl rfl rfl rfl (V.mv rfl) (Rn.v rfl rfl rfl rfl (V.neq rfl rfl) (Rn.regEnd ?_))))))
  refine Rn.condD rfl (fun h6 => ?_) (fun h6 => ?_)
  · replace hM := iteT h6 hM
    refine Rn.seq (Rn.reg (Rn.v rfl rfl rfl rfl (V.mv rfl) (Rn.v rfl rfl rfl rfl (V.as rfl) (Rn.regEnd ?_))))
    refine Rn.retG1 Try.func63 rfl (rvT rfl) ?_
    obtain rfl := someE hM
    exact ⟨F2_p0, rfl, hm5.pick [0] rfl (by decide)⟩
  · replace hM := iteF h6 hM
    refine Rn.skip (Rn.seq (Rn.seq (Rn.reg (Rn.v rfl rfl rfl rfl (V.mv rfl) ?_))))
    obtain ⟨p7, e7, hM⟩ := bindE hM
    refine Rn.cl ck38 rfl rfl rfl rfl (m_limnographref18_Name_sim (Z0 := All) _ x2  e7) ?_
    rintro _ w7 ⟨rfl, hq7⟩
    refine ⟨_, rfl, ?_⟩
    have hm8 := hm5.call0 hq7
    refine Rn.v rfl rfl rfl rfl (V.notB rfl) (Rn.regEnd ?_)
    refine Rn.condS rfl (fun h9 => ?_) (fun h9 => ?_)
    · replace hM := iteT h9 hM
      refine Rn.seq (Rn.reg (Rn.v rfl rfl rfl rfl (V.as rfl) (Rn.regEnd ?_)))
      refine Rn.retG1 Try.func63 rfl (rvT rfl) ?_
      obtain rfl := someE hM
      exact ⟨F2_p0, rfl, hm8.pick [0] rfl (by decide)⟩
    · replace hM := iteF (by rw [h9]; exact Bool.false_ne_true) hM
      refine Rn.skip (Rn.seq (Rn.reg (Rn.v rfl rfl rfl rfl (V.mv rfl) (Rn.v rfl rfl rfl rfl (V.mv rfl) ?_))))
      obtain ⟨p10, e10, hM⟩ := bindE hM
      refine Rn.cl ck39 rfl rfl rfl rfl (m_limnographref18_Disk_Find_sim (Z0 := All) _ F2_p0 b0 p2.2 x1 (fz_all (hm8.get 0 rfl)) e10) ?_
      rintro _ w10 ⟨rfl, hq10⟩
      refine ⟨_, rfl, ?_⟩
      have hm11 := hm8.call0 hq10
      refine Rn.v rfl rfl rfl rfl (V.as rfl) (Rn.regEnd (Rn.seq (Rn.seq (Rn.reg (Rn.v rfl rfl rfl rfl (V.mv rfl) (Rn.v rfl rfl rfl rfl (V.lss rfl rfl) (Rn.regEnd ?_)))))))
      refine Rn.condD rfl (fun h12 => ?_) (fun h12 => ?_)
      · replace hM := iteT h12 hM
        refine Rn.seq (Rn.reg (Rn.v rfl rfl rfl rfl (V.as rfl) (Rn.regEnd ?_)))
        refine Rn.retG1 Try.func63 rfl (rvT rfl) ?_
        obtain rfl := someE hM
        exact ⟨F2_p0, rfl, hm11.pick [0] rfl (by decide)⟩
      · replace hM := iteF h12 hM
        refine Rn.skip (Rn.seq (Rn.reg (Rn.v rfl rfl rfl rfl (V.mv rfl) (Rn.v rfl rfl rfl rfl (V.nil rfl) (Rn.v rfl rfl rfl rfl (V.fa Try.underlying52 rfl Try.sizeOf50 rfl rfl) ?_)))))
        obtain ⟨_, ⟨A13_0, c13_0, rfl⟩, hm13⟩ := hm11.unf 0 rfl
        replace hm13 : Hp Z0 (LS [T_limnographref18_Disk.obj F0 b0 x0]) w w10 [boxR b0 52 [.slice A13_0 (p2.2.L).length c13_0, .int .i64 (p2.2.Capacity), .bool (p2.2.Down), .int .i64 (p2.2.Calls), .int .i64 (p2.2.Fail), .int .i64 (p2.2.Crash), .int .i64 (p2.2.Err)], ownR 87 A13_0 c13_0 T_limnographref18_File.rep p2.2.L] := hm13
        refine Rn.v rfl rfl rfl rfl (V.ldB Try.isAgg50 rfl (hm13.get 0 rfl) rfl) (Rn.v rfl rfl rfl rfl (V.mv rfl) ?_)
        obtain ⟨z15, e15, hM⟩ := bindE hM
        obtain ⟨kk15, ke15, kz15, kl15⟩ := idxE e15
        obtain ⟨g15, vs15, hA15, hR15, hrel15⟩ := hm13.ownAt 1 rfl kz15
        subst hA15
        obtain ⟨_, _, rfl, ⟨rfl, _⟩, ⟨_, _, rfl, ⟨A16, c16, rfl, p16, q16, s16⟩, ⟨rfl, _⟩⟩⟩ := hrel15
        have hm18 : Hp Z0 (LS [T_limnographref18_Disk.obj F0 b0 x0]) w w10 [boxR b0 52 [.slice (some ⟨g15, 0, none⟩) (p2.2.L).length c13_0, .int .i64 (p2.2.Capacity), .bool (p2.2.Down), .int .i64 (p2.2.Calls), .int .i64 (p2.2.Fail), .int .i64 (p2.2.Crash), .int .i64 (p2.2.Err)], ownR 87 (some ⟨g15, 0, none⟩) c13_0 T_limnographref18_File.rep p2.2.L, slR A16 c16 byteR z15.Data] := Hp.knowL [slR A16 c16 byteR z15.Data] _ hm13 (knC (fun _ h => h) ⟨p16, q16, s16⟩ kn0)
        refine Rn.v rfl rfl rfl rfl (V.ixE kk15 Try.underlying50 Try.sizeOf87 rfl rfl ke15 kl15) (Rn.v rfl rfl rfl rfl (V.ldA Try.isAgg87 Try.sizeOf87 rfl (Rd.pre hR15 3) rfl) (Rn.als rfl rfl rfl Try.zeroValue87 rfl Try.sizeOf87 rfl rfl rfl rfl (by first | exact ones rfl | (simp [Value.oneCell']; done)) ?_))
        intro b19 w19 hb19 m19 e19
        have hm21 : Hp Z0 (LS [T_limnographref18_Disk.obj F0 b0 x0]) w w19 [boxR b0 52 [.slice (some ⟨g15, 0, none⟩) (p2.2.L).length c13_0, .int .i64 (p2.2.Capacity), .bool (p2.2.Down), .int .i64 (p2.2.Calls), .int .i64 (p2.2.Fail), .int .i64 (p2.2.Crash), .int .i64 (p2.2.Err)], ownR 87 (some ⟨g15, 0, none⟩) c13_0 T_limnographref18_File.rep p2.2.L, slR A16 c16 byteR z15.Data, boxR b19 87 [Str (z15.Name), .slice A16 (z15.Data).length c16, .int .i64 (z15.Sure)]] := hm18.addBox hb19 e19 m19
        refine Rn.regEnd (Rn.seq (Rn.reg (Rn.v rfl rfl rfl rfl (V.mv rfl) (Rn.v rfl rfl rfl rfl (V.mv rfl) (Rn.v rfl rfl rfl rfl (V.mv rfl) ?_)))))
        have hm24 : Hp Z0 (LS [T_limnographref18_Disk.obj F0 b0 x0]) w w19 ([slR A16 c16 byteR z15.Data, boxR b19 87 [Str (z15.Name), .slice A16 (z15.Data).length c16, .int .i64 (z15.Sure)]] ++ [boxR b0 52 [.slice (some ⟨g15, 0, none⟩) (p2.2.L).length c13_0, .int .i64 (p2.2.Capacity), .bool (p2.2.Down), .int .i64 (p2.2.Calls), .int .i64 (p2.2.Fail), .int .i64 (p2.2.Crash), .int .i64 (p2.2.Err)], ownR 87 (some ⟨g15, 0, none⟩) c13_0 T_limnographref18_File.rep p2.2.L]) := hm21.pick [2, 3, 0, 1] rfl (by decide)
        obtain ⟨F23, hm23⟩ := hm24.fold (T_limnographref18_Disk.sh b0 p2.2) ⟨(some ⟨g15, 0, none⟩), c13_0, rfl⟩
        replace hm23 : Hp Z0 (LS [T_limnographref18_Disk.obj F0 b0 x0]) w w19 [slR A16 c16 byteR z15.Data, boxR b19 87 [Str (z15.Name), .slice A16 (z15.Data).length c16, .int .i64 (z15.Sure)], T_limnographref18_Disk.obj F23 b0 p2.2] := hm23
        obtain ⟨p22, e22, hM⟩ := bindE hM
        have hm25 : Hp Z0 (LS [T_limnographref18_Disk.obj F0 b0 x0]) w w19 ([slR A16 c16 byteR z15.Data, boxR b19 87 [Str (z15.Name), .slice A16 (z15.Data).length c16, .int .i64 (z15.Sure)]] ++ [T_limnographref18_Disk.obj F23 b0 p2.2]) := hm23.pick [0, 1, 2] rfl (by decide)
        refine Rn.cl ck57 rfl rfl rfl rfl (m_limnographref18_Disk_without_sim (Z0 := _) _ F23 b0 p2.2 x1 hm25.lend e22) ?_
        rintro _ w22 ⟨A22_0_0, c22_0_0, F22_p0, rfl, hq22⟩
        refine ⟨_, rfl, ?_⟩
        have hm28 : Hp Z0 (LS [T_limnographref18_Disk.obj F0 b0 x0]) w w22 [slR A16 c16 byteR z15.Data, boxR b19 87 [Str (z15.Name), .slice A16 (z15.Data).length c16, .int .i64 (z15.Sure)], ownR 87 A22_0_0 c22_0_0 T_limnographref18_File.rep p22, T_limnographref18_Disk.obj F22_p0 b0 p2.2] := hm25.callAZ hq22
        refine Rn.v rfl rfl rfl rfl (V.nil rfl) (Rn.v rfl rfl rfl rfl (V.fa Try.underlying52 rfl Try.sizeOf50 rfl rfl) ?_)
        obtain ⟨_, ⟨A29_0, c29_0, rfl⟩, hm29⟩ := hm28.unf 3 rfl
        replace hm29 : Hp Z0 (LS [T_limnographref18_Disk.obj F0 b0 x0]) w w22 [slR A16 c16 byteR z15.Data, boxR b19 87 [Str (z15.Name), .slice A16 (z15.Data).length c16, .int .i64 (z15.Sure)], ownR 87 A22_0_0 c22_0_0 T_limnographref18_File.rep p22, boxR b0 52 [.slice A29_0 (p2.2.L).length c29_0, .int .i64 (p2.2.Capacity), .bool (p2.2.Down), .int .i64 (p2.2.Calls), .int .i64 (p2.2.Fail), .int .i64 (p2.2.Crash), .int .i64 (p2.2.Err)], ownR 87 A29_0 c29_0 T_limnographref18_File.rep p2.2.L] := hm29
        refine Rn.st rfl rfl Try.sizeOf50 rfl rfl rfl rfl (by first | exact ones rfl | (simp [Value.oneCell']; done)) (hm29.get 3 rfl) (by first | exact Nat.le_of_ble_eq_true rfl | (simp; done)) ?_
        intro w31 m31 x31
        have hm32 : Hp Z0 (LS [T_limnographref18_Disk.obj F0 b0 x0]) w w31 [slR A16 c16 byteR z15.Data, boxR b19 87 [Str (z15.Name), .slice A16 (z15.Data).length c16, .int .i64 (z15.Sure)], ownR 87 A22_0_0 c22_0_0 T_limnographref18_File.rep p22, boxR b0 52 [.slice A22_0_0 (p22).length c22_0_0, .int .i64 (p2.2.Capacity), .bool (p2.2.Down), .int .i64 (p2.2.Calls), .int .i64 (p2.2.Fail), .int .i64 (p2.2.Crash), .int .i64 (p2.2.Err)], ownR 87 A29_0 c29_0 T_limnographref18_File.rep p2.2.L] := hm29.st 3 rfl x31 m31
        refine Rn.regEnd (Rn.seq (Rn.reg (Rn.v rfl rfl rfl rfl (V.mv rfl) (Rn.v rfl rfl rfl rfl (V.mv rfl) (Rn.v rfl rfl rfl rfl (V.fa Try.underlying87 rfl Try.sizeOf22 rfl rfl) (Rn.v rfl rfl rfl rfl (V.ldB Try.isAgg22 rfl (hm32.get 1 rfl) rfl) (Rn.v rfl rfl rfl rfl (V.fa Try.underlying87 rfl Try.sizeOf3 rfl rfl) (Rn.v rfl rfl rfl rfl (V.ldB Try.isAgg3 rfl (hm32.get 1 rfl) rfl) (Rn.v rfl rfl rfl rfl (V.bldS st87 rfl rfl) ?_)))))))))
        have hm35 : Hp Z0 (LS [T_limnographref18_Disk.obj F0 b0 x0]) w w31 ([slR A16 c16 byteR z15.Data, boxR b19 87 [Str (z15.Name), .slice A16 (z15.Data).length c16, .int .i64 (z15.Sure)], ownR 87 A29_0 c29_0 T_limnographref18_File.rep p2.2.L] ++ [boxR b0 52 [.slice A22_0_0 (p22).length c22_0_0, .int .i64 (p2.2.Capacity), .bool (p2.2.Down), .int .i64 (p2.2.Calls), .int .i64 (p2.2.Fail), .int .i64 (p2.2.Crash), .int .i64 (p2.2.Err)], ownR 87 A22_0_0 c22_0_0 T_limnographref18_File.rep p22]) := hm32.pick [0, 1, 4, 3, 2] rfl (by decide)
        obtain ⟨F34, hm34⟩ := hm35.fold (T_limnographref18_Disk.sh b0 ({ L := p22, Capacity := p2.2.Capacity, Down := p2.2.Down, Calls := p2.2.Calls, Fail := p2.2.Fail, Crash := p2.2.Crash, Err := p2.2.Err } : T_limnographref18_Disk)) ⟨A22_0_0, c22_0_0, rfl⟩
        replace hm34 : Hp Z0 (LS [T_limnographref18_Disk.obj F0 b0 x0]) w w31 [slR A16 c16 byteR z15.Data, boxR b19 87 [Str (z15.Name), .slice A16 (z15.Data).length c16, .int .i64 (z15.Sure)], ownR 87 A29_0 c29_0 T_limnographref18_File.rep p2.2.L, T_limnographref18_Disk.obj F34 b0 ({ L := p22, Capacity := p2.2.Capacity, Down := p2.2.Down, Calls := p2.2.Calls, Fail := p2.2.Fail, Crash := p2.2.Crash, Err := p2.2.Err } : T_limnographref18_Disk)] := hm34
        obtain ⟨p33, e33, hM⟩ := bindE hM
        have hm36 := hm34.know (relR T_limnographref18_File.rep [Str (x2), .slice A16 (z15.Data).length c16, .int .i64 (z15.Sure)] ({ Name := x2, Data := z15.Data, Sure := z15.Sure } : T_limnographref18_File)) (fun _ h => h) (show T_limnographref18_File.rep.rel _ _ _ _ from ⟨_, _, rfl, ⟨rfl, trivial⟩, ⟨_, _, rfl, ⟨_, _, rfl, (hm34.get 0 rfl).1, (hm34.get 0 rfl).2.1, (hm34.get 0 rfl).2.2⟩, ⟨rfl, trivial⟩⟩⟩)
        have hm38 : Hp Z0 (LS [T_limnographref18_Disk.obj F0 b0 x0]) w w31 ([slR A16 c16 byteR z15.Data, boxR b19 87 [Str (z15.Name), .slice A16 (z15.Data).length c16, .int .i64 (z15.Sure)], ownR 87 A29_0 c29_0 T_limnographref18_File.rep p2.2.L] ++ [T_limnographref18_Disk.obj F34 b0 ({ L := p22, Capacity := p2.2.Capacity, Down := p2.2.Down, Calls := p2.2.Calls, Fail := p2.2.Fail, Crash := p2.2.Crash, Err := p2.2.Err } : T_limnographref18_Disk), relR T_limnographref18_File.rep [Str (x2), .slice A16 (z15.Data).length c16, .int .i64 (z15.Sure)] ({ Name := x2, Data := z15.Data, Sure := z15.Sure } : T_limnographref18_File)]) := hm36.pick [0, 1, 2, 3, 4] rfl (by decide)
        refine Rn.cl ck41 rfl rfl rfl rfl (m_limnographref18_Disk_put_sim (Z0 := _) _ F34 b0 ({ L := p22, Capacity := p2.2.Capacity, Down := p2.2.Down, Calls := p2.2.Calls, Fail := p2.2.Fail, Crash := p2.2.Crash, Err := p2.2.Err } : T_limnographref18_Disk) ({ Name := x2, Data := z15.Data, Sure := z15.Sure } : T_limnographref18_File) [Str (x2), .slice A16 (z15.Data).length c16, .int .i64 (z15.Sure)] hm38.lend e33) ?_
        rintro _ w33 ⟨F33_p0, rfl, hq33⟩
        refine ⟨_, rfl, ?_⟩
        have hm40 : Hp Z0 (LS [T_limnographref18_Disk.obj F0 b0 x0]) w w33 [slR A16 c16 byteR z15.Data, boxR b19 87 [Str (z15.Name), .slice A16 (z15.Data).length c16, .int .i64 (z15.Sure)], ownR 87 A29_0 c29_0 T_limnographref18_File.rep p2.2.L, T_limnographref18_Disk.obj F33_p0 b0 p33] := hm38.callAZ hq33
        refine Rn.regEnd (Rn.seq (Rn.reg (Rn.v rfl rfl rfl rfl (V.as rfl) (Rn.regEnd ?_))))
        refine Rn.retG1 Try.func63 rfl (rvT rfl) ?_
        obtain rfl := someE hM
        exact ⟨F33_p0, rfl, hm40.pick [3] rfl (by decide)⟩

set_option maxRecDepth 20000 in
theorem m_limnographref20_tries_sim {Z0 : Nat → Prop} (w : World) (F0 : Nat → Prop) (b0 : Nat) (x0 : T_limnographref18_Disk) (x1 : (List UInt8)) (A2 : Option Addr) (c2 : Nat) (x2 : (List UInt8)) {r : (Int × T_limnographref18_Disk)} (hL : Lent Z0 w [T_limnographref18_Disk.obj F0 b0 x0, slR A2 c2 byteR x2]) (hM : m_limnographref20_tries x0 x1 x2 = some r) :
    Calls Try.prog 43 #[.pointer (some ⟨b0, 0, none⟩), Str (x1), .slice A2 (x2).length c2] w fun x w' => ∃ F_p0, x = .returned (.int .i64 (r.1)) ∧ Hp Z0 (LS [T_limnographref18_Disk.obj F0 b0 x0, slR A2 c2 byteR x2]) w w' [T_limnographref18_Disk.obj F_p0 b0 r.2] := by
  have hm0 := hL.start
  refine Rn.enter Try.func43 rfl rfl (Nat.le_of_ble_eq_true rfl) ?_
  refine Rn.seq (Rn.reg (Rn.v rfl rfl rfl rfl (V.as rfl) (Rn.regEnd (Rn.seq (Rn.reg (Rn.v rfl rfl rfl rfl (V.mv rfl) ?_))))))
  obtain ⟨z3, e3, hM⟩ := bindE hM
  refine Rn.v rfl rfl rfl rfl (V.catZ rfl rfl e3) (Rn.v rfl rfl rfl rfl (V.as rfl) (Rn.regEnd (Rn.seq (Rn.seq (Rn.reg (Rn.v rfl rfl rfl rfl (V.mv rfl) (Rn.v rfl rfl rfl rfl (V.nil rfl) (Rn.v rfl rfl rfl rfl (V.fa Try.underlying52 rfl Try.sizeOf4 rfl rfl) ?_))))))))
  obtain ⟨_, ⟨A4_0, c4_0, rfl⟩, hm4⟩ := hm0.unf 0 rfl
  replace hm4 : Hp Z0 (LS [T_limnographref18_Disk.obj F0 b0 x0, slR A2 c2 byteR x2]) w w [slR A2 c2 byteR x2, boxR b0 52 [.slice A4_0 (x0.L).length c4_0, .int .i64 (x0.Capacity), .bool (x0.Down), .int .i64 (x0.Calls), .int .i64 (x0.Fail), .int .i64 (x0.Crash), .int .i64 (x0.Err)], ownR 87 A4_0 c4_0 T_limnographref18_File.rep x0.L] := hm4
  refine Rn.v rfl rfl rfl rfl (V.ldB Try.isAgg4 rfl (hm4.get 1 rfl) rfl) (Rn.v rfl rfl rfl rfl (V.notB rfl) (Rn.v rfl rfl rfl rfl (V.mv rfl) ?_))
  have hm7 : Hp Z0 (LS [T_limnographref18_Disk.obj F0 b0 x0, slR A2 c2 byteR x2]) w w ([slR A2 c2 byteR x2] ++ [boxR b0 52 [.slice A4_0 (x0.L).length c4_0, .int .i64 (x0.Capacity), .bool (x0.Down), .int .i64 (x0.Calls), .int .i64 (x0.Fail), .int .i64 (x0.Crash), .int .i64 (x0.Err)], ownR 87 A4_0 c4_0 T_limnographref18_File.rep x0.L]) := hm4.pick [0, 1, 2] rfl (by decide)
  obtain ⟨F6, hm6⟩ := hm7.fold (T_limnographref18_Disk.sh b0 x0) ⟨A4_0, c4_0, rfl⟩
  replace hm6 : Hp Z0 (LS [T_limnographref18_Disk.obj F0 b0 x0, slR A2 c2 byteR x2]) w w [slR A2 c2 byteR x2, T_limnographref18_Disk.obj F6 b0 x0] := hm6
  obtain ⟨j1, hj1, hM⟩ := jnE hM
  refine Rn.joinR (r := r) (G := Bool × (Nat → Prop)) [] (fun g => [(0, .pointer (some ⟨b0, 0, none⟩)), (1, Str (x1)), (2, .slice A2 (x2).length c2), (7, Str (z3)), (24, .bool ((g.1)))]) (fun g w' => Hp Z0 (LS [T_limnographref18_Disk.obj F0 b0 x0, slR A2 c2 byteR x2]) w w' [slR A2 c2 byteR x2, T_limnographref18_Disk.obj (g.2) b0 x0]) (fun g => j1 g.1) ?_ ?_
  · subst hj1
    clear hM
    rintro ⟨y9, F8⟩ w10 hm10 hM
    replace hm10 : Hp Z0 (LS [T_limnographref18_Disk.obj F0 b0 x0, slR A2 c2 byteR x2]) w w10 [slR A2 c2 byteR x2, T_limnographref18_Disk.obj F8 b0 x0] := hm10
    show Rn _ _ _ _ _ [(0, .pointer (some ⟨b0, 0, none⟩)), (1, Str (x1)), (2, .slice A2 (x2).length c2), (7, Str (z3)), (24, .bool (y9))] _
    try dsimp only at hM
    refine Rn.regEnd ?_
    obtain ⟨j2, hj2, hM⟩ := jnE hM
    refine Rn.joinG (r := r) (G := T_limnographref18_Disk × (Nat → Prop)) (fun g => [(0, .pointer (some ⟨b0, 0, none⟩)), (1, Str (x1)), (2, .slice A2 (x2).length c2), (7, Str (z3))]) (fun g w' => Hp Z0 (LS [T_limnographref18_Disk.obj F0 b0 x0, slR A2 c2 byteR x2]) w w' [slR A2 c2 byteR x2, T_limnographref18_Disk.obj (g.2) b0 (g.1)]) (fun g => j2 g.1) ?_ ?_
    · subst hj2
      clear hM
      rintro ⟨y11, F11⟩ w12 hm12 hM
      replace hm12 : Hp Z0 (LS [T_limnographref18_Disk.obj F0 b0 x0, slR A2 c2 byteR x2]) w w12 [slR A2 c2 byteR x2, T_limnographref18_Disk.obj F11 b0 y11] := hm12
      show Rn _ _ _ _ _ [(0, .pointer (some ⟨b0, 0, none⟩)), (1, Str (x1)), (2, .slice A2 (x2).length c2), (7, Str (z3))] _
      try dsimp only at hM
      refine Rn.seq (Rn.seq (Rn.reg (Rn.v rfl rfl rfl rfl (V.mv rfl) (Rn.v rfl rfl rfl rfl (V.mv rfl) ?_))))
      obtain ⟨p13, e13, hM⟩ := bindE hM
      have hm14 : Hp Z0 (LS [T_limnographref18_Disk.obj F0 b0 x0, slR A2 c2 byteR x2]) w w12 ([slR A2 c2 byteR x2] ++ [T_limnographref18_Disk.obj F11 b0 y11]) := hm12.pick [0, 1] rfl (by decide)
      refine Rn.cl ck60 rfl rfl rfl rfl (m_limnographref18_Disk_Create_sim (Z0 := _) _ F11 b0 y11 z3 hm14.lend e13) ?_
      rintro _ w13 ⟨F13_p0, rfl, hq13⟩
      refine ⟨_, rfl, ?_⟩
      have hm16 : Hp Z0 (LS [T_limnographref18_Disk.obj F0 b0 x0, slR A2 c2 byteR x2]) w w13 [slR A2 c2 byteR x2, T_limnographref18_Disk.obj F13_p0 b0 p13.2] := hm14.callAZ hq13
      refine Rn.v rfl rfl rfl rfl (V.as rfl) (Rn.regEnd (Rn.seq (Rn.reg (Rn.v rfl rfl rfl rfl (V.mv rfl) (Rn.v rfl rfl rfl rfl (V.neq rfl rfl) (Rn.regEnd ?_))))))
      refine Rn.condD rfl (fun h17 => ?_) (fun h17 => ?_)
      · replace hM := iteT h17 hM
        refine Rn.seq (Rn.reg (Rn.v rfl rfl rfl rfl (V.mv rfl) (Rn.v rfl rfl rfl rfl (V.as rfl) (Rn.regEnd ?_))))
        refine Rn.retG1 Try.func43 rfl (rvT rfl) ?_
        obtain rfl := someE hM
        exact ⟨F13_p0, rfl, hm16.pick [1] rfl (by decide)⟩
      · replace hM := iteF h17 hM
        refine Rn.skip (Rn.seq (Rn.seq (Rn.reg (Rn.v rfl rfl rfl rfl (V.mv rfl) (Rn.v rfl rfl rfl rfl (V.mv rfl) (Rn.v rfl rfl rfl rfl (V.mv rfl) ?_))))))
        obtain ⟨p18, e18, hM⟩ := bindE hM
        have hm19 := hm16.dup 0 rfl (fun _ h => h)
        have hm21 : Hp Z0 (LS [T_limnographref18_Disk.obj F0 b0 x0, slR A2 c2 byteR x2]) w w13 ([slR A2 c2 byteR x2] ++ [T_limnographref18_Disk.obj F13_p0 b0 p13.2, slR A2 c2 byteR x2]) := hm19.pick [0, 1, 2] rfl (by decide)
        refine Rn.cl ck61 rfl rfl rfl rfl (m_limnographref18_Disk_Append_sim (Z0 := _) _ F13_p0 b0 p13.2 z3 A2 c2 x2 hm21.lend e18) ?_
        rintro _ w18 ⟨F18_p0, rfl, hq18⟩
        refine ⟨_, rfl, ?_⟩
        have hm23 : Hp Z0 (LS [T_limnographref18_Disk.obj F0 b0 x0, slR A2 c2 byteR x2]) w w18 [slR A2 c2 byteR x2, T_limnographref18_Disk.obj F18_p0 b0 p18.2] := hm21.callAZ hq18
        refine Rn.v rfl rfl rfl rfl (V.as rfl) (Rn.regEnd (Rn.seq (Rn.reg (Rn.v rfl rfl rfl rfl (V.mv rfl) (Rn.v rfl rfl rfl rfl (V.neq rfl rfl) (Rn.regEnd ?_))))))
        refine Rn.condD rfl (fun h24 => ?_) (fun h24 => ?_)
        · replace hM := iteT h24 hM
          refine Rn.seq (Rn.reg (Rn.v rfl rfl rfl rfl (V.mv rfl) (Rn.v rfl rfl rfl rfl (V.as rfl) (Rn.regEnd ?_))))
          refine Rn.retG1 Try.func43 rfl (rvT rfl) ?_
          obtain rfl := someE hM
          exact ⟨F18_p0, rfl, hm23.pick [1] rfl (by decide)⟩
        · replace hM := iteF h24 hM
          refine Rn.skip (Rn.seq (Rn.seq (Rn.reg (Rn.v rfl rfl rfl rfl (V.mv rfl) (Rn.v rfl rfl rfl rfl (V.mv rfl) ?_)))))
          obtain ⟨p25, e25, hM⟩ := bindE hM
          have hm26 : Hp Z0 (LS [T_limnographref18_Disk.obj F0 b0 x0, slR A2 c2 byteR x2]) w w18 ([slR A2 c2 byteR x2] ++ [T_limnographref18_Disk.obj F18_p0 b0 p18.2]) := hm23.pick [0, 1] rfl (by decide)
          refine Rn.cl ck62 rfl rfl rfl rfl (m_limnographref18_Disk_Sync_sim (Z0 := _) _ F18_p0 b0 p18.2 z3 hm26.lend e25) ?_
          rintro _ w25 ⟨F25_p0, rfl, hq25⟩
          refine ⟨_, rfl, ?_⟩
          have hm28 : Hp Z0 (LS [T_limnographref18_Disk.obj F0 b0 x0, slR A2 c2 byteR x2]) w w25 [slR A2 c2 byteR x2, T_limnographref18_Disk.obj F25_p0 b0 p25.2] := hm26.callAZ hq25
          refine Rn.v rfl rfl rfl rfl (V.as rfl) (Rn.regEnd (Rn.seq (Rn.reg (Rn.v rfl rfl rfl rfl (V.mv rfl) (Rn.v rfl rfl rfl rfl (V.neq rfl rfl) (Rn.regEnd ?_))))))
          refine Rn.condD rfl (fun h29 => ?_) (fun h29 => ?_)
          · replace hM := iteT h29 hM
            refine Rn.seq (Rn.reg (Rn.v rfl rfl rfl rfl (V.mv rfl) (Rn.v rfl rfl rfl rfl (V.as rfl) (Rn.regEnd ?_))))
            refine Rn.retG1 Try.func43 rfl (rvT rfl) ?_
            obtain rfl := someE hM
            exact ⟨F25_p0, rfl, hm28.pick [1] rfl (by decide)⟩
          · replace hM := iteF h29 hM
            refine Rn.skip (Rn.seq (Rn.reg (Rn.v rfl rfl rfl rfl (V.mv rfl) (Rn.v rfl rfl rfl rfl (V.mv rfl) (Rn.v rfl rfl rfl rfl (V.mv rfl) ?_)))))
            obtain ⟨p30, e30, hM⟩ := bindE hM
            have hm31 : Hp Z0 (LS [T_limnographref18_Disk.obj F0 b0 x0, slR A2 c2 byteR x2]) w w25 ([slR A2 c2 byteR x2] ++ [T_limnographref18_Disk.obj F25_p0 b0 p25.2]) := hm28.pick [0, 1] rfl (by decide)
            refine Rn.cl ck63 rfl rfl rfl rfl (m_limnographref18_Disk_Rename_sim (Z0 := _) _ F25_p0 b0 p25.2 z3 x1 hm31.lend e30) ?_
            rintro _ w30 ⟨F30_p0, rfl, hq30⟩
            refine ⟨_, rfl, ?_⟩
            have hm33 : Hp Z0 (LS [T_limnographref18_Disk.obj F0 b0 x0, slR A2 c2 byteR x2]) w w30 [slR A2 c2 byteR x2, T_limnographref18_Disk.obj F30_p0 b0 p30.2] := hm31.callAZ hq30
            refine Rn.v rfl rfl rfl rfl (V.as rfl) (Rn.regEnd ?_)
            refine Rn.retG1 Try.func43 rfl (rvT rfl) ?_
            obtain rfl := someE hM
            exact ⟨F30_p0, rfl, hm33.pick [1] rfl (by decide)⟩
    intro hk2
    clear hj2
    refine Rn.condS rfl (fun h34 => ?_) (fun h34 => ?_)
    · replace hM := iteT h34 hM
      refine Rn.seq (Rn.reg (Rn.v rfl rfl rfl rfl (V.mv rfl) (Rn.v rfl rfl rfl rfl (V.mv rfl) ?_)))
      obtain ⟨p35, e35, hM⟩ := bindE hM
      have hm36 : Hp Z0 (LS [T_limnographref18_Disk.obj F0 b0 x0, slR A2 c2 byteR x2]) w w10 ([slR A2 c2 byteR x2] ++ [T_limnographref18_Disk.obj F8 b0 x0]) := hm10.pick [0, 1] rfl (by decide)
      refine Rn.cl ck44 rfl rfl rfl rfl (m_limnographref18_Disk_Remove_sim (Z0 := _) _ F8 b0 x0 z3 hm36.lend e35) ?_
      rintro _ w35 ⟨F35_p0, rfl, hq35⟩
      refine ⟨_, rfl, ?_⟩
      have hm38 : Hp Z0 (LS [T_limnographref18_Disk.obj F0 b0 x0, slR A2 c2 byteR x2]) w w35 [slR A2 c2 byteR x2, T_limnographref18_Disk.obj F35_p0 b0 p35.2] := hm36.callAZ hq35
      refine Rn.v rfl rfl rfl rfl (V.as rfl) (Rn.regEnd (Rn.seq (Rn.reg (Rn.v rfl rfl rfl rfl (V.mv rfl) (Rn.v rfl rfl rfl rfl (V.neq rfl rfl) (Rn.regEnd ?_))))))
      refine Rn.condD rfl (fun h39 => ?_) (fun h39 => ?_)
      · replace hM := iteT h39 hM
        refine Rn.seq (Rn.reg (Rn.v rfl rfl rfl rfl (V.mv rfl) (Rn.v rfl rfl rfl rfl (V.as rfl) (Rn.regEnd ?_))))
        refine Rn.retG1 Try.func43 rfl (rvT rfl) ?_
        obtain rfl := someE hM
        exact ⟨F35_p0, rfl, hm38.pick [1] rfl (by decide)⟩
      · replace hM := iteF h39 hM
        refine Rn.skip ?_
        exact hk2 (p35.2, F35_p0) _ _ (Sub.cons rfl (Sub.cons rfl (Sub.cons rfl (Sub.cons rfl (Sub.nil _))))) (hm38.pick [0, 1] rfl (by decide)) hM
    · replace hM := iteF (by rw [h34]; exact Bool.false_ne_true) hM
      refine Rn.skip ?_
      exact hk2 (x0, F8) _ _ (Sub.cons rfl (Sub.cons rfl (Sub.cons rfl (Sub.cons rfl (Sub.nil _))))) (hm10.pick [0, 1] rfl (by decide)) hM
  intro hk1
  clear hj1
  refine Rn.part (t := 19) rfl (fun h40 => ?_) (fun h40 => ?_)
  · replace hM := iteT h40 hM
    refine Rn.v rfl rfl rfl rfl (V.mv rfl) (Rn.v rfl rfl rfl rfl (V.mv rfl) ?_)
    obtain ⟨p41, e41, hM⟩ := bindE hM
    refine Rn.cl ck39 rfl rfl rfl rfl (m_limnographref18_Disk_Find_sim (Z0 := All) _ F6 b0 x0 z3 (fz_all (hm6.get 1 rfl)) e41) ?_
    rintro _ w41 ⟨rfl, hq41⟩
    refine ⟨_, rfl, ?_⟩
    have hm42 := hm6.call0 hq41
    refine Rn.v rfl rfl rfl rfl (V.geq rfl rfl) (Rn.v rfl rfl rfl rfl (V.pkT rfl rfl) ?_)
    exact hk1 ((decide (p41 ≥ 0)), F6) _ _ (Sub.cons rfl (Sub.cons rfl (Sub.cons rfl (Sub.cons rfl (Sub.cons rfl (Sub.nil _)))))) (hm42.pick [0, 1] rfl (by decide)) hM
  · replace hM := iteF (by rw [h40]; exact Bool.false_ne_true) hM
    refine Rn.no rfl rfl rfl rfl (Rn.no rfl rfl rfl rfl (Rn.no rfl rfl rfl rfl (Rn.no rfl rfl rfl rfl (Rn.v rfl rfl rfl rfl (V.pkF rfl rfl) ?_))))
    exact hk1 (false, F6) _ _ (Sub.cons rfl (Sub.cons rfl (Sub.cons rfl (Sub.cons rfl (Sub.cons rfl (Sub.nil _)))))) (hm6.pick [0, 1] rfl (by decide)) hM

set_option maxRecDepth 20000 in
theorem m_limnographref20_Save_sim {Z0 : Nat → Prop} (w : World) (F0 : Nat → Prop) (b0 : Nat) (x0 : T_limnographref18_Disk) (x1 : (List UInt8)) (A2 : Option Addr) (c2 : Nat) (x2 : (List UInt8)) {r : (Int × T_limnographref18_Disk)} (hL : Lent Z0 w [T_limnographref18_Disk.obj F0 b0 x0, slR A2 c2 byteR x2]) (hM : m_limnographref20_Save x0 x1 x2 = some r) :
    Calls Try.prog 17 #[.pointer (some ⟨b0, 0, none⟩), Str (x1), .slice A2 (x2).length c2] w fun x w' => ∃ F_p0, x = .returned (.int .i64 (r.1)) ∧ Hp Z0 (LS [T_limnographref18_Disk.obj F0 b0 x0, slR A2 c2 byteR x2]) w w' [T_limnographref18_Disk.obj F_p0 b0 r.2] := by
  have hm0 := hL.start
  refine Rn.enter Try.func17 rfl rfl (Nat.le_of_ble_eq_true rfl) ?_
  refine Rn.seq (Rn.reg (Rn.v rfl rfl rfl rfl (V.as rfl) (Rn.regEnd (Rn.seq (Rn.seq (Rn.reg (Rn.v rfl rfl rfl rfl (V.mv rfl) (Rn.v rfl rfl rfl rfl (V.lenS Try.underlying9 rfl) (Rn.v rfl rfl rfl rfl (V.gtr rfl rfl) (Rn.regEnd ?_))))))))))
  refine Rn.condD rfl (fun h3 => ?_) (fun h3 => ?_)
  · replace hM := iteT h3 hM
    refine Rn.seq (Rn.reg (Rn.v rfl rfl rfl rfl (V.as rfl) (Rn.regEnd ?_)))
    refine Rn.retG1 Try.func17 rfl (rvT rfl) ?_
    obtain rfl := someE hM
    exact ⟨F0, rfl, hm0.pick [0] rfl (by decide)⟩
  · replace hM := iteF h3 hM
    refine Rn.skip (Rn.seq (Rn.reg (Rn.v rfl rfl rfl rfl (V.mv rfl) ?_)))
    obtain ⟨p4, e4, hM⟩ := bindE hM
    refine Rn.cl ck42 rfl rfl rfl rfl (m_limnographref04_Wrap_sim (Z0 := Zo Z0 (LS [T_limnographref18_Disk.obj F0 b0 x0, slR A2 c2 byteR x2]) w [T_limnographref18_Disk.obj F0 b0 x0, slR A2 c2 byteR x2]) _ A2 c2 x2 (hm0.get 1 rfl) e4) ?_
    rintro _ w4 ⟨A4_0_0, c4_0_0, rfl, hq4⟩
    refine ⟨_, rfl, ?_⟩
    have hm6 : Hp Z0 (LS [T_limnographref18_Disk.obj F0 b0 x0, slR A2 c2 byteR x2]) w w4 [T_limnographref18_Disk.obj F0 b0 x0, slR A2 c2 byteR x2, slR A4_0_0 c4_0_0 byteR p4.1] := hm0.callZ hq4
    refine Rn.v rfl rfl rfl rfl (V.mv rfl) (Rn.v rfl rfl rfl rfl (V.ext rfl rfl) (Rn.v rfl rfl rfl rfl (V.ext rfl rfl) (Rn.v rfl rfl rfl rfl (V.as rfl) (Rn.v rfl rfl rfl rfl (V.as rfl) (Rn.regEnd (Rn.seq (Rn.seq (Rn.reg (Rn.v rfl rfl rfl rfl (V.mv rfl) (Rn.v rfl rfl rfl rfl (V.neq rfl rfl) (Rn.regEnd ?_)))))))))))
    refine Rn.condD rfl (fun h7 => ?_) (fun h7 => ?_)
    · replace hM := iteT h7 hM
      refine Rn.seq (Rn.reg (Rn.v rfl rfl rfl rfl (V.as rfl) (Rn.regEnd ?_)))
      refine Rn.retG1 Try.func17 rfl (rvT rfl) ?_
      obtain rfl := someE hM
      exact ⟨F0, rfl, hm6.pick [0] rfl (by decide)⟩
    · replace hM := iteF h7 hM
      refine Rn.skip (Rn.seq (Rn.reg (Rn.v rfl rfl rfl rfl (V.mv rfl) (Rn.v rfl rfl rfl rfl (V.mv rfl) (Rn.v rfl rfl rfl rfl (V.mv rfl) ?_)))))
      obtain ⟨p8, e8, hM⟩ := bindE hM
      have hm9 := hm6.dup 2 rfl (fun _ h => h)
      have hm11 : Hp Z0 (LS [T_limnographref18_Disk.obj F0 b0 x0, slR A2 c2 byteR x2]) w w4 ([slR A2 c2 byteR x2, slR A4_0_0 c4_0_0 byteR p4.1] ++ [T_limnographref18_Disk.obj F0 b0 x0, slR A4_0_0 c4_0_0 byteR p4.1]) := hm9.pick [1, 2, 0, 3] rfl (by decide)
      refine Rn.cl ck43 rfl rfl rfl rfl (m_limnographref20_tries_sim (Z0 := _) _ F0 b0 x0 x1 A4_0_0 c4_0_0 p4.1 hm11.lend e8) ?_
      rintro _ w8 ⟨F8_p0, rfl, hq8⟩
      refine ⟨_, rfl, ?_⟩
      have hm13 : Hp Z0 (LS [T_limnographref18_Disk.obj F0 b0 x0, slR A2 c2 byteR x2]) w w8 [slR A2 c2 byteR x2, slR A4_0_0 c4_0_0 byteR p4.1, T_limnographref18_Disk.obj F8_p0 b0 p8.2] := hm11.callAZ hq8
      refine Rn.v rfl rfl rfl rfl (V.as rfl) (Rn.regEnd (Rn.seq (Rn.seq (Rn.reg (Rn.v rfl rfl rfl rfl (V.mv rfl) (Rn.v rfl rfl rfl rfl (V.neq rfl rfl) (Rn.v rfl rfl rfl rfl (V.mv rfl) ?_)))))))
      refine Rn.cutR [6, 7, 8, 9, 10, 11, 12] [(0, .pointer (some ⟨b0, 0, none⟩)), (1, Str (x1)), (8, .int .i64 (p8.1)), (28, .bool (decide ((p8.1 ≠ 0) ∧ (p8.1 ≠ 13))))] (fun hk14 => ?_) ?_
      · refine Rn.partD (t := 25) rfl (fun h15 => ?_) (fun h15 => ?_)
        · refine Rn.v rfl rfl rfl rfl (V.mv rfl) (Rn.v rfl rfl rfl rfl (V.neq rfl rfl) (Rn.v rfl rfl rfl rfl (V.pkT rfl rfl) ?_))
          refine hk14 _ ?_
          exact Sub.cons rfl (Sub.cons rfl (Sub.cons rfl (Sub.cons (lkv _ rfl (by first | exact andT h15 | exact andF h15 | exact orT h15 | exact orF h15 | exact nandF h15 | exact nandT h15 | exact norT h15 | exact norF h15 | (simp [h15]; done) | grind)) (Sub.nil _))))
        · refine Rn.no rfl rfl rfl rfl (Rn.no rfl rfl rfl rfl (Rn.v rfl rfl rfl rfl (V.pkF rfl rfl) ?_))
          refine hk14 _ ?_
          exact Sub.cons rfl (Sub.cons rfl (Sub.cons rfl (Sub.cons (lkv _ rfl (by first | exact andT h15 | exact andF h15 | exact orT h15 | exact orF h15 | exact nandF h15 | exact nandT h15 | exact norT h15 | exact norF h15 | (simp [h15]; done) | grind)) (Sub.nil _))))
      refine Rn.v rfl rfl rfl rfl (V.mv rfl) ?_
      obtain ⟨j1, hj1, hM⟩ := jnE hM
      refine Rn.joinR (r := r) (G := Bool × (Nat → Prop)) [] (fun g => [(0, .pointer (some ⟨b0, 0, none⟩)), (1, Str (x1)), (8, .int .i64 (p8.1)), (35, .bool ((g.1)))]) (fun g w' => Hp Z0 (LS [T_limnographref18_Disk.obj F0 b0 x0, slR A2 c2 byteR x2]) w w' [slR A2 c2 byteR x2, slR A4_0_0 c4_0_0 byteR p4.1, T_limnographref18_Disk.obj (g.2) b0 p8.2]) (fun g => j1 g.1) ?_ ?_
      · subst hj1
        clear hM
        rintro ⟨y17, F16⟩ w18 hm18 hM
        replace hm18 : Hp Z0 (LS [T_limnographref18_Disk.obj F0 b0 x0, slR A2 c2 byteR x2]) w w18 [slR A2 c2 byteR x2, slR A4_0_0 c4_0_0 byteR p4.1, T_limnographref18_Disk.obj F16 b0 p8.2] := hm18
        show Rn _ _ _ _ _ [(0, .pointer (some ⟨b0, 0, none⟩)), (1, Str (x1)), (8, .int .i64 (p8.1)), (35, .bool (y17))] _
        try dsimp only at hM
        refine Rn.regEnd ?_
        obtain ⟨j2, hj2, hM⟩ := jnE hM
        refine Rn.joinG (r := r) (G := T_limnographref18_Disk × (Nat → Prop)) (fun g => [(8, .int .i64 (p8.1))]) (fun g w' => Hp Z0 (LS [T_limnographref18_Disk.obj F0 b0 x0, slR A2 c2 byteR x2]) w w' [slR A2 c2 byteR x2, slR A4_0_0 c4_0_0 byteR p4.1, T_limnographref18_Disk.obj (g.2) b0 (g.1)]) (fun g => j2 g.1) ?_ ?_
        · subst hj2
          clear hM
          rintro ⟨y19, F19⟩ w20 hm20 hM
          replace hm20 : Hp Z0 (LS [T_limnographref18_Disk.obj F0 b0 x0, slR A2 c2 byteR x2]) w w20 [slR A2 c2 byteR x2, slR A4_0_0 c4_0_0 byteR p4.1, T_limnographref18_Disk.obj F19 b0 y19] := hm20
          show Rn _ _ _ _ _ [(8, .int .i64 (p8.1))] _
          try dsimp only at hM
          refine Rn.seq (Rn.reg (Rn.v rfl rfl rfl rfl (V.mv rfl) (Rn.v rfl rfl rfl rfl (V.as rfl) (Rn.regEnd ?_))))
          refine Rn.retG1 Try.func17 rfl (rvT rfl) ?_
          obtain rfl := someE hM
          exact ⟨F19, rfl, hm20.pick [2] rfl (by decide)⟩
        intro hk2
        clear hj2
        refine Rn.condS rfl (fun h21 => ?_) (fun h21 => ?_)
        · replace hM := iteT h21 hM
          refine Rn.reg (Rn.v rfl rfl rfl rfl (V.mv rfl) (Rn.v rfl rfl rfl rfl (V.mv rfl) ?_))
          obtain ⟨z22, e22, hM⟩ := bindE hM
          refine Rn.v rfl rfl rfl rfl (V.catZ rfl rfl e22) ?_
          obtain ⟨p23, e23, hM⟩ := bindE hM
          have hm24 : Hp Z0 (LS [T_limnographref18_Disk.obj F0 b0 x0, slR A2 c2 byteR x2]) w w18 ([slR A2 c2 byteR x2, slR A4_0_0 c4_0_0 byteR p4.1] ++ [T_limnographref18_Disk.obj F16 b0 p8.2]) := hm18.pick [0, 1, 2] rfl (by decide)
          refine Rn.cl ck44 rfl rfl rfl rfl (m_limnographref18_Disk_Remove_sim (Z0 := _) _ F16 b0 p8.2 z22 hm24.lend e23) ?_
          rintro _ w23 ⟨F23_p0, rfl, hq23⟩
          refine ⟨_, rfl, ?_⟩
          have hm26 : Hp Z0 (LS [T_limnographref18_Disk.obj F0 b0 x0, slR A2 c2 byteR x2]) w w23 [slR A2 c2 byteR x2, slR A4_0_0 c4_0_0 byteR p4.1, T_limnographref18_Disk.obj F23_p0 b0 p23.2] := hm24.callAZ hq23
          refine Rn.regEnd ?_
          exact hk2 (p23.2, F23_p0) _ _ (Sub.cons rfl (Sub.nil _)) (hm26.pick [0, 1, 2] rfl (by decide)) hM
        · replace hM := iteF (by rw [h21]; exact Bool.false_ne_true) hM
          refine Rn.skip ?_
          exact hk2 (p8.2, F16) _ _ (Sub.cons rfl (Sub.nil _)) (hm18.pick [0, 1, 2] rfl (by decide)) hM
      intro hk1
      clear hj1
      refine Rn.partD (t := 29) rfl (fun h27 => ?_) (fun h27 => ?_)
      · replace hM := iteT h27 hM
        refine Rn.v rfl rfl rfl rfl (V.mv rfl) (Rn.v rfl rfl rfl rfl (V.mv rfl) ?_)
        obtain ⟨z28, e28, hM⟩ := bindE hM
        refine Rn.v rfl rfl rfl rfl (V.catZ rfl rfl e28) ?_
        obtain ⟨p29, e29, hM⟩ := bindE hM
        refine Rn.cl ck39 rfl rfl rfl rfl (m_limnographref18_Disk_Find_sim (Z0 := All) _ F8_p0 b0 p8.2 z28 (fz_all (hm13.get 2 rfl)) e29) ?_
        rintro _ w29 ⟨rfl, hq29⟩
        refine ⟨_, rfl, ?_⟩
        have hm30 := hm13.call0 hq29
        refine Rn.v rfl rfl rfl rfl (V.geq rfl rfl) (Rn.v rfl rfl rfl rfl (V.pkT rfl rfl) ?_)
        exact hk1 ((decide (p29 ≥ 0)), F8_p0) _ _ (Sub.cons rfl (Sub.cons rfl (Sub.cons rfl (Sub.cons rfl (Sub.nil _))))) (hm30.pick [0, 1, 2] rfl (by decide)) hM
      · replace hM := iteF h27 hM
        refine Rn.no rfl rfl rfl rfl (Rn.no rfl rfl rfl rfl (Rn.no rfl rfl rfl rfl (Rn.no rfl rfl rfl rfl (Rn.no rfl rfl rfl rfl (Rn.v rfl rfl rfl rfl (V.pkF rfl rfl) ?_)))))
        exact hk1 (false, F8_p0) _ _ (Sub.cons rfl (Sub.cons rfl (Sub.cons rfl (Sub.cons rfl (Sub.nil _))))) (hm13.pick [0, 1, 2] rfl (by decide)) hM

set_option maxRecDepth 20000 in
theorem m_limnographref04_First_sim {Z0 : Nat → Prop} (w : World) (A0 : Option Addr) (c0 : Nat) (x0 : (List UInt8)) (x1 : Int) {r : T_limnographref04_Got} (f0 : (slR A0 c0 byteR x0).H Z0 w) (hM : m_limnographref04_First x0 x1 = some r) :
    Calls Try.prog 45 #[.slice A0 (x0).length c0, .int .i64 (x1)] w fun x w' => ∃ A_0_0 c_0_0, x = .returned (.agg [.slice A_0_0 (r.B).length c_0_0, .int .i64 (r.N), .int .i64 (r.E)].toArray) ∧ Hp Z0 No w w' [slR A_0_0 c_0_0 byteR r.B] := by
  have hm0 := Hp.nil Z0 No w
  have hc0 := Calm.nil
  have hm2 := hm0.know (slR A0 c0 byteR x0) (fun _ h => h) (hm0.in0 hc0 f0)
  replace hc0 := hc0.snoc (r := slR A0 c0 byteR x0) (fun _ h => h)
  refine Rn.enter Try.func45 rfl rfl (Nat.le_of_ble_eq_true rfl) ?_
  refine Rn.seq (Rn.reg (Rn.alloc rfl rfl rfl Try.zeroValue89 rfl ?_))
  intro b3 w3 hb3 m3 e3
  have hm5 : Hp Z0 No w w3 [slR A0 c0 byteR x0, boxR b3 89 [.slice none 0 0, .int .i64 (0), .int .i64 (0)]] := hm2.addBox hb3 e3 m3
  refine Rn.regEnd (Rn.seq (Rn.reg (Rn.v rfl rfl rfl rfl (V.mv rfl) (Rn.v rfl rfl rfl rfl (V.lenV Try.underlying22 rfl) (Rn.v rfl rfl rfl rfl (V.mv rfl) (Rn.v rfl rfl rfl rfl (V.subW rfl rfl) (Rn.v rfl rfl rfl rfl (V.as rfl) (Rn.regEnd (Rn.seq (Rn.seq (Rn.reg (Rn.v rfl rfl rfl rfl (V.mv rfl) (Rn.v rfl rfl rfl rfl (V.lss rfl rfl) (Rn.regEnd ?_))))))))))))))
  refine Rn.condD rfl (fun h6 => ?_) (fun h6 => ?_)
  · replace hM := iteT h6 hM
    refine Rn.seq (Rn.reg (Rn.v rfl rfl rfl rfl (V.bldS st89 rfl rfl) (Rn.st rfl rfl Try.sizeOf89 rfl rfl rfl rfl (by first | exact ones rfl | (simp [Value.oneCell']; done)) (hm5.get 1 rfl) (by first | exact Nat.le_of_ble_eq_true rfl | (simp; done)) ?_)))
    intro w7 m7 x7
    have hm8 : Hp Z0 No w w7 [slR A0 c0 byteR x0, boxR b3 89 [.slice none 0 0, .int .i64 (0), .int .i64 (2)]] := hm5.st 1 rfl x7 m7
    refine Rn.regEnd ?_
    have hm9 := hm8.addNil 5 byteR
    have hm12 := hm9.freeze 2 rfl
    refine Rn.retG1 Try.func45 rfl (rvC rfl Try.isAgg89 Try.sizeOf89 (hm8.get 1 rfl) rfl) ?_
    obtain rfl := someE hM
    exact ⟨none, 0, rfl, hm12.pick [2] rfl (by decide)⟩
  · replace hM := iteF h6 hM
    refine Rn.skip (Rn.seq (Rn.seq (Rn.reg (Rn.v rfl rfl rfl rfl (V.mv rfl) (Rn.v rfl rfl rfl rfl (V.mv rfl) ?_)))))
    obtain ⟨z13, e13, hM⟩ := bindE hM
    refine Rn.ixH hm5 0 rfl e13 rfl rfl rfl Try.underlying22 Try.sizeOf5 rfl rfl rfl rfl ?_
    rintro b13 o13 vs13 ⟨rfl, _⟩ hm13
    refine Rn.v rfl rfl rfl rfl (V.ldR0 Try.isAgg5 rfl (hm13.get 2 rfl).2 rfl) (Rn.v rfl rfl rfl rfl (V.neq rfl rfl) (Rn.regEnd ?_))
    refine Rn.condD rfl (fun h15 => ?_) (fun h15 => ?_)
    · replace hM := iteT h15 hM
      refine Rn.seq (Rn.reg (Rn.v rfl rfl rfl rfl (V.bldS st89 rfl rfl) (Rn.st rfl rfl Try.sizeOf89 rfl rfl rfl rfl (by first | exact ones rfl | (simp [Value.oneCell']; done)) (hm13.get 1 rfl) (by first | exact Nat.le_of_ble_eq_true rfl | (simp; done)) ?_)))
      intro w16 m16 x16
      have hm17 : Hp Z0 No w w16 [slR A0 c0 byteR x0, boxR b3 89 [.slice none 0 0, .int .i64 (0), .int .i64 (3)], rdR b13 o13 [.int .u8 (((z13).toNat : Nat) : Int)]] := hm13.st 1 rfl x16 m16
      refine Rn.regEnd ?_
      have hm18 := hm17.addNil 5 byteR
      have hm21 := hm18.freeze 3 rfl
      refine Rn.retG1 Try.func45 rfl (rvC rfl Try.isAgg89 Try.sizeOf89 (hm17.get 1 rfl) rfl) ?_
      obtain rfl := someE hM
      exact ⟨none, 0, rfl, hm21.pick [3] rfl (by decide)⟩
    · replace hM := iteF h15 hM
      refine Rn.skip (Rn.seq (Rn.seq (Rn.reg (Rn.v rfl rfl rfl rfl (V.mv rfl) (Rn.v rfl rfl rfl rfl (V.lss rfl rfl) (Rn.regEnd ?_))))))
      refine Rn.condD rfl (fun h22 => ?_) (fun h22 => ?_)
      · replace hM := iteT h22 hM
        refine Rn.seq (Rn.reg (Rn.v rfl rfl rfl rfl (V.bldS st89 rfl rfl) (Rn.st rfl rfl Try.sizeOf89 rfl rfl rfl rfl (by first | exact ones rfl | (simp [Value.oneCell']; done)) (hm13.get 1 rfl) (by first | exact Nat.le_of_ble_eq_true rfl | (simp; done)) ?_)))
        intro w23 m23 x23
        have hm24 : Hp Z0 No w w23 [slR A0 c0 byteR x0, boxR b3 89 [.slice none 0 0, .int .i64 (0), .int .i64 (2)], rdR b13 o13 [.int .u8 (((z13).toNat : Nat) : Int)]] := hm13.st 1 rfl x23 m23
        refine Rn.regEnd ?_
        have hm25 := hm24.addNil 5 byteR
        have hm28 := hm25.freeze 3 rfl
        refine Rn.retG1 Try.func45 rfl (rvC rfl Try.isAgg89 Try.sizeOf89 (hm24.get 1 rfl) rfl) ?_
        obtain rfl := someE hM
        exact ⟨none, 0, rfl, hm28.pick [3] rfl (by decide)⟩
      · replace hM := iteF h22 hM
        refine Rn.skip (Rn.seq (Rn.reg (Rn.v rfl rfl rfl rfl (V.as rfl) (Rn.regEnd (Rn.seq (Rn.seq (Rn.reg (Rn.v rfl rfl rfl rfl (V.as rfl) (Rn.regEnd ?_)))))))))
        obtain ⟨j1, hj1, hM⟩ := jnE hM
        refine Rn.joinG (r := r) (G := Int) (fun g => [(0, .slice A0 (x0).length c0), (1, .int .i64 (x1)), (4, .pointer (some ⟨b3, 0, none⟩)), (5, .int .i64 (W64 ((x0.length : Int) - x1))), (6, .int .i64 (g))]) (fun g w' => Hp Z0 No w w' [slR A0 c0 byteR x0, boxR b3 89 [.slice none 0 0, .int .i64 (0), .int .i64 (0)], rdR b13 o13 [.int .u8 (((z13).toNat : Nat) : Int)]]) (fun g => j1 g) ?_ ?_
        · subst hj1
          clear hM
          rintro y29 w30 hm30 hM
          replace hm30 : Hp Z0 No w w30 [slR A0 c0 byteR x0, boxR b3 89 [.slice none 0 0, .int .i64 (0), .int .i64 (0)], rdR b13 o13 [.int .u8 (((z13).toNat : Nat) : Int)]] := hm30
          show Rn _ _ _ _ _ [(0, .slice A0 (x0).length c0), (1, .int .i64 (x1)), (4, .pointer (some ⟨b3, 0, none⟩)), (5, .int .i64 (W64 ((x0.length : Int) - x1))), (6, .int .i64 (y29))] _
          try dsimp only at hM
          refine Rn.seq (Rn.seq (Rn.reg (Rn.v rfl rfl rfl rfl (V.mv rfl) (Rn.v rfl rfl rfl rfl (V.gtr rfl rfl) (Rn.regEnd ?_)))))
          refine Rn.condD rfl (fun h31 => ?_) (fun h31 => ?_)
          · replace hM := iteT h31 hM
            refine Rn.seq (Rn.reg (Rn.v rfl rfl rfl rfl (V.bldS st89 rfl rfl) (Rn.st rfl rfl Try.sizeOf89 rfl rfl rfl rfl (by first | exact ones rfl | (simp [Value.oneCell']; done)) (hm30.get 1 rfl) (by first | exact Nat.le_of_ble_eq_true rfl | (simp; done)) ?_)))
            intro w32 m32 x32
            have hm33 : Hp Z0 No w w32 [slR A0 c0 byteR x0, boxR b3 89 [.slice none 0 0, .int .i64 (0), .int .i64 (4)], rdR b13 o13 [.int .u8 (((z13).toNat : Nat) : Int)]] := hm30.st 1 rfl x32 m32
            refine Rn.regEnd ?_
            have hm34 := hm33.addNil 5 byteR
            have hm37 := hm34.freeze 3 rfl
            refine Rn.retG1 Try.func45 rfl (rvC rfl Try.isAgg89 Try.sizeOf89 (hm33.get 1 rfl) rfl) ?_
            obtain rfl := someE hM
            exact ⟨none, 0, rfl, hm37.pick [3] rfl (by decide)⟩
          · replace hM := iteF h31 hM
            refine Rn.skip (Rn.seq (Rn.seq (Rn.reg (Rn.v rfl rfl rfl rfl (V.mv rfl) (Rn.v rfl rfl rfl rfl (V.mv rfl) (Rn.v rfl rfl rfl rfl (V.addW rfl rfl) (Rn.v rfl rfl rfl rfl (V.lss rfl rfl) (Rn.regEnd ?_))))))))
            refine Rn.condD rfl (fun h38 => ?_) (fun h38 => ?_)
            · replace hM := iteT h38 hM
              refine Rn.seq (Rn.reg (Rn.v rfl rfl rfl rfl (V.bldS st89 rfl rfl) (Rn.st rfl rfl Try.sizeOf89 rfl rfl rfl rfl (by first | exact ones rfl | (simp [Value.oneCell']; done)) (hm30.get 1 rfl) (by first | exact Nat.le_of_ble_eq_true rfl | (simp; done)) ?_)))
              intro w39 m39 x39
              have hm40 : Hp Z0 No w w39 [slR A0 c0 byteR x0, boxR b3 89 [.slice none 0 0, .int .i64 (0), .int .i64 (2)], rdR b13 o13 [.int .u8 (((z13).toNat : Nat) : Int)]] := hm30.st 1 rfl x39 m39
              refine Rn.regEnd ?_
              have hm41 := hm40.addNil 5 byteR
              have hm44 := hm41.freeze 3 rfl
              refine Rn.retG1 Try.func45 rfl (rvC rfl Try.isAgg89 Try.sizeOf89 (hm40.get 1 rfl) rfl) ?_
              obtain rfl := someE hM
              exact ⟨none, 0, rfl, hm44.pick [3] rfl (by decide)⟩
            · replace hM := iteF h38 hM
              refine Rn.skip (Rn.seq (Rn.reg (Rn.v rfl rfl rfl rfl (V.mv rfl) (Rn.v rfl rfl rfl rfl (V.mv rfl) (Rn.v rfl rfl rfl rfl (V.addW rfl rfl) (Rn.v rfl rfl rfl rfl (V.mv rfl) (Rn.v rfl rfl rfl rfl (V.addW rfl rfl) (Rn.v rfl rfl rfl rfl (V.mv rfl) (Rn.v rfl rfl rfl rfl (V.addW rfl rfl) ?_)))))))))
              obtain ⟨z45, e45, hM⟩ := bindE hM
              refine Rn.cutH hm30 0 rfl e45 rfl rfl rfl Try.underlying22 Try.sizeOf5 rfl rfl rfl rfl rfl ?_
              intro A45 c45 hm45
              refine Rn.v rfl rfl rfl rfl (V.as rfl) (Rn.regEnd (Rn.seq (Rn.reg (Rn.v rfl rfl rfl rfl (V.mv rfl) ?_))))
              obtain ⟨p47, e47, hM⟩ := bindE hM
              refine Rn.cl ck42 rfl rfl rfl rfl (m_limnographref04_Wrap_sim (Z0 := Zo Z0 No w [slR A0 c0 byteR x0, boxR b3 89 [.slice none 0 0, .int .i64 (0), .int .i64 (0)], rdR b13 o13 [.int .u8 (((z13).toNat : Nat) : Int)], slR A45 c45 byteR z45]) _ A45 c45 z45 (hm45.get 3 rfl) e47) ?_
              rintro _ w47 ⟨A47_0_0, c47_0_0, rfl, hq47⟩
              refine ⟨_, rfl, ?_⟩
              have hm49 : Hp Z0 No w w47 [slR A0 c0 byteR x0, boxR b3 89 [.slice none 0 0, .int .i64 (0), .int .i64 (0)], rdR b13 o13 [.int .u8 (((z13).toNat : Nat) : Int)], slR A45 c45 byteR z45, slR A47_0_0 c47_0_0 byteR p47.1] := hm45.callZ hq47
              refine Rn.v rfl rfl rfl rfl (V.mv rfl) (Rn.v rfl rfl rfl rfl (V.ext rfl rfl) (Rn.v rfl rfl rfl rfl (V.ext rfl rfl) (Rn.v rfl rfl rfl rfl (V.as rfl) (Rn.v rfl rfl rfl rfl (V.as rfl) (Rn.regEnd (Rn.seq (Rn.seq ?_)))))))
              refine Rn.drawP rfl hm49 ?_
              intro w50 hm50
              refine RH.takeP 0 (by kernel_rfl) rfl rfl rfl rfl (V.mv rfl) ?_
              refine RH.takeP 1 (by kernel_rfl) rfl rfl rfl rfl (V.b2s Try.underlying22 Try.underlying9 Try.underlying5 rfl rfl (hm50.get 4 rfl).2.2) ?_
              refine RH.takeP 2 (by kernel_rfl) rfl rfl rfl rfl (V.mv rfl) ?_
              refine RH.takeP 3 (by kernel_rfl) rfl rfl rfl rfl (V.mv rfl) ?_
              refine RH.takeP 4 (by kernel_rfl) rfl rfl rfl rfl (V.mv rfl) ?_
              refine RH.takeP 5 (by kernel_rfl) rfl rfl rfl rfl (V.addW rfl rfl) ?_
              refine RH.takeP 6 (by kernel_rfl) rfl rfl rfl rfl (V.mv rfl) ?_
              refine RH.takeP 7 (by kernel_rfl) rfl rfl rfl rfl (V.addW rfl rfl) ?_
              obtain ⟨z51, e51, hM⟩ := bindE hM
              refine RH.cutH 8 (by kernel_rfl) hm50 0 rfl e51 rfl rfl rfl Try.underlying22 Try.sizeOf5 rfl rfl rfl rfl rfl ?_
              intro A51 c51 hm51
              refine RH.takeP 9 (by kernel_rfl) rfl rfl rfl rfl (V.b2s Try.underlying22 Try.underlying9 Try.underlying5 rfl rfl (hm51.get 5 rfl).2.2) ?_
              refine RH.takeP 10 (by kernel_rfl) rfl rfl rfl rfl (V.neqS rfl rfl) ?_
              refine RH.doneP (by kernel_rfl) ?_
              refine Rn.condD rfl (fun h53 => ?_) (fun h53 => ?_)
              · replace hM := iteT h53 hM
                refine Rn.seq (Rn.reg (Rn.v rfl rfl rfl rfl (V.bldS st89 rfl rfl) (Rn.st rfl rfl Try.sizeOf89 rfl rfl rfl rfl (by first | exact ones rfl | (simp [Value.oneCell']; done)) (hm51.get 1 rfl) (by first | exact Nat.le_of_ble_eq_true rfl | (simp; done)) ?_)))
                intro w54 m54 x54
                have hm55 : Hp Z0 No w w54 [slR A0 c0 byteR x0, boxR b3 89 [.slice none 0 0, .int .i64 (0), .int .i64 (5)], rdR b13 o13 [.int .u8 (((z13).toNat : Nat) : Int)], slR A45 c45 byteR z45, slR A47_0_0 c47_0_0 byteR p47.1, slR A51 c51 byteR z51] := hm51.st 1 rfl x54 m54
                refine Rn.regEnd ?_
                have hm56 := hm55.addNil 5 byteR
                have hm59 := hm56.freeze 6 rfl
                refine Rn.retG1 Try.func45 rfl (rvC rfl Try.isAgg89 Try.sizeOf89 (hm55.get 1 rfl) rfl) ?_
                obtain rfl := someE hM
                exact ⟨none, 0, rfl, hm59.pick [6] rfl (by decide)⟩
              · replace hM := iteF h53 hM
                refine Rn.skip (Rn.seq (Rn.reg (Rn.v rfl rfl rfl rfl (V.mv rfl) (Rn.v rfl rfl rfl rfl (V.mv rfl) (Rn.v rfl rfl rfl rfl (V.addW rfl rfl) (Rn.v rfl rfl rfl rfl (V.bldS st89 rfl rfl) (Rn.st rfl rfl Try.sizeOf89 rfl rfl rfl rfl (by first | exact ones rfl | (simp [Value.oneCell']; done)) (hm51.get 1 rfl) (by first | exact Nat.le_of_ble_eq_true rfl | (simp; done)) ?_)))))))
                intro w60 m60 x60
                have hm61 : Hp Z0 No w w60 [slR A0 c0 byteR x0, boxR b3 89 [.slice A45 (z45).length c45, .int .i64 (W64 (9 + y29)), .int .i64 (0)], rdR b13 o13 [.int .u8 (((z13).toNat : Nat) : Int)], slR A45 c45 byteR z45, slR A47_0_0 c47_0_0 byteR p47.1, slR A51 c51 byteR z51] := hm51.st 1 rfl x60 m60
                refine Rn.regEnd ?_
                refine Rn.retG1 Try.func45 rfl (rvC rfl Try.isAgg89 Try.sizeOf89 (hm61.get 1 rfl) rfl) ?_
                obtain rfl := someE hM
                exact ⟨A45, c45, rfl, hm61.pick [3] rfl (by decide)⟩
        intro hk1
        clear hj1
        refine Rn.block ?_
        refine Rn.loopF (G := Int × Int) (fun g => [(0, .slice A0 (x0).length c0), (1, .int .i64 (x1)), (4, .pointer (some ⟨b3, 0, none⟩)), (5, .int .i64 (W64 ((x0.length : Int) - x1))), (6, .int .i64 ((g.1))), (7, .int .i64 ((g.2)))]) (fun g w' => Hp Z0 No w w' [slR A0 c0 byteR x0, boxR b3 89 [.slice none 0 0, .int .i64 (0), .int .i64 (0)], rdR b13 o13 [.int .u8 (((z13).toNat : Nat) : Int)]]) (fun n g => m_limnographref04_First_L1 x0 x1 j1 n g.1 g.2) fuel (0, 4) (Sub.cons rfl (Sub.cons rfl (Sub.cons rfl (Sub.cons rfl (Sub.cons rfl (Sub.cons rfl (Sub.nil _))))))) (hm13.pick [0, 1, 2] rfl (by decide)) hM (fun _ => rfl) ?_
        clear hM
        rintro m64 ⟨y62, y63⟩ w64 hm64 hM hn64
        replace hm64 : Hp Z0 No w w64 [slR A0 c0 byteR x0, boxR b3 89 [.slice none 0 0, .int .i64 (0), .int .i64 (0)], rdR b13 o13 [.int .u8 (((z13).toNat : Nat) : Int)]] := hm64
        show Rn _ _ _ _ _ [(0, .slice A0 (x0).length c0), (1, .int .i64 (x1)), (4, .pointer (some ⟨b3, 0, none⟩)), (5, .int .i64 (W64 ((x0.length : Int) - x1))), (6, .int .i64 (y62)), (7, .int .i64 (y63))] _
        replace hM : m_limnographref04_First_L1 x0 x1 j1 (m64 + 1) y62 y63 = some r := hM
        rw [m_limnographref04_First_L1] at hM
        refine Rn.seq (Rn.seq (Rn.reg (Rn.v rfl rfl rfl rfl (V.mv rfl) (Rn.v rfl rfl rfl rfl (V.gtr rfl rfl) (Rn.regEnd ?_)))))
        refine Rn.condD rfl (fun h65 => ?_) (fun h65 => ?_)
        · replace hM := iteT h65 hM
          refine Rn.skip (Rn.seq (Rn.block (Rn.reg (Rn.v rfl rfl rfl rfl (V.mv rfl) (Rn.v rfl rfl rfl rfl (V.mulW rfl rfl) (Rn.v rfl rfl rfl rfl (V.mv rfl) (Rn.v rfl rfl rfl rfl (V.mv rfl) (Rn.v rfl rfl rfl rfl (V.mv rfl) (Rn.v rfl rfl rfl rfl (V.addW rfl rfl) ?_)))))))))
          obtain ⟨z66, e66, hM⟩ := bindE hM
          refine Rn.ixH hm64 0 rfl e66 rfl rfl rfl Try.underlying22 Try.sizeOf5 rfl rfl rfl rfl ?_
          rintro b66 o66 vs66 ⟨rfl, _⟩ hm66
          refine Rn.v rfl rfl rfl rfl (V.ldR0 Try.isAgg5 rfl (hm66.get 3 rfl).2 rfl) (Rn.v rfl rfl rfl rfl (V.cv8i (a := z66) Try.underlying5 Try.underlying3 rfl) (Rn.v rfl rfl rfl rfl (V.addW rfl rfl) (Rn.v rfl rfl rfl rfl (V.as rfl) (Rn.regEnd (Rn.inBlock (Rn.reg (Rn.v rfl rfl rfl rfl (V.mv rfl) (Rn.v rfl rfl rfl rfl (V.subW rfl rfl) (Rn.v rfl rfl rfl rfl (V.as rfl) (Rn.regEnd ?_))))))))))
          exact hn64 ((W64 ((W64 (256 * y62)) + (z66.toNat : Int))), (W64 (y63 - 1))) _ _ (Sub.cons rfl (Sub.cons rfl (Sub.cons rfl (Sub.cons rfl (Sub.cons rfl (Sub.cons rfl (Sub.nil _))))))) (hm66.pick [0, 1, 2] rfl (by decide)) hM
        · replace hM := iteF h65 hM
          refine Rn.exit rfl ?_
          exact hk1 y62 _ _ (Sub.cons rfl (Sub.cons rfl (Sub.cons rfl (Sub.cons rfl (Sub.cons rfl (Sub.nil _)))))) (hm64.pick [0, 1, 2] rfl (by decide)) hM

set_option maxRecDepth 20000 in
theorem m_limnographref20_Load_sim {Z0 : Nat → Prop} (w : World) (F0 : Nat → Prop) (b0 : Nat) (x0 : T_limnographref18_Disk) (x1 : (List UInt8)) {r : (T_limnographref20_Got × T_limnographref18_Disk)} (hL : Lent Z0 w [T_limnographref18_Disk.obj F0 b0 x0]) (hM : m_limnographref20_Load x0 x1 = some r) :
    Calls Try.prog 18 #[.pointer (some ⟨b0, 0, none⟩), Str (x1)] w fun x w' => ∃ A_0_0 c_0_0 F_p0, x = .returned (.agg [.slice A_0_0 (r.1.B).length c_0_0, .bool (r.1.Is), .int .i64 (r.1.E)].toArray) ∧ Hp Z0 (LS [T_limnographref18_Disk.obj F0 b0 x0]) w w' [slR A_0_0 c_0_0 byteR r.1.B, T_limnographref18_Disk.obj F_p0 b0 r.2] := by
  have hm0 := hL.start
  refine Rn.enter Try.func18 rfl rfl (Nat.le_of_ble_eq_true rfl) ?_
  refine Rn.seq (Rn.reg (Rn.alloc rfl rfl rfl Try.zeroValue47 rfl ?_))
  intro b2 w2 hb2 m2 e2
  have hm4 : Hp Z0 (LS [T_limnographref18_Disk.obj F0 b0 x0]) w w2 [T_limnographref18_Disk.obj F0 b0 x0, boxR b2 47 [.slice none 0 0, .bool false, .int .i64 (0)]] := hm0.addBox hb2 e2 m2
  refine Rn.regEnd (Rn.seq (Rn.seq (Rn.reg (Rn.v rfl rfl rfl rfl (V.mv rfl) (Rn.v rfl rfl rfl rfl (V.nil rfl) (Rn.v rfl rfl rfl rfl (V.fa Try.underlying52 rfl Try.sizeOf4 rfl rfl) ?_))))))
  obtain ⟨_, ⟨A5_0, c5_0, rfl⟩, hm5⟩ := hm4.unf 0 rfl
  replace hm5 : Hp Z0 (LS [T_limnographref18_Disk.obj F0 b0 x0]) w w2 [boxR b2 47 [.slice none 0 0, .bool false, .int .i64 (0)], boxR b0 52 [.slice A5_0 (x0.L).length c5_0, .int .i64 (x0.Capacity), .bool (x0.Down), .int .i64 (x0.Calls), .int .i64 (x0.Fail), .int .i64 (x0.Crash), .int .i64 (x0.Err)], ownR 87 A5_0 c5_0 T_limnographref18_File.rep x0.L] := hm5
  refine Rn.v rfl rfl rfl rfl (V.ldB Try.isAgg4 rfl (hm5.get 1 rfl) rfl) (Rn.regEnd ?_)
  refine Rn.condS rfl (fun h7 => ?_) (fun h7 => ?_)
  · replace hM := iteT h7 hM
    refine Rn.seq (Rn.reg (Rn.v rfl rfl rfl rfl (V.bldS st47 rfl rfl) (Rn.st rfl rfl Try.sizeOf47 rfl rfl rfl rfl (by first | exact ones rfl | (simp [Value.oneCell']; done)) (hm5.get 0 rfl) (by first | exact Nat.le_of_ble_eq_true rfl | (simp; done)) ?_)))
    intro w8 m8 x8
    have hm9 : Hp Z0 (LS [T_limnographref18_Disk.obj F0 b0 x0]) w w8 [boxR b2 47 [.slice none 0 0, .bool false, .int .i64 (13)], boxR b0 52 [.slice A5_0 (x0.L).length c5_0, .int .i64 (x0.Capacity), .bool (x0.Down), .int .i64 (x0.Calls), .int .i64 (x0.Fail), .int .i64 (x0.Crash), .int .i64 (x0.Err)], ownR 87 A5_0 c5_0 T_limnographref18_File.rep x0.L] := hm5.st 0 rfl x8 m8
    refine Rn.regEnd ?_
    have hm10 := hm9.addNil 5 byteR
    have hm13 := hm10.freeze 3 rfl
    have hm15 : Hp Z0 (LS [T_limnographref18_Disk.obj F0 b0 x0]) w w8 ([boxR b2 47 [.slice none 0 0, .bool false, .int .i64 (13)], slR none 0 byteR ([] : List UInt8)] ++ [boxR b0 52 [.slice A5_0 (x0.L).length c5_0, .int .i64 (x0.Capacity), .bool (x0.Down), .int .i64 (x0.Calls), .int .i64 (x0.Fail), .int .i64 (x0.Crash), .int .i64 (x0.Err)], ownR 87 A5_0 c5_0 T_limnographref18_File.rep x0.L]) := hm13.pick [0, 3, 1, 2] rfl (by decide)
    obtain ⟨F14, hm14⟩ := hm15.fold (T_limnographref18_Disk.sh b0 x0) ⟨A5_0, c5_0, rfl⟩
    replace hm14 : Hp Z0 (LS [T_limnographref18_Disk.obj F0 b0 x0]) w w8 [boxR b2 47 [.slice none 0 0, .bool false, .int .i64 (13)], slR none 0 byteR ([] : List UInt8), T_limnographref18_Disk.obj F14 b0 x0] := hm14
    refine Rn.retG1 Try.func18 rfl (rvC rfl Try.isAgg47 Try.sizeOf47 (hm9.get 0 rfl) rfl) ?_
    obtain rfl := someE hM
    exact ⟨none, 0, F14, rfl, hm14.pick [1, 2] rfl (by decide)⟩
  · replace hM := iteF (by rw [h7]; exact Bool.false_ne_true) hM
    refine Rn.skip (Rn.seq (Rn.seq (Rn.reg (Rn.v rfl rfl rfl rfl (V.mv rfl) (Rn.v rfl rfl rfl rfl (V.mv rfl) ?_)))))
    obtain ⟨z16, e16, hM⟩ := bindE hM
    refine Rn.v rfl rfl rfl rfl (V.catZ rfl rfl e16) ?_
    have hm19 : Hp Z0 (LS [T_limnographref18_Disk.obj F0 b0 x0]) w w2 ([boxR b2 47 [.slice none 0 0, .bool false, .int .i64 (0)]] ++ [boxR b0 52 [.slice A5_0 (x0.L).length c5_0, .int .i64 (x0.Capacity), .bool (x0.Down), .int .i64 (x0.Calls), .int .i64 (x0.Fail), .int .i64 (x0.Crash), .int .i64 (x0.Err)], ownR 87 A5_0 c5_0 T_limnographref18_File.rep x0.L]) := hm5.pick [0, 1, 2] rfl (by decide)
    obtain ⟨F18, hm18⟩ := hm19.fold (T_limnographref18_Disk.sh b0 x0) ⟨A5_0, c5_0, rfl⟩
    replace hm18 : Hp Z0 (LS [T_limnographref18_Disk.obj F0 b0 x0]) w w2 [boxR b2 47 [.slice none 0 0, .bool false, .int .i64 (0)], T_limnographref18_Disk.obj F18 b0 x0] := hm18
    obtain ⟨p17, e17, hM⟩ := bindE hM
    refine Rn.cl ck39 rfl rfl rfl rfl (m_limnographref18_Disk_Find_sim (Z0 := All) _ F18 b0 x0 z16 (fz_all (hm18.get 1 rfl)) e17) ?_
    rintro _ w17 ⟨rfl, hq17⟩
    refine ⟨_, rfl, ?_⟩
    have hm20 := hm18.call0 hq17
    refine Rn.v rfl rfl rfl rfl (V.geq rfl rfl) (Rn.regEnd ?_)
    obtain ⟨j1, hj1, hM⟩ := jnE hM
    refine Rn.joinG (r := r) (G := T_limnographref18_Disk × (Nat → Prop)) (fun g => [(0, .pointer (some ⟨b0, 0, none⟩)), (1, Str (x1)), (4, .pointer (some ⟨b2, 0, none⟩))]) (fun g w' => Hp Z0 (LS [T_limnographref18_Disk.obj F0 b0 x0]) w w' [boxR b2 47 [.slice none 0 0, .bool false, .int .i64 (0)], T_limnographref18_Disk.obj (g.2) b0 (g.1)]) (fun g => j1 g.1) ?_ ?_
    · subst hj1
      clear hM
      rintro ⟨y21, F21⟩ w22 hm22 hM
      replace hm22 : Hp Z0 (LS [T_limnographref18_Disk.obj F0 b0 x0]) w w22 [boxR b2 47 [.slice none 0 0, .bool false, .int .i64 (0)], T_limnographref18_Disk.obj F21 b0 y21] := hm22
      show Rn _ _ _ _ _ [(0, .pointer (some ⟨b0, 0, none⟩)), (1, Str (x1)), (4, .pointer (some ⟨b2, 0, none⟩))] _
      try dsimp only at hM
      refine Rn.seq (Rn.reg (Rn.v rfl rfl rfl rfl (V.mv rfl) (Rn.v rfl rfl rfl rfl (V.mv rfl) ?_)))
      obtain ⟨p23, e23, hM⟩ := bindE hM
      refine Rn.cl ck39 rfl rfl rfl rfl (m_limnographref18_Disk_Find_sim (Z0 := All) _ F21 b0 y21 x1 (fz_all (hm22.get 1 rfl)) e23) ?_
      rintro _ w23 ⟨rfl, hq23⟩
      refine ⟨_, rfl, ?_⟩
      have hm24 := hm22.call0 hq23
      refine Rn.v rfl rfl rfl rfl (V.as rfl) (Rn.regEnd (Rn.seq (Rn.seq (Rn.reg (Rn.v rfl rfl rfl rfl (V.mv rfl) (Rn.v rfl rfl rfl rfl (V.lss rfl rfl) (Rn.regEnd ?_)))))))
      refine Rn.condD rfl (fun h25 => ?_) (fun h25 => ?_)
      · replace hM := iteT h25 hM
        refine Rn.seq (Rn.reg (Rn.v rfl rfl rfl rfl (V.bldS st47 rfl rfl) (Rn.st rfl rfl Try.sizeOf47 rfl rfl rfl rfl (by first | exact ones rfl | (simp [Value.oneCell']; done)) (hm24.get 0 rfl) (by first | exact Nat.le_of_ble_eq_true rfl | (simp; done)) ?_)))
        intro w26 m26 x26
        have hm27 : Hp Z0 (LS [T_limnographref18_Disk.obj F0 b0 x0]) w w26 [boxR b2 47 [.slice none 0 0, .bool false, .int .i64 (0)], T_limnographref18_Disk.obj F21 b0 y21] := hm24.st 0 rfl x26 m26
        refine Rn.regEnd ?_
        have hm28 := hm27.addNil 5 byteR
        have hm31 := hm28.freeze 2 rfl
        refine Rn.retG1 Try.func18 rfl (rvC rfl Try.isAgg47 Try.sizeOf47 (hm27.get 0 rfl) rfl) ?_
        obtain rfl := someE hM
        exact ⟨none, 0, F21, rfl, hm31.pick [2, 1] rfl (by decide)⟩
      · replace hM := iteF h25 hM
        refine Rn.skip (Rn.seq (Rn.reg (Rn.v rfl rfl rfl rfl (V.mv rfl) (Rn.v rfl rfl rfl rfl (V.nil rfl) (Rn.v rfl rfl rfl rfl (V.fa Try.underlying52 rfl Try.sizeOf50 rfl rfl) ?_)))))
        obtain ⟨_, ⟨A32_0, c32_0, rfl⟩, hm32⟩ := hm24.unf 1 rfl
        replace hm32 : Hp Z0 (LS [T_limnographref18_Disk.obj F0 b0 x0]) w w23 [boxR b2 47 [.slice none 0 0, .bool false, .int .i64 (0)], boxR b0 52 [.slice A32_0 (y21.L).length c32_0, .int .i64 (y21.Capacity), .bool (y21.Down), .int .i64 (y21.Calls), .int .i64 (y21.Fail), .int .i64 (y21.Crash), .int .i64 (y21.Err)], ownR 87 A32_0 c32_0 T_limnographref18_File.rep y21.L] := hm32
        refine Rn.v rfl rfl rfl rfl (V.ldB Try.isAgg50 rfl (hm32.get 1 rfl) rfl) (Rn.v rfl rfl rfl rfl (V.mv rfl) ?_)
        obtain ⟨z34, e34, hM⟩ := bindE hM
        obtain ⟨kk34, ke34, kz34, kl34⟩ := idxE e34
        obtain ⟨g34, vs34, hA34, hR34, hrel34⟩ := hm32.ownAt 2 rfl kz34
        subst hA34
        obtain ⟨_, _, rfl, ⟨rfl, _⟩, ⟨_, _, rfl, ⟨A35, c35, rfl, p35, q35, s35⟩, ⟨rfl, _⟩⟩⟩ := hrel34
        have hm37 : Hp Z0 (LS [T_limnographref18_Disk.obj F0 b0 x0]) w w23 [boxR b2 47 [.slice none 0 0, .bool false, .int .i64 (0)], boxR b0 52 [.slice (some ⟨g34, 0, none⟩) (y21.L).length c32_0, .int .i64 (y21.Capacity), .bool (y21.Down), .int .i64 (y21.Calls), .int .i64 (y21.Fail), .int .i64 (y21.Crash), .int .i64 (y21.Err)], ownR 87 (some ⟨g34, 0, none⟩) c32_0 T_limnographref18_File.rep y21.L, slR A35 c35 byteR z34.Data] := Hp.knowL [slR A35 c35 byteR z34.Data] _ hm32 (knC (fun _ h => h) ⟨p35, q35, s35⟩ kn0)
        refine Rn.v rfl rfl rfl rfl (V.ixE kk34 Try.underlying50 Try.sizeOf87 rfl rfl ke34 kl34) (Rn.v rfl rfl rfl rfl (V.fa Try.underlying87 rfl Try.sizeOf22 rfl rfl) (Rn.v rfl rfl rfl rfl (V.ldR Try.isAgg22 rfl hR34 rfl) (Rn.v rfl rfl rfl rfl (V.as rfl) (Rn.regEnd (Rn.seq (Rn.reg (Rn.v rfl rfl rfl rfl (V.mv rfl) ?_)))))))
        obtain ⟨p38, e38, hM⟩ := bindE hM
        refine Rn.cl ck45 rfl rfl rfl rfl (m_limnographref04_First_sim (Z0 := Zo Z0 (LS [T_limnographref18_Disk.obj F0 b0 x0]) w [boxR b2 47 [.slice none 0 0, .bool false, .int .i64 (0)], boxR b0 52 [.slice (some ⟨g34, 0, none⟩) (y21.L).length c32_0, .int .i64 (y21.Capacity), .bool (y21.Down), .int .i64 (y21.Calls), .int .i64 (y21.Fail), .int .i64 (y21.Crash), .int .i64 (y21.Err)], ownR 87 (some ⟨g34, 0, none⟩) c32_0 T_limnographref18_File.rep y21.L, slR A35 c35 byteR z34.Data]) _ A35 c35 z34.Data 0 (hm37.get 3 rfl) e38) ?_
        rintro _ w38 ⟨A38_0_0, c38_0_0, rfl, hq38⟩
        refine ⟨_, rfl, ?_⟩
        have hm40 : Hp Z0 (LS [T_limnographref18_Disk.obj F0 b0 x0]) w w38 [boxR b2 47 [.slice none 0 0, .bool false, .int .i64 (0)], boxR b0 52 [.slice (some ⟨g34, 0, none⟩) (y21.L).length c32_0, .int .i64 (y21.Capacity), .bool (y21.Down), .int .i64 (y21.Calls), .int .i64 (y21.Fail), .int .i64 (y21.Crash), .int .i64 (y21.Err)], ownR 87 (some ⟨g34, 0, none⟩) c32_0 T_limnographref18_File.rep y21.L, slR A35 c35 byteR z34.Data, slR A38_0_0 c38_0_0 byteR p38.B] := hm37.callZ hq38
        refine Rn.als rfl rfl rfl Try.zeroValue89 rfl Try.sizeOf89 rfl rfl rfl rfl (by first | exact ones rfl | (simp [Value.oneCell']; done)) ?_
        intro b41 w41 hb41 m41 e41
        have hm43 : Hp Z0 (LS [T_limnographref18_Disk.obj F0 b0 x0]) w w41 [boxR b2 47 [.slice none 0 0, .bool false, .int .i64 (0)], boxR b0 52 [.slice (some ⟨g34, 0, none⟩) (y21.L).length c32_0, .int .i64 (y21.Capacity), .bool (y21.Down), .int .i64 (y21.Calls), .int .i64 (y21.Fail), .int .i64 (y21.Crash), .int .i64 (y21.Err)], ownR 87 (some ⟨g34, 0, none⟩) c32_0 T_limnographref18_File.rep y21.L, slR A35 c35 byteR z34.Data, slR A38_0_0 c38_0_0 byteR p38.B, boxR b41 89 [.slice A38_0_0 (p38.B).length c38_0_0, .int .i64 (p38.N), .int .i64 (p38.E)]] := hm40.addBox hb41 e41 m41
        refine Rn.regEnd (Rn.seq (Rn.seq (Rn.reg (Rn.v rfl rfl rfl rfl (V.fa Try.underlying89 rfl Try.sizeOf23 rfl rfl) (Rn.v rfl rfl rfl rfl (V.ldB Try.isAgg23 rfl (hm43.get 5 rfl) rfl) (Rn.v rfl rfl rfl rfl (V.neq rfl rfl) (Rn.v rfl rfl rfl rfl (V.mv rfl) ?_)))))))
        refine Rn.cutR [] [(4, .pointer (some ⟨b2, 0, none⟩)), (8, .pointer (some ⟨b41, 0, none⟩)), (52, .bool (decide ((p38.E ≠ 0) ∨ (p38.N ≠ (z34.Data.length : Int)))))] (fun hk44 => ?_) ?_
        · refine Rn.partD (t := 46) rfl (fun h45 => ?_) (fun h45 => ?_)
          · refine Rn.no rfl rfl rfl rfl (Rn.no rfl rfl rfl rfl (Rn.no rfl rfl rfl rfl (Rn.no rfl rfl rfl rfl (Rn.no rfl rfl rfl rfl (Rn.v rfl rfl rfl rfl (V.pkT rfl rfl) ?_)))))
            refine hk44 _ ?_
            exact Sub.cons rfl (Sub.cons rfl (Sub.cons (lkv _ rfl (by first | exact andT h45 | exact andF h45 | exact orT h45 | exact orF h45 | exact nandF h45 | exact nandT h45 | exact norT h45 | exact norF h45 | (simp [h45]; done) | grind)) (Sub.nil _)))
          · refine Rn.v rfl rfl rfl rfl (V.fa Try.underlying89 rfl Try.sizeOf3 rfl rfl) (Rn.v rfl rfl rfl rfl (V.ldB Try.isAgg3 rfl (hm43.get 5 rfl) rfl) (Rn.v rfl rfl rfl rfl (V.mv rfl) (Rn.v rfl rfl rfl rfl (V.lenV Try.underlying22 rfl) (Rn.v rfl rfl rfl rfl (V.neq rfl rfl) (Rn.v rfl rfl rfl rfl (V.pkF rfl rfl) ?_)))))
            refine hk44 _ ?_
            exact Sub.cons rfl (Sub.cons rfl (Sub.cons (lkv _ rfl (by first | exact andT h45 | exact andF h45 | exact orT h45 | exact orF h45 | exact nandF h45 | exact nandT h45 | exact norT h45 | exact norF h45 | (simp [h45]; done) | grind)) (Sub.nil _)))
        refine Rn.regEnd ?_
        refine Rn.condD rfl (fun h46 => ?_) (fun h46 => ?_)
        · replace hM := iteT h46 hM
          refine Rn.seq (Rn.reg (Rn.v rfl rfl rfl rfl (V.bldS st47 rfl rfl) (Rn.st rfl rfl Try.sizeOf47 rfl rfl rfl rfl (by first | exact ones rfl | (simp [Value.oneCell']; done)) (hm43.get 0 rfl) (by first | exact Nat.le_of_ble_eq_true rfl | (simp; done)) ?_)))
          intro w47 m47 x47
          have hm48 : Hp Z0 (LS [T_limnographref18_Disk.obj F0 b0 x0]) w w47 [boxR b2 47 [.slice none 0 0, .bool false, .int .i64 (15)], boxR b0 52 [.slice (some ⟨g34, 0, none⟩) (y21.L).length c32_0, .int .i64 (y21.Capacity), .bool (y21.Down), .int .i64 (y21.Calls), .int .i64 (y21.Fail), .int .i64 (y21.Crash), .int .i64 (y21.Err)], ownR 87 (some ⟨g34, 0, none⟩) c32_0 T_limnographref18_File.rep y21.L, slR A35 c35 byteR z34.Data, slR A38_0_0 c38_0_0 byteR p38.B, boxR b41 89 [.slice A38_0_0 (p38.B).length c38_0_0, .int .i64 (p38.N), .int .i64 (p38.E)]] := hm43.st 0 rfl x47 m47
          refine Rn.regEnd ?_
          have hm49 := hm48.addNil 5 byteR
          have hm52 := hm49.freeze 6 rfl
          have hm54 : Hp Z0 (LS [T_limnographref18_Disk.obj F0 b0 x0]) w w47 ([boxR b2 47 [.slice none 0 0, .bool false, .int .i64 (15)], slR A35 c35 byteR z34.Data, slR A38_0_0 c38_0_0 byteR p38.B, boxR b41 89 [.slice A38_0_0 (p38.B).length c38_0_0, .int .i64 (p38.N), .int .i64 (p38.E)], slR none 0 byteR ([] : List UInt8)] ++ [boxR b0 52 [.slice (some ⟨g34, 0, none⟩) (y21.L).length c32_0, .int .i64 (y21.Capacity), .bool (y21.Down), .int .i64 (y21.Calls), .int .i64 (y21.Fail), .int .i64 (y21.Crash), .int .i64 (y21.Err)], ownR 87 (some ⟨g34, 0, none⟩) c32_0 T_limnographref18_File.rep y21.L]) := hm52.pick [0, 3, 4, 5, 6, 1, 2] rfl (by decide)
          obtain ⟨F53, hm53⟩ := hm54.fold (T_limnographref18_Disk.sh b0 y21) ⟨(some ⟨g34, 0, none⟩), c32_0, rfl⟩
          replace hm53 : Hp Z0 (LS [T_limnographref18_Disk.obj F0 b0 x0]) w w47 [boxR b2 47 [.slice none 0 0, .bool false, .int .i64 (15)], slR A35 c35 byteR z34.Data, slR A38_0_0 c38_0_0 byteR p38.B, boxR b41 89 [.slice A38_0_0 (p38.B).length c38_0_0, .int .i64 (p38.N), .int .i64 (p38.E)], slR none 0 byteR ([] : List UInt8), T_limnographref18_Disk.obj F53 b0 y21] := hm53
          refine Rn.retG1 Try.func18 rfl (rvC rfl Try.isAgg47 Try.sizeOf47 (hm48.get 0 rfl) rfl) ?_
          obtain rfl := someE hM
          exact ⟨none, 0, F53, rfl, hm53.pick [4, 5] rfl (by decide)⟩
        · replace hM := iteF h46 hM
          refine Rn.skip (Rn.seq (Rn.reg (Rn.v rfl rfl rfl rfl (V.fa Try.underlying89 rfl Try.sizeOf22 rfl rfl) (Rn.v rfl rfl rfl rfl (V.ldB Try.isAgg22 rfl (hm43.get 5 rfl) rfl) (Rn.v rfl rfl rfl rfl (V.bldS st47 rfl rfl) (Rn.st rfl rfl Try.sizeOf47 rfl rfl rfl rfl (by first | exact ones rfl | (simp [Value.oneCell']; done)) (hm43.get 0 rfl) (by first | exact Nat.le_of_ble_eq_true rfl | (simp; done)) ?_))))))
          intro w55 m55 x55
          have hm56 : Hp Z0 (LS [T_limnographref18_Disk.obj F0 b0 x0]) w w55 [boxR b2 47 [.slice A38_0_0 (p38.B).length c38_0_0, .bool true, .int .i64 (0)], boxR b0 52 [.slice (some ⟨g34, 0, none⟩) (y21.L).length c32_0, .int .i64 (y21.Capacity), .bool (y21.Down), .int .i64 (y21.Calls), .int .i64 (y21.Fail), .int .i64 (y21.Crash), .int .i64 (y21.Err)], ownR 87 (some ⟨g34, 0, none⟩) c32_0 T_limnographref18_File.rep y21.L, slR A35 c35 byteR z34.Data, slR A38_0_0 c38_0_0 byteR p38.B, boxR b41 89 [.slice A38_0_0 (p38.B).length c38_0_0, .int .i64 (p38.N), .int .i64 (p38.E)]] := hm43.st 0 rfl x55 m55
          refine Rn.regEnd ?_
          have hm58 : Hp Z0 (LS [T_limnographref18_Disk.obj F0 b0 x0]) w w55 ([boxR b2 47 [.slice A38_0_0 (p38.B).length c38_0_0, .bool true, .int .i64 (0)], slR A35 c35 byteR z34.Data, slR A38_0_0 c38_0_0 byteR p38.B, boxR b41 89 [.slice A38_0_0 (p38.B).length c38_0_0, .int .i64 (p38.N), .int .i64 (p38.E)]] ++ [boxR b0 52 [.slice (some ⟨g34, 0, none⟩) (y21.L).length c32_0, .int .i64 (y21.Capacity), .bool (y21.Down), .int .i64 (y21.Calls), .int .i64 (y21.Fail), .int .i64 (y21.Crash), .int .i64 (y21.Err)], ownR 87 (some ⟨g34, 0, none⟩) c32_0 T_limnographref18_File.rep y21.L]) := hm56.pick [0, 3, 4, 5, 1, 2] rfl (by decide)
          obtain ⟨F57, hm57⟩ := hm58.fold (T_limnographref18_Disk.sh b0 y21) ⟨(some ⟨g34, 0, none⟩), c32_0, rfl⟩
          replace hm57 : Hp Z0 (LS [T_limnographref18_Disk.obj F0 b0 x0]) w w55 [boxR b2 47 [.slice A38_0_0 (p38.B).length c38_0_0, .bool true, .int .i64 (0)], slR A35 c35 byteR z34.Data, slR A38_0_0 c38_0_0 byteR p38.B, boxR b41 89 [.slice A38_0_0 (p38.B).length c38_0_0, .int .i64 (p38.N), .int .i64 (p38.E)], T_limnographref18_Disk.obj F57 b0 y21] := hm57
          refine Rn.retG1 Try.func18 rfl (rvC rfl Try.isAgg47 Try.sizeOf47 (hm56.get 0 rfl) rfl) ?_
          obtain rfl := someE hM
          exact ⟨A38_0_0, c38_0_0, F57, rfl, hm57.pick [2, 4] rfl (by decide)⟩
    intro hk1
    clear hj1
    refine Rn.condD rfl (fun h59 => ?_) (fun h59 => ?_)
    · replace hM := iteT h59 hM
      refine Rn.seq (Rn.reg (Rn.v rfl rfl rfl rfl (V.mv rfl) (Rn.v rfl rfl rfl rfl (V.mv rfl) ?_)))
      obtain ⟨z60, e60, hM⟩ := bindE hM
      refine Rn.v rfl rfl rfl rfl (V.catZ rfl rfl e60) ?_
      obtain ⟨p61, e61, hM⟩ := bindE hM
      have hm62 : Hp Z0 (LS [T_limnographref18_Disk.obj F0 b0 x0]) w w17 ([boxR b2 47 [.slice none 0 0, .bool false, .int .i64 (0)]] ++ [T_limnographref18_Disk.obj F18 b0 x0]) := hm20.pick [0, 1] rfl (by decide)
      refine Rn.cl ck44 rfl rfl rfl rfl (m_limnographref18_Disk_Remove_sim (Z0 := _) _ F18 b0 x0 z60 hm62.lend e61) ?_
      rintro _ w61 ⟨F61_p0, rfl, hq61⟩
      refine ⟨_, rfl, ?_⟩
      have hm64 : Hp Z0 (LS [T_limnographref18_Disk.obj F0 b0 x0]) w w61 [boxR b2 47 [.slice none 0 0, .bool false, .int .i64 (0)], T_limnographref18_Disk.obj F61_p0 b0 p61.2] := hm62.callAZ hq61
      refine Rn.v rfl rfl rfl rfl (V.as rfl) (Rn.regEnd (Rn.seq (Rn.reg (Rn.v rfl rfl rfl rfl (V.mv rfl) (Rn.v rfl rfl rfl rfl (V.neq rfl rfl) (Rn.regEnd ?_))))))
      refine Rn.condD rfl (fun h65 => ?_) (fun h65 => ?_)
      · replace hM := iteT h65 hM
        refine Rn.seq (Rn.reg (Rn.v rfl rfl rfl rfl (V.mv rfl) (Rn.v rfl rfl rfl rfl (V.bldS st47 rfl rfl) (Rn.st rfl rfl Try.sizeOf47 rfl rfl rfl rfl (by first | exact ones rfl | (simp [Value.oneCell']; done)) (hm64.get 0 rfl) (by first | exact Nat.le_of_ble_eq_true rfl | (simp; done)) ?_))))
        intro w66 m66 x66
        have hm67 : Hp Z0 (LS [T_limnographref18_Disk.obj F0 b0 x0]) w w66 [boxR b2 47 [.slice none 0 0, .bool false, .int .i64 (p61.1)], T_limnographref18_Disk.obj F61_p0 b0 p61.2] := hm64.st 0 rfl x66 m66
        refine Rn.regEnd ?_
        have hm68 := hm67.addNil 5 byteR
        have hm71 := hm68.freeze 2 rfl
        refine Rn.retG1 Try.func18 rfl (rvC rfl Try.isAgg47 Try.sizeOf47 (hm67.get 0 rfl) rfl) ?_
        obtain rfl := someE hM
        exact ⟨none, 0, F61_p0, rfl, hm71.pick [2, 1] rfl (by decide)⟩
      · replace hM := iteF h65 hM
        refine Rn.skip ?_
        exact hk1 (p61.2, F61_p0) _ _ (Sub.cons rfl (Sub.cons rfl (Sub.cons rfl (Sub.nil _)))) (hm64.pick [0, 1] rfl (by decide)) hM
    · replace hM := iteF h59 hM
      refine Rn.skip ?_
      exact hk1 (x0, F18) _ _ (Sub.cons rfl (Sub.cons rfl (Sub.cons rfl (Sub.nil _)))) (hm20.pick [0, 1] rfl (by decide)) hM

set_option maxRecDepth 20000 in
theorem m_disk_Disk_Fail_sim {Z0 : Nat → Prop} (w : World) (F0 : Nat → Prop) (b0 : Nat) (x0 : PD) (x1 : Int) (x2 : Int) {r : PD} (hL : Lent Z0 w [diskO 61 68 5 F0 b0 x0]) (hM : m_disk_Disk_Fail x0 x1 x2 = some r) :
    Calls Try.prog 9 #[.pointer (some ⟨b0, 0, none⟩), .int .i64 (x1), .int .i64 (x2)] w fun x w' => ∃ F_p0, x = .returned (.tuple #[]) ∧ Hp Z0 (LS [diskO 61 68 5 F0 b0 x0]) w w' [diskO 61 68 5 F_p0 b0 r] := by
  unfold m_disk_Disk_Fail at hM
  split at hM
  · rename_i hg
    obtain rfl := someE hM
    have hd : DkAt 61 68 5 w b0 F0 x0 := hL.1 0 _ rfl
    refine (fail_spec x1 x2 w hg hd).mono ?_
    rintro x w' ⟨rfl, F', d, hx, hF⟩
    exact ⟨F', rfl, hL.turn1 hx hF fun _ => d⟩
  · cases hM

set_option maxRecDepth 20000 in
theorem m_limnographref18_Arm_sim {Z0 : Nat → Prop} (w : World) (x0 : Int) (x1 : Int) {r : Int}  (hM : m_limnographref18_Arm x0 x1 = some r) :
    Calls Try.prog 19 #[.int .i64 (x0), .int .i64 (x1)] w fun x w' => x = .returned (.int .i64 (r)) ∧ Hp Z0 No w w' [] := by
  have hm0 := Hp.nil Z0 No w
  have hc0 := Calm.nil
  refine Rn.enter Try.func19 rfl rfl (Nat.le_of_ble_eq_true rfl) ?_
  refine Rn.seq (Rn.reg (Rn.v rfl rfl rfl rfl (V.as rfl) (Rn.regEnd (Rn.seq (Rn.seq (Rn.reg (Rn.v rfl rfl rfl rfl (V.mv rfl) (Rn.v rfl rfl rfl rfl (V.lss rfl rfl) (Rn.v rfl rfl rfl rfl (V.mv rfl) ?_)))))))))
  refine Rn.cutR [] [(0, .int .i64 (x0)), (10, .bool (decide ((x0 < 0) ∨ (x1 = 0))))] (fun hk1 => ?_) ?_
  · refine Rn.partD (t := 7) rfl (fun h2 => ?_) (fun h2 => ?_)
    · refine Rn.no rfl rfl rfl rfl (Rn.no rfl rfl rfl rfl (Rn.v rfl rfl rfl rfl (V.pkT rfl rfl) ?_))
      refine hk1 _ ?_
      exact Sub.cons rfl (Sub.cons (lkv _ rfl (by first | exact andT h2 | exact andF h2 | exact orT h2 | exact orF h2 | exact nandF h2 | exact nandT h2 | exact norT h2 | exact norF h2 | (simp [h2]; done) | grind)) (Sub.nil _))
    · refine Rn.v rfl rfl rfl rfl (V.mv rfl) (Rn.v rfl rfl rfl rfl (V.eql rfl rfl) (Rn.v rfl rfl rfl rfl (V.pkF rfl rfl) ?_))
      refine hk1 _ ?_
      exact Sub.cons rfl (Sub.cons (lkv _ rfl (by first | exact andT h2 | exact andF h2 | exact orT h2 | exact orF h2 | exact nandF h2 | exact nandT h2 | exact norT h2 | exact norF h2 | (simp [h2]; done) | grind)) (Sub.nil _))
  refine Rn.regEnd ?_
  refine Rn.condD rfl (fun h3 => ?_) (fun h3 => ?_)
  · replace hM := iteT h3 hM
    refine Rn.seq (Rn.reg (Rn.v rfl rfl rfl rfl (V.as rfl) (Rn.regEnd ?_)))
    refine Rn.retG1 Try.func19 rfl (rvT rfl) ?_
    obtain rfl := someE hM
    exact ⟨rfl, hm0.pick [] rfl (by decide)⟩
  · replace hM := iteF h3 hM
    refine Rn.skip (Rn.seq (Rn.reg (Rn.v rfl rfl rfl rfl (V.mv rfl) (Rn.v rfl rfl rfl rfl (V.as rfl) (Rn.regEnd ?_)))))
    refine Rn.retG1 Try.func19 rfl (rvT rfl) ?_
    obtain rfl := someE hM
    exact ⟨rfl, hm0.pick [] rfl (by decide)⟩

set_option maxRecDepth 20000 in
theorem m_disk_Disk_Crash_sim {Z0 : Nat → Prop} (w : World) (F0 : Nat → Prop) (b0 : Nat) (x0 : PD) (x1 : Int) {r : PD} (hL : Lent Z0 w [diskO 61 68 5 F0 b0 x0]) (hM : m_disk_Disk_Crash x0 x1 = some r) :
    Calls Try.prog 8 #[.pointer (some ⟨b0, 0, none⟩), .int .i64 (x1)] w fun x w' => ∃ F_p0, x = .returned (.tuple #[]) ∧ Hp Z0 (LS [diskO 61 68 5 F0 b0 x0]) w w' [diskO 61 68 5 F_p0 b0 r] := by
  unfold m_disk_Disk_Crash at hM
  split at hM
  · rename_i hg
    obtain rfl := someE hM
    have hd : DkAt 61 68 5 w b0 F0 x0 := hL.1 0 _ rfl
    refine (crash_spec x1 w hg hd).mono ?_
    rintro x w' ⟨rfl, F', d, hx, hF⟩
    exact ⟨F', rfl, hL.turn1 hx hF fun _ => d⟩
  · cases hM

set_option maxRecDepth 20000 in
theorem m_disk_Disk_Boot_sim {Z0 : Nat → Prop} (w : World) (F0 : Nat → Prop) (b0 : Nat) (x0 : PD) (A1 : Option Addr) (c1 : Nat) (x1 : (List Int)) {r : (Int × PD)} (hL : Lent Z0 w [diskO 61 68 5 F0 b0 x0, slR A1 c1 (intR .i64) x1]) (hM : m_disk_Disk_Boot x0 x1 = some r) :
    Calls Try.prog 12 #[.pointer (some ⟨b0, 0, none⟩), .slice A1 (x1).length c1] w fun x w' => ∃ F_p0, x = .returned (.int .i64 (r.1)) ∧ Hp Z0 (LS [diskO 61 68 5 F0 b0 x0, slR A1 c1 (intR .i64) x1]) w w' [diskO 61 68 5 F_p0 b0 r.2] := by
  unfold m_disk_Disk_Boot at hM
  split at hM
  · rename_i hg
    obtain rfl := someE hM
    have hd : DkAt 61 68 5 w b0 F0 x0 := hL.1 0 _ rfl
    have hs := hL.1 1 _ rfl
    refine (boot_spec x1 A1 c1 _ w hg.1 hg.2.1 (by omega) rfl hs.2.2 (fun b hb hF => hb.2 0 _ rfl hF) hd).mono ?_
    rintro x w' ⟨rfl, F', d, hx, hF⟩
    exact ⟨F', rfl, hL.turn1 hx hF fun _ => d⟩
  · cases hM

set_option maxRecDepth 20000 in
theorem m_limnographref18_Disk_Boot_sim {Z0 : Nat → Prop} (w : World) (F0 : Nat → Prop) (b0 : Nat) (x0 : T_limnographref18_Disk) (A1 : Option Addr) (c1 : Nat) (x1 : (List Int)) {r : (Int × T_limnographref18_Disk)} (hL : Lent Z0 w [T_limnographref18_Disk.obj F0 b0 x0, slR A1 c1 (intR .i64) x1]) (hM : m_limnographref18_Disk_Boot x0 x1 = some r) :
    Calls Try.prog 20 #[.pointer (some ⟨b0, 0, none⟩), .slice A1 (x1).length c1] w fun x w' => ∃ F_p0, x = .returned (.int .i64 (r.1)) ∧ Hp Z0 (LS [T_limnographref18_Disk.obj F0 b0 x0, slR A1 c1 (intR .i64) x1]) w w' [T_limnographref18_Disk.obj F_p0 b0 r.2] := by
  have hm0 := hL.start
  refine Rn.enter Try.func20 rfl rfl (Nat.le_of_ble_eq_true rfl) ?_
  refine Rn.seq (Rn.reg (Rn.v rfl rfl rfl rfl (V.as rfl) (Rn.regEnd (Rn.seq (Rn.seq (Rn.reg (Rn.v rfl rfl rfl rfl (V.mv rfl) (Rn.v rfl rfl rfl rfl (V.nil rfl) (Rn.v rfl rfl rfl rfl (V.fa Try.underlying52 rfl Try.sizeOf4 rfl rfl) ?_)))))))))
  obtain ⟨_, ⟨A3_0, c3_0, rfl⟩, hm3⟩ := hm0.unf 0 rfl
  replace hm3 : Hp Z0 (LS [T_limnographref18_Disk.obj F0 b0 x0, slR A1 c1 (intR .i64) x1]) w w [slR A1 c1 (intR .i64) x1, boxR b0 52 [.slice A3_0 (x0.L).length c3_0, .int .i64 (x0.Capacity), .bool (x0.Down), .int .i64 (x0.Calls), .int .i64 (x0.Fail), .int .i64 (x0.Crash), .int .i64 (x0.Err)], ownR 87 A3_0 c3_0 T_limnographref18_File.rep x0.L] := hm3
  refine Rn.v rfl rfl rfl rfl (V.ldB Try.isAgg4 rfl (hm3.get 1 rfl) rfl) (Rn.v rfl rfl rfl rfl (V.notB rfl) (Rn.regEnd ?_))
  refine Rn.condS rfl (fun h5 => ?_) (fun h5 => ?_)
  · replace hM := iteT h5 hM
    refine Rn.seq (Rn.reg (Rn.v rfl rfl rfl rfl (V.as rfl) (Rn.regEnd ?_)))
    have hm7 : Hp Z0 (LS [T_limnographref18_Disk.obj F0 b0 x0, slR A1 c1 (intR .i64) x1]) w w ([slR A1 c1 (intR .i64) x1] ++ [boxR b0 52 [.slice A3_0 (x0.L).length c3_0, .int .i64 (x0.Capacity), .bool (x0.Down), .int .i64 (x0.Calls), .int .i64 (x0.Fail), .int .i64 (x0.Crash), .int .i64 (x0.Err)], ownR 87 A3_0 c3_0 T_limnographref18_File.rep x0.L]) := hm3.pick [0, 1, 2] rfl (by decide)
    obtain ⟨F6, hm6⟩ := hm7.fold (T_limnographref18_Disk.sh b0 x0) ⟨A3_0, c3_0, rfl⟩
    replace hm6 : Hp Z0 (LS [T_limnographref18_Disk.obj F0 b0 x0, slR A1 c1 (intR .i64) x1]) w w [slR A1 c1 (intR .i64) x1, T_limnographref18_Disk.obj F6 b0 x0] := hm6
    refine Rn.retG1 Try.func20 rfl (rvT rfl) ?_
    obtain rfl := someE hM
    exact ⟨F6, rfl, hm6.pick [1] rfl (by decide)⟩
  · replace hM := iteF (by rw [h5]; exact Bool.false_ne_true) hM
    refine Rn.skip (Rn.seq (Rn.reg (Rn.v rfl rfl rfl rfl (V.mv rfl) (Rn.v rfl rfl rfl rfl (V.nil rfl) (Rn.v rfl rfl rfl rfl (V.fa Try.underlying52 rfl Try.sizeOf4 rfl rfl) (Rn.st rfl rfl Try.sizeOf4 rfl rfl rfl rfl (by first | exact ones rfl | (simp [Value.oneCell']; done)) (hm3.get 1 rfl) (by first | exact Nat.le_of_ble_eq_true rfl | (simp; done)) ?_))))))
    intro w8 m8 x8
    have hm9 : Hp Z0 (LS [T_limnographref18_Disk.obj F0 b0 x0, slR A1 c1 (intR .i64) x1]) w w8 [slR A1 c1 (intR .i64) x1, boxR b0 52 [.slice A3_0 (x0.L).length c3_0, .int .i64 (x0.Capacity), .bool false, .int .i64 (x0.Calls), .int .i64 (x0.Fail), .int .i64 (x0.Crash), .int .i64 (x0.Err)], ownR 87 A3_0 c3_0 T_limnographref18_File.rep x0.L] := hm3.st 1 rfl x8 m8
    refine Rn.regEnd (Rn.seq (Rn.reg (Rn.v rfl rfl rfl rfl (V.mv rfl) (Rn.v rfl rfl rfl rfl (V.nil rfl) (Rn.v rfl rfl rfl rfl (V.fa Try.underlying52 rfl Try.sizeOf3 rfl rfl) (Rn.st rfl rfl Try.sizeOf3 rfl rfl rfl rfl (by first | exact ones rfl | (simp [Value.oneCell']; done)) (hm9.get 1 rfl) (by first | exact Nat.le_of_ble_eq_true rfl | (simp; done)) ?_))))))
    intro w10 m10 x10
    have hm11 : Hp Z0 (LS [T_limnographref18_Disk.obj F0 b0 x0, slR A1 c1 (intR .i64) x1]) w w10 [slR A1 c1 (intR .i64) x1, boxR b0 52 [.slice A3_0 (x0.L).length c3_0, .int .i64 (x0.Capacity), .bool false, .int .i64 (x0.Calls), .int .i64 ((-1)), .int .i64 (x0.Crash), .int .i64 (x0.Err)], ownR 87 A3_0 c3_0 T_limnographref18_File.rep x0.L] := hm9.st 1 rfl x10 m10
    refine Rn.regEnd (Rn.seq (Rn.reg (Rn.v rfl rfl rfl rfl (V.mv rfl) (Rn.v rfl rfl rfl rfl (V.nil rfl) (Rn.v rfl rfl rfl rfl (V.fa Try.underlying52 rfl Try.sizeOf3 rfl rfl) (Rn.st rfl rfl Try.sizeOf3 rfl rfl rfl rfl (by first | exact ones rfl | (simp [Value.oneCell']; done)) (hm11.get 1 rfl) (by first | exact Nat.le_of_ble_eq_true rfl | (simp; done)) ?_))))))
    intro w12 m12 x12
    have hm13 : Hp Z0 (LS [T_limnographref18_Disk.obj F0 b0 x0, slR A1 c1 (intR .i64) x1]) w w12 [slR A1 c1 (intR .i64) x1, boxR b0 52 [.slice A3_0 (x0.L).length c3_0, .int .i64 (x0.Capacity), .bool false, .int .i64 (x0.Calls), .int .i64 ((-1)), .int .i64 ((-1)), .int .i64 (x0.Err)], ownR 87 A3_0 c3_0 T_limnographref18_File.rep x0.L] := hm11.st 1 rfl x12 m12
    refine Rn.regEnd (Rn.seq (Rn.reg (Rn.v rfl rfl rfl rfl (V.as rfl) (Rn.regEnd (Rn.seq (Rn.seq (Rn.reg (Rn.v rfl rfl rfl rfl (V.as rfl) (Rn.regEnd ?_)))))))))
    have hm15 : Hp Z0 (LS [T_limnographref18_Disk.obj F0 b0 x0, slR A1 c1 (intR .i64) x1]) w w12 ([slR A1 c1 (intR .i64) x1] ++ [boxR b0 52 [.slice A3_0 (x0.L).length c3_0, .int .i64 (x0.Capacity), .bool false, .int .i64 (x0.Calls), .int .i64 ((-1)), .int .i64 ((-1)), .int .i64 (x0.Err)], ownR 87 A3_0 c3_0 T_limnographref18_File.rep x0.L]) := hm13.pick [0, 1, 2] rfl (by decide)
    obtain ⟨F14, hm14⟩ := hm15.fold (T_limnographref18_Disk.sh b0 ({ L := x0.L, Capacity := x0.Capacity, Down := false, Calls := x0.Calls, Fail := (-1), Crash := (-1), Err := x0.Err } : T_limnographref18_Disk)) ⟨A3_0, c3_0, rfl⟩
    replace hm14 : Hp Z0 (LS [T_limnographref18_Disk.obj F0 b0 x0, slR A1 c1 (intR .i64) x1]) w w12 [slR A1 c1 (intR .i64) x1, T_limnographref18_Disk.obj F14 b0 ({ L := x0.L, Capacity := x0.Capacity, Down := false, Calls := x0.Calls, Fail := (-1), Crash := (-1), Err := x0.Err } : T_limnographref18_Disk)] := hm14
    obtain ⟨j1, hj1, hM⟩ := jnE hM
    refine Rn.joinG (r := r) (G := (List T_limnographref18_File) × (Nat → Prop) × Option Addr × Nat) (fun g => [(0, .pointer (some ⟨b0, 0, none⟩)), (5, .slice (g.2.2.1) ((g.1)).length (g.2.2.2))]) (fun g w' => Hp Z0 (LS [T_limnographref18_Disk.obj F0 b0 x0, slR A1 c1 (intR .i64) x1]) w w' [slR A1 c1 (intR .i64) x1, T_limnographref18_Disk.obj (g.2.1) b0 ({ L := x0.L, Capacity := x0.Capacity, Down := false, Calls := x0.Calls, Fail := (-1), Crash := (-1), Err := x0.Err } : T_limnographref18_Disk), ownR 87 (g.2.2.1) (g.2.2.2) T_limnographref18_File.rep (g.1)]) (fun g => j1 g.1) ?_ ?_
    · subst hj1
      clear hM
      rintro ⟨y17, F16, A18, c18⟩ w20 hm20 hM
      replace hm20 : Hp Z0 (LS [T_limnographref18_Disk.obj F0 b0 x0, slR A1 c1 (intR .i64) x1]) w w20 [slR A1 c1 (intR .i64) x1, T_limnographref18_Disk.obj F16 b0 ({ L := x0.L, Capacity := x0.Capacity, Down := false, Calls := x0.Calls, Fail := (-1), Crash := (-1), Err := x0.Err } : T_limnographref18_Disk), ownR 87 A18 c18 T_limnographref18_File.rep y17] := hm20
      show Rn _ _ _ _ _ [(0, .pointer (some ⟨b0, 0, none⟩)), (5, .slice A18 (y17).length c18)] _
      try dsimp only at hM
      refine Rn.seq (Rn.reg (Rn.v rfl rfl rfl rfl (V.mv rfl) (Rn.v rfl rfl rfl rfl (V.mv rfl) (Rn.v rfl rfl rfl rfl (V.nil rfl) (Rn.v rfl rfl rfl rfl (V.fa Try.underlying52 rfl Try.sizeOf50 rfl rfl) ?_)))))
      obtain ⟨_, ⟨A21_0, c21_0, rfl⟩, hm21⟩ := hm20.unf 1 rfl
      replace hm21 : Hp Z0 (LS [T_limnographref18_Disk.obj F0 b0 x0, slR A1 c1 (intR .i64) x1]) w w20 [slR A1 c1 (intR .i64) x1, ownR 87 A18 c18 T_limnographref18_File.rep y17, boxR b0 52 [.slice A21_0 (({ L := x0.L, Capacity := x0.Capacity, Down := false, Calls := x0.Calls, Fail := (-1), Crash := (-1), Err := x0.Err } : T_limnographref18_Disk).L).length c21_0, .int .i64 (({ L := x0.L, Capacity := x0.Capacity, Down := false, Calls := x0.Calls, Fail := (-1), Crash := (-1), Err := x0.Err } : T_limnographref18_Disk).Capacity), .bool (({ L := x0.L, Capacity := x0.Capacity, Down := false, Calls := x0.Calls, Fail := (-1), Crash := (-1), Err := x0.Err } : T_limnographref18_Disk).Down), .int .i64 (({ L := x0.L, Capacity := x0.Capacity, Down := false, Calls := x0.Calls, Fail := (-1), Crash := (-1), Err := x0.Err } : T_limnographref18_Disk).Calls), .int .i64 (({ L := x0.L, Capacity := x0.Capacity, Down := false, Calls := x0.Calls, Fail := (-1), Crash := (-1), Err := x0.Err } : T_limnographref18_Disk).Fail), .int .i64 (({ L := x0.L, Capacity := x0.Capacity, Down := false, Calls := x0.Calls, Fail := (-1), Crash := (-1), Err := x0.Err } : T_limnographref18_Disk).Crash), .int .i64 (({ L := x0.L, Capacity := x0.Capacity, Down := false, Calls := x0.Calls, Fail := (-1), Crash := (-1), Err := x0.Err } : T_limnographref18_Disk).Err)], ownR 87 A21_0 c21_0 T_limnographref18_File.rep (({ L := x0.L, Capacity := x0.Capacity, Down := false, Calls := x0.Calls, Fail := (-1), Crash := (-1), Err := x0.Err } : T_limnographref18_Disk).L)] := hm21
      refine Rn.st rfl rfl Try.sizeOf50 rfl rfl rfl rfl (by first | exact ones rfl | (simp [Value.oneCell']; done)) (hm21.get 2 rfl) (by first | exact Nat.le_of_ble_eq_true rfl | (simp; done)) ?_
      intro w23 m23 x23
      have hm24 : Hp Z0 (LS [T_limnographref18_Disk.obj F0 b0 x0, slR A1 c1 (intR .i64) x1]) w w23 [slR A1 c1 (intR .i64) x1, ownR 87 A18 c18 T_limnographref18_File.rep y17, boxR b0 52 [.slice A18 (y17).length c18, .int .i64 (({ L := x0.L, Capacity := x0.Capacity, Down := false, Calls := x0.Calls, Fail := (-1), Crash := (-1), Err := x0.Err } : T_limnographref18_Disk).Capacity), .bool (({ L := x0.L, Capacity := x0.Capacity, Down := false, Calls := x0.Calls, Fail := (-1), Crash := (-1), Err := x0.Err } : T_limnographref18_Disk).Down), .int .i64 (({ L := x0.L, Capacity := x0.Capacity, Down := false, Calls := x0.Calls, Fail := (-1), Crash := (-1), Err := x0.Err } : T_limnographref18_Disk).Calls), .int .i64 (({ L := x0.L, Capacity := x0.Capacity, Down := false, Calls := x0.Calls, Fail := (-1), Crash := (-1), Err := x0.Err } : T_limnographref18_Disk).Fail), .int .i64 (({ L := x0.L, Capacity := x0.Capacity, Down := false, Calls := x0.Calls, Fail := (-1), Crash := (-1), Err := x0.Err } : T_limnographref18_Disk).Crash), .int .i64 (({ L := x0.L, Capacity := x0.Capacity, Down := false, Calls := x0.Calls, Fail := (-1), Crash := (-1), Err := x0.Err } : T_limnographref18_Disk).Err)], ownR 87 A21_0 c21_0 T_limnographref18_File.rep (({ L := x0.L, Capacity := x0.Capacity, Down := false, Calls := x0.Calls, Fail := (-1), Crash := (-1), Err := x0.Err } : T_limnographref18_Disk).L)] := hm21.st 2 rfl x23 m23
      refine Rn.regEnd (Rn.seq (Rn.reg (Rn.v rfl rfl rfl rfl (V.as rfl) (Rn.regEnd ?_))))
      have hm26 : Hp Z0 (LS [T_limnographref18_Disk.obj F0 b0 x0, slR A1 c1 (intR .i64) x1]) w w23 ([slR A1 c1 (intR .i64) x1, ownR 87 A21_0 c21_0 T_limnographref18_File.rep (({ L := x0.L, Capacity := x0.Capacity, Down := false, Calls := x0.Calls, Fail := (-1), Crash := (-1), Err := x0.Err } : T_limnographref18_Disk).L)] ++ [boxR b0 52 [.slice A18 (y17).length c18, .int .i64 (({ L := x0.L, Capacity := x0.Capacity, Down := false, Calls := x0.Calls, Fail := (-1), Crash := (-1), Err := x0.Err } : T_limnographref18_Disk).Capacity), .bool (({ L := x0.L, Capacity := x0.Capacity, Down := false, Calls := x0.Calls, Fail := (-1), Crash := (-1), Err := x0.Err } : T_limnographref18_Disk).Down), .int .i64 (({ L := x0.L, Capacity := x0.Capacity, Down := false, Calls := x0.Calls, Fail := (-1), Crash := (-1), Err := x0.Err } : T_limnographref18_Disk).Calls), .int .i64 (({ L := x0.L, Capacity := x0.Capacity, Down := false, Calls := x0.Calls, Fail := (-1), Crash := (-1), Err := x0.Err } : T_limnographref18_Disk).Fail), .int .i64 (({ L := x0.L, Capacity := x0.Capacity, Down := false, Calls := x0.Calls, Fail := (-1), Crash := (-1), Err := x0.Err } : T_limnographref18_Disk).Crash), .int .i64 (({ L := x0.L, Capacity := x0.Capacity, Down := false, Calls := x0.Calls, Fail := (-1), Crash := (-1), Err := x0.Err } : T_limnographref18_Disk).Err)], ownR 87 A18 c18 T_limnographref18_File.rep y17]) := hm24.pick [0, 3, 2, 1] rfl (by decide)
      obtain ⟨F25, hm25⟩ := hm26.fold (T_limnographref18_Disk.sh b0 ({ L := y17, Capacity := ({ L := x0.L, Capacity := x0.Capacity, Down := false, Calls := x0.Calls, Fail := (-1), Crash := (-1), Err := x0.Err } : T_limnographref18_Disk).Capacity, Down := ({ L := x0.L, Capacity := x0.Capacity, Down := false, Calls := x0.Calls, Fail := (-1), Crash := (-1), Err := x0.Err } : T_limnographref18_Disk).Down, Calls := ({ L := x0.L, Capacity := x0.Capacity, Down := false, Calls := x0.Calls, Fail := (-1), Crash := (-1), Err := x0.Err } : T_limnographref18_Disk).Calls, Fail := ({ L := x0.L, Capacity := x0.Capacity, Down := false, Calls := x0.Calls, Fail := (-1), Crash := (-1), Err := x0.Err } : T_limnographref18_Disk).Fail, Crash := ({ L := x0.L, Capacity := x0.Capacity, Down := false, Calls := x0.Calls, Fail := (-1), Crash := (-1), Err := x0.Err } : T_limnographref18_Disk).Crash, Err := ({ L := x0.L, Capacity := x0.Capacity, Down := false, Calls := x0.Calls, Fail := (-1), Crash := (-1), Err := x0.Err } : T_limnographref18_Disk).Err } : T_limnographref18_Disk)) ⟨A18, c18, rfl⟩
      replace hm25 : Hp Z0 (LS [T_limnographref18_Disk.obj F0 b0 x0, slR A1 c1 (intR .i64) x1]) w w23 [slR A1 c1 (intR .i64) x1, ownR 87 A21_0 c21_0 T_limnographref18_File.rep (({ L := x0.L, Capacity := x0.Capacity, Down := false, Calls := x0.Calls, Fail := (-1), Crash := (-1), Err := x0.Err } : T_limnographref18_Disk).L), T_limnographref18_Disk.obj F25 b0 ({ L := y17, Capacity := ({ L := x0.L, Capacity := x0.Capacity, Down := false, Calls := x0.Calls, Fail := (-1), Crash := (-1), Err := x0.Err } : T_limnographref18_Disk).Capacity, Down := ({ L := x0.L, Capacity := x0.Capacity, Down := false, Calls := x0.Calls, Fail := (-1), Crash := (-1), Err := x0.Err } : T_limnographref18_Disk).Down, Calls := ({ L := x0.L, Capacity := x0.Capacity, Down := false, Calls := x0.Calls, Fail := (-1), Crash := (-1), Err := x0.Err } : T_limnographref18_Disk).Calls, Fail := ({ L := x0.L, Capacity := x0.Capacity, Down := false, Calls := x0.Calls, Fail := (-1), Crash := (-1), Err := x0.Err } : T_limnographref18_Disk).Fail, Crash := ({ L := x0.L, Capacity := x0.Capacity, Down := false, Calls := x0.Calls, Fail := (-1), Crash := (-1), Err := x0.Err } : T_limnographref18_Disk).Crash, Err := ({ L := x0.L, Capacity := x0.Capacity, Down := false, Calls := x0.Calls, Fail := (-1), Crash := (-1), Err := x0.Err } : T_limnographref18_Disk).Err } : T_limnographref18_Disk)] := hm25
      refine Rn.retG1 Try.func20 rfl (rvT rfl) ?_
      obtain rfl := someE hM
      exact ⟨F25, rfl, hm25.pick [2] rfl (by decide)⟩
    intro hk1
    clear hj1
    refine Rn.block ?_
    have hm32 := hm14.addNil 87 T_limnographref18_File.rep
    refine Rn.loopF (G := (List T_limnographref18_File) × Int × (Nat → Prop) × Option Addr × Nat) (fun g => [(0, .pointer (some ⟨b0, 0, none⟩)), (1, .slice A1 (x1).length c1), (5, .slice (g.2.2.2.1) ((g.1)).length (g.2.2.2.2)), (6, .int .i64 ((g.2.1)))]) (fun g w' => Hp Z0 (LS [T_limnographref18_Disk.obj F0 b0 x0, slR A1 c1 (intR .i64) x1]) w w' [slR A1 c1 (intR .i64) x1, T_limnographref18_Disk.obj (g.2.2.1) b0 ({ L := x0.L, Capacity := x0.Capacity, Down := false, Calls := x0.Calls, Fail := (-1), Crash := (-1), Err := x0.Err } : T_limnographref18_Disk), ownR 87 (g.2.2.2.1) (g.2.2.2.2) T_limnographref18_File.rep (g.1)]) (fun n g => m_limnographref18_Disk_Boot_L1 x0 x1 j1 n g.1 g.2.1) fuel (([] : List T_limnographref18_File), 0, F14, none, 0) (Sub.cons rfl (Sub.cons rfl (Sub.cons rfl (Sub.cons rfl (Sub.nil _))))) (hm32.pick [0, 1, 2] rfl (by decide)) hM (fun _ => rfl) ?_
    clear hM
    rintro m34 ⟨y28, y31, F27, A29, c29⟩ w34 hm34 hM hn34
    replace hm34 : Hp Z0 (LS [T_limnographref18_Disk.obj F0 b0 x0, slR A1 c1 (intR .i64) x1]) w w34 [slR A1 c1 (intR .i64) x1, T_limnographref18_Disk.obj F27 b0 ({ L := x0.L, Capacity := x0.Capacity, Down := false, Calls := x0.Calls, Fail := (-1), Crash := (-1), Err := x0.Err } : T_limnographref18_Disk), ownR 87 A29 c29 T_limnographref18_File.rep y28] := hm34
    show Rn _ _ _ _ _ [(0, .pointer (some ⟨b0, 0, none⟩)), (1, .slice A1 (x1).length c1), (5, .slice A29 (y28).length c29), (6, .int .i64 (y31))] _
    replace hM : m_limnographref18_Disk_Boot_L1 x0 x1 j1 (m34 + 1) y28 y31 = some r := hM
    rw [m_limnographref18_Disk_Boot_L1] at hM
    refine Rn.seq (Rn.seq (Rn.reg (Rn.v rfl rfl rfl rfl (V.mv rfl) (Rn.v rfl rfl rfl rfl (V.mv rfl) (Rn.v rfl rfl rfl rfl (V.nil rfl) (Rn.v rfl rfl rfl rfl (V.fa Try.underlying52 rfl Try.sizeOf50 rfl rfl) ?_))))))
    obtain ⟨_, ⟨A35_0, c35_0, rfl⟩, hm35⟩ := hm34.unf 1 rfl
    replace hm35 : Hp Z0 (LS [T_limnographref18_Disk.obj F0 b0 x0, slR A1 c1 (intR .i64) x1]) w w34 [slR A1 c1 (intR .i64) x1, ownR 87 A29 c29 T_limnographref18_File.rep y28, boxR b0 52 [.slice A35_0 (({ L := x0.L, Capacity := x0.Capacity, Down := false, Calls := x0.Calls, Fail := (-1), Crash := (-1), Err := x0.Err } : T_limnographref18_Disk).L).length c35_0, .int .i64 (({ L := x0.L, Capacity := x0.Capacity, Down := false, Calls := x0.Calls, Fail := (-1), Crash := (-1), Err := x0.Err } : T_limnographref18_Disk).Capacity), .bool (({ L := x0.L, Capacity := x0.Capacity, Down := false, Calls := x0.Calls, Fail := (-1), Crash := (-1), Err := x0.Err } : T_limnographref18_Disk).Down), .int .i64 (({ L := x0.L, Capacity := x0.Capacity, Down := false, Calls := x0.Calls, Fail := (-1), Crash := (-1), Err := x0.Err } : T_limnographref18_Disk).Calls), .int .i64 (({ L := x0.L, Capacity := x0.Capacity, Down := false, Calls := x0.Calls, Fail := (-1), Crash := (-1), Err := x0.Err } : T_limnographref18_Disk).Fail), .int .i64 (({ L := x0.L, Capacity := x0.Capacity, Down := false, Calls := x0.Calls, Fail := (-1), Crash := (-1), Err := x0.Err } : T_limnographref18_Disk).Crash), .int .i64 (({ L := x0.L, Capacity := x0.Capacity, Down := false, Calls := x0.Calls, Fail := (-1), Crash := (-1), Err := x0.Err } : T_limnographref18_Disk).Err)], ownR 87 A35_0 c35_0 T_limnographref18_File.rep (({ L := x0.L, Capacity := x0.Capacity, Down := false, Calls := x0.Calls, Fail := (-1), Crash := (-1), Err := x0.Err } : T_limnographref18_Disk).L)] := hm35
    refine Rn.v rfl rfl rfl rfl (V.ldB Try.isAgg50 rfl (hm35.get 2 rfl) rfl) (Rn.v rfl rfl rfl rfl (V.lenV Try.underlying50 rfl) (Rn.v rfl rfl rfl rfl (V.lss rfl rfl) (Rn.regEnd ?_)))
    refine Rn.condD rfl (fun h37 => ?_) (fun h37 => ?_)
    · replace hM := iteT h37 hM
      refine Rn.skip (Rn.seq (Rn.block (Rn.seq (Rn.reg (Rn.v rfl rfl rfl rfl (V.mv rfl) (Rn.v rfl rfl rfl rfl (V.nil rfl) (Rn.v rfl rfl rfl rfl (V.fa Try.underlying52 rfl Try.sizeOf50 rfl rfl) (Rn.v rfl rfl rfl rfl (V.ldB Try.isAgg50 rfl (hm35.get 2 rfl) rfl) (Rn.v rfl rfl rfl rfl (V.mv rfl) ?_)))))))))
      obtain ⟨z38, e38, hM⟩ := bindE hM
      obtain ⟨kk38, ke38, kz38, kl38⟩ := idxE e38
      obtain ⟨g38, vs38, hA38, hR38, hrel38⟩ := hm35.ownAt 3 rfl kz38
      subst hA38
      obtain ⟨_, _, rfl, ⟨rfl, _⟩, ⟨_, _, rfl, ⟨A39, c39, rfl, p39, q39, s39⟩, ⟨rfl, _⟩⟩⟩ := hrel38
      have hm41 : Hp Z0 (LS [T_limnographref18_Disk.obj F0 b0 x0, slR A1 c1 (intR .i64) x1]) w w34 [slR A1 c1 (intR .i64) x1, ownR 87 A29 c29 T_limnographref18_File.rep y28, boxR b0 52 [.slice (some ⟨g38, 0, none⟩) (({ L := x0.L, Capacity := x0.Capacity, Down := false, Calls := x0.Calls, Fail := (-1), Crash := (-1), Err := x0.Err } : T_limnographref18_Disk).L).length c35_0, .int .i64 (({ L := x0.L, Capacity := x0.Capacity, Down := false, Calls := x0.Calls, Fail := (-1), Crash := (-1), Err := x0.Err } : T_limnographref18_Disk).Capacity), .bool (({ L := x0.L, Capacity := x0.Capacity, Down := false, Calls := x0.Calls, Fail := (-1), Crash := (-1), Err := x0.Err } : T_limnographref18_Disk).Down), .int .i64 (({ L := x0.L, Capacity := x0.Capacity, Down := false, Calls := x0.Calls, Fail := (-1), Crash := (-1), Err := x0.Err } : T_limnographref18_Disk).Calls), .int .i64 (({ L := x0.L, Capacity := x0.Capacity, Down := false, Calls := x0.Calls, Fail := (-1), Crash := (-1), Err := x0.Err } : T_limnographref18_Disk).Fail), .int .i64 (({ L := x0.L, Capacity := x0.Capacity, Down := false, Calls := x0.Calls, Fail := (-1), Crash := (-1), Err := x0.Err } : T_limnographref18_Disk).Crash), .int .i64 (({ L := x0.L, Capacity := x0.Capacity, Down := false, Calls := x0.Calls, Fail := (-1), Crash := (-1), Err := x0.Err } : T_limnographref18_Disk).Err)], ownR 87 (some ⟨g38, 0, none⟩) c35_0 T_limnographref18_File.rep (({ L := x0.L, Capacity := x0.Capacity, Down := false, Calls := x0.Calls, Fail := (-1), Crash := (-1), Err := x0.Err } : T_limnographref18_Disk).L), slR A39 c39 byteR z38.Data] := Hp.knowL [slR A39 c39 byteR z38.Data] _ hm35 (knC (fun _ h => h) ⟨p39, q39, s39⟩ kn0)
      refine Rn.v rfl rfl rfl rfl (V.ixE kk38 Try.underlying50 Try.sizeOf87 rfl rfl ke38 kl38) (Rn.v rfl rfl rfl rfl (V.ldA Try.isAgg87 Try.sizeOf87 rfl (Rd.pre hR38 3) rfl) (Rn.als rfl rfl rfl Try.zeroValue87 rfl Try.sizeOf87 rfl rfl rfl rfl (by first | exact ones rfl | (simp [Value.oneCell']; done)) ?_))
      intro b42 w42 hb42 m42 e42
      have hm44 : Hp Z0 (LS [T_limnographref18_Disk.obj F0 b0 x0, slR A1 c1 (intR .i64) x1]) w w42 [slR A1 c1 (intR .i64) x1, ownR 87 A29 c29 T_limnographref18_File.rep y28, boxR b0 52 [.slice (some ⟨g38, 0, none⟩) (({ L := x0.L, Capacity := x0.Capacity, Down := false, Calls := x0.Calls, Fail := (-1), Crash := (-1), Err := x0.Err } : T_limnographref18_Disk).L).length c35_0, .int .i64 (({ L := x0.L, Capacity := x0.Capacity, Down := false, Calls := x0.Calls, Fail := (-1), Crash := (-1), Err := x0.Err } : T_limnographref18_Disk).Capacity), .bool (({ L := x0.L, Capacity := x0.Capacity, Down := false, Calls := x0.Calls, Fail := (-1), Crash := (-1), Err := x0.Err } : T_limnographref18_Disk).Down), .int .i64 (({ L := x0.L, Capacity := x0.Capacity, Down := false, Calls := x0.Calls, Fail := (-1), Crash := (-1), Err := x0.Err } : T_limnographref18_Disk).Calls), .int .i64 (({ L := x0.L, Capacity := x0.Capacity, Down := false, Calls := x0.Calls, Fail := (-1), Crash := (-1), Err := x0.Err } : T_limnographref18_Disk).Fail), .int .i64 (({ L := x0.L, Capacity := x0.Capacity, Down := false, Calls := x0.Calls, Fail := (-1), Crash := (-1), Err := x0.Err } : T_limnographref18_Disk).Crash), .int .i64 (({ L := x0.L, Capacity := x0.Capacity, Down := false, Calls := x0.Calls, Fail := (-1), Crash := (-1), Err := x0.Err } : T_limnographref18_Disk).Err)], ownR 87 (some ⟨g38, 0, none⟩) c35_0 T_limnographref18_File.rep (({ L := x0.L, Capacity := x0.Capacity, Down := false, Calls := x0.Calls, Fail := (-1), Crash := (-1), Err := x0.Err } : T_limnographref18_Disk).L), slR A39 c39 byteR z38.Data, boxR b42 87 [Str (z38.Name), .slice A39 (z38.Data).length c39, .int .i64 (z38.Sure)]] := hm41.addBox hb42 e42 m42
      refine Rn.regEnd (Rn.seq (Rn.reg (Rn.v rfl rfl rfl rfl (V.fa Try.underlying87 rfl Try.sizeOf3 rfl rfl) (Rn.v rfl rfl rfl rfl (V.ldB Try.isAgg3 rfl (hm44.get 5 rfl) rfl) (Rn.v rfl rfl rfl rfl (V.as rfl) (Rn.regEnd (Rn.seq (Rn.seq (Rn.reg (Rn.v rfl rfl rfl rfl (V.mv rfl) (Rn.v rfl rfl rfl rfl (V.mv rfl) (Rn.v rfl rfl rfl rfl (V.lenV Try.underlying24 rfl) (Rn.v rfl rfl rfl rfl (V.lss rfl rfl) (Rn.v rfl rfl rfl rfl (V.mv rfl) ?_))))))))))))))
      have hm46 : Hp Z0 (LS [T_limnographref18_Disk.obj F0 b0 x0, slR A1 c1 (intR .i64) x1]) w w42 ([slR A1 c1 (intR .i64) x1, ownR 87 A29 c29 T_limnographref18_File.rep y28, slR A39 c39 byteR z38.Data, boxR b42 87 [Str (z38.Name), .slice A39 (z38.Data).length c39, .int .i64 (z38.Sure)]] ++ [boxR b0 52 [.slice (some ⟨g38, 0, none⟩) (({ L := x0.L, Capacity := x0.Capacity, Down := false, Calls := x0.Calls, Fail := (-1), Crash := (-1), Err := x0.Err } : T_limnographref18_Disk).L).length c35_0, .int .i64 (({ L := x0.L, Capacity := x0.Capacity, Down := false, Calls := x0.Calls, Fail := (-1), Crash := (-1), Err := x0.Err } : T_limnographref18_Disk).Capacity), .bool (({ L := x0.L, Capacity := x0.Capacity, Down := false, Calls := x0.Calls, Fail := (-1), Crash := (-1), Err := x0.Err } : T_limnographref18_Disk).Down), .int .i64 (({ L := x0.L, Capacity := x0.Capacity, Down := false, Calls := x0.Calls, Fail := (-1), Crash := (-1), Err := x0.Err } : T_limnographref18_Disk).Calls), .int .i64 (({ L := x0.L, Capacity := x0.Capacity, Down := false, Calls := x0.Calls, Fail := (-1), Crash := (-1), Err := x0.Err } : T_limnographref18_Disk).Fail), .int .i64 (({ L := x0.L, Capacity := x0.Capacity, Down := false, Calls := x0.Calls, Fail := (-1), Crash := (-1), Err := x0.Err } : T_limnographref18_Disk).Crash), .int .i64 (({ L := x0.L, Capacity := x0.Capacity, Down := false, Calls := x0.Calls, Fail := (-1), Crash := (-1), Err := x0.Err } : T_limnographref18_Disk).Err)], ownR 87 (some ⟨g38, 0, none⟩) c35_0 T_limnographref18_File.rep (({ L := x0.L, Capacity := x0.Capacity, Down := false, Calls := x0.Calls, Fail := (-1), Crash := (-1), Err := x0.Err } : T_limnographref18_Disk).L)]) := hm44.pick [0, 1, 4, 5, 2, 3] rfl (by decide)
      obtain ⟨F45, hm45⟩ := hm46.fold (T_limnographref18_Disk.sh b0 ({ L := x0.L, Capacity := x0.Capacity, Down := false, Calls := x0.Calls, Fail := (-1), Crash := (-1), Err := x0.Err } : T_limnographref18_Disk)) ⟨(some ⟨g38, 0, none⟩), c35_0, rfl⟩
      replace hm45 : Hp Z0 (LS [T_limnographref18_Disk.obj F0 b0 x0, slR A1 c1 (intR .i64) x1]) w w42 [slR A1 c1 (intR .i64) x1, ownR 87 A29 c29 T_limnographref18_File.rep y28, slR A39 c39 byteR z38.Data, boxR b42 87 [Str (z38.Name), .slice A39 (z38.Data).length c39, .int .i64 (z38.Sure)], T_limnographref18_Disk.obj F45 b0 ({ L := x0.L, Capacity := x0.Capacity, Down := false, Calls := x0.Calls, Fail := (-1), Crash := (-1), Err := x0.Err } : T_limnographref18_Disk)] := hm45
      obtain ⟨j2, hj2, hM⟩ := jnE hM
      refine Rn.joinR (r := r) (G := Bool × (Nat → Prop)) [] (fun g => [(0, .pointer (some ⟨b0, 0, none⟩)), (1, .slice A1 (x1).length c1), (5, .slice A29 (y28).length c29), (6, .int .i64 (y31)), (7, .pointer (some ⟨b42, 0, none⟩)), (8, .int .i64 (z38.Sure)), (51, .bool ((g.1)))]) (fun g w' => Hp Z0 (LS [T_limnographref18_Disk.obj F0 b0 x0, slR A1 c1 (intR .i64) x1]) w w' [slR A1 c1 (intR .i64) x1, ownR 87 A29 c29 T_limnographref18_File.rep y28, slR A39 c39 byteR z38.Data, boxR b42 87 [Str (z38.Name), .slice A39 (z38.Data).length c39, .int .i64 (z38.Sure)], T_limnographref18_Disk.obj (g.2) b0 ({ L := x0.L, Capacity := x0.Capacity, Down := false, Calls := x0.Calls, Fail := (-1), Crash := (-1), Err := x0.Err } : T_limnographref18_Disk)]) (fun g => j2 g.1) ?_ ?_
      · subst hj2
        clear hM
        rintro ⟨y48, F47⟩ w49 hm49 hM
        replace hm49 : Hp Z0 (LS [T_limnographref18_Disk.obj F0 b0 x0, slR A1 c1 (intR .i64) x1]) w w49 [slR A1 c1 (intR .i64) x1, ownR 87 A29 c29 T_limnographref18_File.rep y28, slR A39 c39 byteR z38.Data, boxR b42 87 [Str (z38.Name), .slice A39 (z38.Data).length c39, .int .i64 (z38.Sure)], T_limnographref18_Disk.obj F47 b0 ({ L := x0.L, Capacity := x0.Capacity, Down := false, Calls := x0.Calls, Fail := (-1), Crash := (-1), Err := x0.Err } : T_limnographref18_Disk)] := hm49
        show Rn _ _ _ _ _ [(0, .pointer (some ⟨b0, 0, none⟩)), (1, .slice A1 (x1).length c1), (5, .slice A29 (y28).length c29), (6, .int .i64 (y31)), (7, .pointer (some ⟨b42, 0, none⟩)), (8, .int .i64 (z38.Sure)), (51, .bool (y48))] _
        try dsimp only at hM
        refine Rn.regEnd ?_
        obtain ⟨j3, hj3, hM⟩ := jnE hM
        refine Rn.joinG (r := r) (G := Int × (Nat → Prop)) (fun g => [(0, .pointer (some ⟨b0, 0, none⟩)), (1, .slice A1 (x1).length c1), (5, .slice A29 (y28).length c29), (6, .int .i64 (y31)), (7, .pointer (some ⟨b42, 0, none⟩)), (8, .int .i64 ((g.1)))]) (fun g w' => Hp Z0 (LS [T_limnographref18_Disk.obj F0 b0 x0, slR A1 c1 (intR .i64) x1]) w w' [slR A1 c1 (intR .i64) x1, ownR 87 A29 c29 T_limnographref18_File.rep y28, slR A39 c39 byteR z38.Data, boxR b42 87 [Str (z38.Name), .slice A39 (z38.Data).length c39, .int .i64 (z38.Sure)], T_limnographref18_Disk.obj (g.2) b0 ({ L := x0.L, Capacity := x0.Capacity, Down := false, Calls := x0.Calls, Fail := (-1), Crash := (-1), Err := x0.Err } : T_limnographref18_Disk)]) (fun g => j3 g.1) ?_ ?_
        · subst hj3
          clear hM
          rintro ⟨y51, F50⟩ w52 hm52 hM
          replace hm52 : Hp Z0 (LS [T_limnographref18_Disk.obj F0 b0 x0, slR A1 c1 (intR .i64) x1]) w w52 [slR A1 c1 (intR .i64) x1, ownR 87 A29 c29 T_limnographref18_File.rep y28, slR A39 c39 byteR z38.Data, boxR b42 87 [Str (z38.Name), .slice A39 (z38.Data).length c39, .int .i64 (z38.Sure)], T_limnographref18_Disk.obj F50 b0 ({ L := x0.L, Capacity := x0.Capacity, Down := false, Calls := x0.Calls, Fail := (-1), Crash := (-1), Err := x0.Err } : T_limnographref18_Disk)] := hm52
          show Rn _ _ _ _ _ [(0, .pointer (some ⟨b0, 0, none⟩)), (1, .slice A1 (x1).length c1), (5, .slice A29 (y28).length c29), (6, .int .i64 (y31)), (7, .pointer (some ⟨b42, 0, none⟩)), (8, .int .i64 (y51))] _
          try dsimp only at hM
          refine Rn.drawK 10 rfl hm52 (by kernel_rfl) ?_
          intro w53 hm53
          refine RH.take 0 (by kernel_rfl) rfl rfl rfl rfl (fun w' hDr => V.mv rfl) ?_
          refine RH.take 1 (by kernel_rfl) rfl rfl rfl rfl (fun w' hDr => V.fa Try.underlying87 rfl Try.sizeOf9 rfl rfl) ?_
          refine RH.take 2 (by kernel_rfl) rfl rfl rfl rfl (fun w' hDr => V.ldB Try.isAgg9 rfl ((hm53.ext hDr).get 3 rfl) rfl) ?_
          refine RH.take 3 (by kernel_rfl) rfl rfl rfl rfl (fun w' hDr => V.fa Try.underlying87 rfl Try.sizeOf22 rfl rfl) ?_
          refine RH.take 4 (by kernel_rfl) rfl rfl rfl rfl (fun w' hDr => V.ldB Try.isAgg22 rfl ((hm53.ext hDr).get 3 rfl) rfl) ?_
          refine RH.take 5 (by kernel_rfl) rfl rfl rfl rfl (fun w' hDr => V.mv rfl) ?_
          obtain ⟨z54, e54, hM⟩ := bindE hM
          refine RH.cutH 6 (by kernel_rfl) hm53 2 rfl e54 rfl rfl rfl Try.underlying22 Try.sizeOf5 rfl rfl rfl rfl rfl ?_
          intro A54 c54 hm54
          refine RH.here fun hS7 => RH.one 7 (by kernel_rfl) rfl rfl rfl rfl (V.mv rfl) hS7 ?_
          refine RH.here fun hS8 => RH.one 8 (by kernel_rfl) rfl rfl rfl rfl (V.bldS st87 rfl rfl) hS8 ?_
          refine RH.bslS 9 (by kernel_rfl) rfl rfl rfl Try.underlying50 el87 rfl rfl rfl rfl (by first | exact szs rfl | (simp [Value.cells]; done)) (by decide) ?_
          intro b56 w56 hb56 m56 e56
          have hm57 := hm54.addLitZ (rep := T_limnographref18_File.rep) (xs := ([({ Name := z38.Name, Data := z54, Sure := y51 } : T_limnographref18_File)] : List T_limnographref18_File)) (vss := [[Str (z38.Name), .slice A54 (z54).length c54, .int .i64 (y51)]]) hb56 e56 m56 rfl rfl rfl ((relz_cons (show T_limnographref18_File.rep.rel _ _ _ _ from ⟨_, _, rfl, ⟨rfl, trivial⟩, ⟨_, _, rfl, ⟨_, _, rfl, (hm54.get 5 rfl).1, (hm54.get 5 rfl).2.1, (hm54.get 5 rfl).2.2⟩, ⟨rfl, trivial⟩⟩⟩) relz0))
          refine ⟨((Ext.refl _).trans e56), ?_⟩
          refine RG.tailK (by kernel_rfl) ?_
          obtain ⟨z59, e59, hM⟩ := bindE hM
          refine RH.appH 10 (by kernel_rfl) hm57 1 rfl e59 rfl rfl rfl Try.underlying50 el87 rfl rfl rfl rfl (hm57.srcO 6 rfl) ?_
          intro A59 c59 w59 hm59
          refine ⟨trivial, ?_⟩
          refine RH.here fun hS11 => RH.one 11 (by kernel_rfl) rfl rfl rfl rfl (V.as rfl) hS11 ?_
          refine RH.doneP (by kernel_rfl) ?_
          refine Rn.inBlock (Rn.reg (Rn.v rfl rfl rfl rfl (V.mv rfl) (Rn.v rfl rfl rfl rfl (V.addW rfl rfl) (Rn.v rfl rfl rfl rfl (V.as rfl) (Rn.regEnd ?_)))))
          exact hn34 (z59, (W64 (y31 + 1)), F50, A59, c59) _ _ (Sub.cons rfl (Sub.cons rfl (Sub.cons rfl (Sub.cons rfl (Sub.nil _))))) (hm59.pick [0, 4, 1] rfl (by decide)) hM
        intro hk3
        clear hj3
        refine Rn.condS rfl (fun h61 => ?_) (fun h61 => ?_)
        · replace hM := iteT h61 hM
          refine Rn.seq ?_
          refine Rn.drawP rfl hm49 ?_
          intro w62 hm62
          refine RH.takeP 0 (by kernel_rfl) rfl rfl rfl rfl (V.mv rfl) ?_
          refine RH.takeP 1 (by kernel_rfl) rfl rfl rfl rfl (V.mv rfl) ?_
          obtain ⟨z63, e63, hM⟩ := bindE hM
          obtain ⟨kk63, ke63, kz63, kl63⟩ := idxE e63
          obtain ⟨b63, o63, vs63, hA63, hD63, hR63, hrel63⟩ := Hp.at hm62 0 rfl kz63
          obtain ⟨rfl, _⟩ := hrel63
          have hm65 : Hp Z0 (LS [T_limnographref18_Disk.obj F0 b0 x0, slR A1 c1 (intR .i64) x1]) w w62 [slR A1 c1 (intR .i64) x1, ownR 87 A29 c29 T_limnographref18_File.rep y28, slR A39 c39 byteR z38.Data, boxR b42 87 [Str (z38.Name), .slice A39 (z38.Data).length c39, .int .i64 (z38.Sure)], T_limnographref18_Disk.obj F47 b0 ({ L := x0.L, Capacity := x0.Capacity, Down := false, Calls := x0.Calls, Fail := (-1), Crash := (-1), Err := x0.Err } : T_limnographref18_Disk), rdR b63 (o63 + kk63 * 1) [.int .i64 (z63)]] := Hp.knowL [rdR b63 (o63 + kk63 * 1) [.int .i64 (z63)]] _ hm62 (knC (fun _ h => h) ⟨fun _ => hD63, hR63⟩ kn0)
          refine RH.takeP 2 (by kernel_rfl) rfl rfl rfl rfl (V.ixA' hA63 kk63 Try.underlying24 Try.sizeOf3 rfl rfl ke63 kl63) ?_
          refine RH.takeP 3 (by kernel_rfl) rfl rfl rfl rfl (V.ldR0 Try.isAgg3 rfl (hm65.get 5 rfl).2 rfl) ?_
          refine RH.takeP 4 (by kernel_rfl) rfl rfl rfl rfl (V.fa Try.underlying87 rfl Try.sizeOf22 rfl rfl) ?_
          refine RH.takeP 5 (by kernel_rfl) rfl rfl rfl rfl (V.ldB Try.isAgg22 rfl (hm65.get 3 rfl) rfl) ?_
          refine RH.takeP 6 (by kernel_rfl) rfl rfl rfl rfl (V.lenV Try.underlying22 rfl) ?_
          refine RH.takeP 7 (by kernel_rfl) rfl rfl rfl rfl (V.mv rfl) ?_
          refine RH.takeP 8 (by kernel_rfl) rfl rfl rfl rfl (V.subW rfl rfl) ?_
          refine RH.takeP 9 (by kernel_rfl) rfl rfl rfl rfl (V.gtr rfl rfl) ?_
          refine RH.doneP (by kernel_rfl) ?_
          refine Rn.condD rfl (fun h66 => ?_) (fun h66 => ?_)
          · replace hM := iteT h66 hM
            refine Rn.reg (Rn.v rfl rfl rfl rfl (V.fa Try.underlying87 rfl Try.sizeOf22 rfl rfl) (Rn.v rfl rfl rfl rfl (V.ldB Try.isAgg22 rfl (hm65.get 3 rfl) rfl) (Rn.v rfl rfl rfl rfl (V.lenV Try.underlying22 rfl) (Rn.v rfl rfl rfl rfl (V.as rfl) (Rn.regEnd ?_)))))
            exact hk3 ((z38.Data.length : Int), F47) _ _ (Sub.cons rfl (Sub.cons rfl (Sub.cons rfl (Sub.cons rfl (Sub.cons rfl (Sub.cons rfl (Sub.nil _))))))) (hm65.pick [0, 1, 2, 3, 4] rfl (by decide)) hM
          · replace hM := iteF h66 hM
            refine Rn.reg (Rn.v rfl rfl rfl rfl (V.mv rfl) (Rn.v rfl rfl rfl rfl (V.mv rfl) (Rn.v rfl rfl rfl rfl (V.mv rfl) ?_)))
            obtain ⟨z67, e67, hM⟩ := bindE hM
            refine Rn.ixH hm65 0 rfl e67 rfl rfl rfl Try.underlying24 Try.sizeOf3 rfl rfl rfl rfl ?_
            rintro b67 o67 vs67 ⟨rfl, _⟩ hm67
            refine Rn.v rfl rfl rfl rfl (V.ldR0 Try.isAgg3 rfl (hm67.get 6 rfl).2 rfl) (Rn.v rfl rfl rfl rfl (V.addW rfl rfl) (Rn.v rfl rfl rfl rfl (V.as rfl) (Rn.regEnd ?_)))
            exact hk3 ((W64 (z38.Sure + z67)), F47) _ _ (Sub.cons rfl (Sub.cons rfl (Sub.cons rfl (Sub.cons rfl (Sub.cons rfl (Sub.cons rfl (Sub.nil _))))))) (hm67.pick [0, 1, 2, 3, 4] rfl (by decide)) hM
        · replace hM := iteF (by rw [h61]; exact Bool.false_ne_true) hM
          refine Rn.skip ?_
          exact hk3 (z38.Sure, F47) _ _ (Sub.cons rfl (Sub.cons rfl (Sub.cons rfl (Sub.cons rfl (Sub.cons rfl (Sub.cons rfl (Sub.nil _))))))) (hm49.pick [0, 1, 2, 3, 4] rfl (by decide)) hM
      intro hk2
      clear hj2
      refine Rn.partD (t := 45) rfl (fun h69 => ?_) (fun h69 => ?_)
      · replace hM := iteT h69 hM
        refine Rn.v rfl rfl rfl rfl (V.mv rfl) (Rn.v rfl rfl rfl rfl (V.mv rfl) ?_)
        obtain ⟨z70, e70, hM⟩ := bindE hM
        refine Rn.ixH hm45 0 rfl e70 rfl rfl rfl Try.underlying24 Try.sizeOf3 rfl rfl rfl rfl ?_
        rintro b70 o70 vs70 ⟨rfl, _⟩ hm70
        refine Rn.v rfl rfl rfl rfl (V.ldR0 Try.isAgg3 rfl (hm70.get 5 rfl).2 rfl) (Rn.v rfl rfl rfl rfl (V.gtr rfl rfl) (Rn.v rfl rfl rfl rfl (V.pkT rfl rfl) ?_))
        exact hk2 ((decide (z70 > 0)), F45) _ _ (Sub.cons rfl (Sub.cons rfl (Sub.cons rfl (Sub.cons rfl (Sub.cons rfl (Sub.cons rfl (Sub.cons rfl (Sub.nil _)))))))) (hm70.pick [0, 1, 2, 3, 4] rfl (by decide)) hM
      · replace hM := iteF h69 hM
        refine Rn.no rfl rfl rfl rfl (Rn.no rfl rfl rfl rfl (Rn.no rfl rfl rfl rfl (Rn.no rfl rfl rfl rfl (Rn.no rfl rfl rfl rfl (Rn.v rfl rfl rfl rfl (V.pkF rfl rfl) ?_)))))
        exact hk2 (false, F45) _ _ (Sub.cons rfl (Sub.cons rfl (Sub.cons rfl (Sub.cons rfl (Sub.cons rfl (Sub.cons rfl (Sub.cons rfl (Sub.nil _)))))))) (hm45.pick [0, 1, 2, 3, 4] rfl (by decide)) hM
    · replace hM := iteF h37 hM
      refine Rn.exit rfl ?_
      have hm73 : Hp Z0 (LS [T_limnographref18_Disk.obj F0 b0 x0, slR A1 c1 (intR .i64) x1]) w w34 ([slR A1 c1 (intR .i64) x1, ownR 87 A29 c29 T_limnographref18_File.rep y28] ++ [boxR b0 52 [.slice A35_0 (({ L := x0.L, Capacity := x0.Capacity, Down := false, Calls := x0.Calls, Fail := (-1), Crash := (-1), Err := x0.Err } : T_limnographref18_Disk).L).length c35_0, .int .i64 (({ L := x0.L, Capacity := x0.Capacity, Down := false, Calls := x0.Calls, Fail := (-1), Crash := (-1), Err := x0.Err } : T_limnographref18_Disk).Capacity), .bool (({ L := x0.L, Capacity := x0.Capacity, Down := false, Calls := x0.Calls, Fail := (-1), Crash := (-1), Err := x0.Err } : T_limnographref18_Disk).Down), .int .i64 (({ L := x0.L, Capacity := x0.Capacity, Down := false, Calls := x0.Calls, Fail := (-1), Crash := (-1), Err := x0.Err } : T_limnographref18_Disk).Calls), .int .i64 (({ L := x0.L, Capacity := x0.Capacity, Down := false, Calls := x0.Calls, Fail := (-1), Crash := (-1), Err := x0.Err } : T_limnographref18_Disk).Fail), .int .i64 (({ L := x0.L, Capacity := x0.Capacity, Down := false, Calls := x0.Calls, Fail := (-1), Crash := (-1), Err := x0.Err } : T_limnographref18_Disk).Crash), .int .i64 (({ L := x0.L, Capacity := x0.Capacity, Down := false, Calls := x0.Calls, Fail := (-1), Crash := (-1), Err := x0.Err } : T_limnographref18_Disk).Err)], ownR 87 A35_0 c35_0 T_limnographref18_File.rep (({ L := x0.L, Capacity := x0.Capacity, Down := false, Calls := x0.Calls, Fail := (-1), Crash := (-1), Err := x0.Err } : T_limnographref18_Disk).L)]) := hm35.pick [0, 1, 2, 3] rfl (by decide)
      obtain ⟨F72, hm72⟩ := hm73.fold (T_limnographref18_Disk.sh b0 ({ L := x0.L, Capacity := x0.Capacity, Down := false, Calls := x0.Calls, Fail := (-1), Crash := (-1), Err := x0.Err } : T_limnographref18_Disk)) ⟨A35_0, c35_0, rfl⟩
      replace hm72 : Hp Z0 (LS [T_limnographref18_Disk.obj F0 b0 x0, slR A1 c1 (intR .i64) x1]) w w34 [slR A1 c1 (intR .i64) x1, ownR 87 A29 c29 T_limnographref18_File.rep y28, T_limnographref18_Disk.obj F72 b0 ({ L := x0.L, Capacity := x0.Capacity, Down := false, Calls := x0.Calls, Fail := (-1), Crash := (-1), Err := x0.Err } : T_limnographref18_Disk)] := hm72
      exact hk1 (y28, F72, A29, c29) _ _ (Sub.cons rfl (Sub.cons rfl (Sub.nil _))) (hm72.pick [0, 2, 1] rfl (by decide)) hM

set_option maxRecDepth 20000 in
theorem m_disk_Disk_Calls_sim {Z0 : Nat → Prop} (w : World) (F0 : Nat → Prop) (b0 : Nat) (x0 : PD) {r : Int} (f0 : (fzR (diskO 61 68 5 F0 b0 x0)).H Z0 w) (hM : m_disk_Disk_Calls x0 = some r) :
    Calls Try.prog 46 #[.pointer (some ⟨b0, 0, none⟩)] w fun x w' => x = .returned (.int .i64 (r)) ∧ Hp Z0 No w w' [] := by
  obtain rfl := someE hM
  refine (calls_spec w f0.1).mono ?_
  rintro x w' ⟨rfl, rfl⟩
  exact ⟨rfl, Hp.nil Z0 No w⟩

set_option maxRecDepth 20000 in
theorem m_disk_Disk_Names_sim {Z0 : Nat → Prop} (w : World) (F0 : Nat → Prop) (b0 : Nat) (x0 : PD) {r : (List (List UInt8))} (f0 : (fzR (diskO 61 68 5 F0 b0 x0)).H Z0 w) (hM : m_disk_Disk_Names x0 = some r) :
    Calls Try.prog 14 #[.pointer (some ⟨b0, 0, none⟩)] w fun x w' => ∃ A_0_0 c_0_0, x = .returned (.slice A_0_0 (r).length c_0_0) ∧ Hp Z0 No w w' [ownR 9 A_0_0 c_0_0 textR r] := by
  unfold m_disk_Disk_Names at hM
  split at hM
  · rename_i hg
    obtain rfl := someE hM
    refine (names_spec w hg f0.1).mono ?_
    rintro x w' ⟨A, c, rfl, ho, hx⟩
    exact ⟨A, c, rfl, (Hp.nil Z0 No w).addOwn hx ho text_flat⟩
  · cases hM

set_option maxRecDepth 20000 in
theorem m_limnographlaw20_same_sim {Z0 : Nat → Prop} (w : World) (F0 : Nat → Prop) (b0 : Nat) (x0 : PD) (F1 : Nat → Prop) (b1 : Nat) (x1 : T_limnographref18_Disk) {r : Bool} (f0 : (fzR (diskO 61 68 5 F0 b0 x0)).H Z0 w) (f1 : (fzR (T_limnographref18_Disk.obj F1 b1 x1)).H Z0 w) (hM : m_limnographlaw20_same x0 x1 = some r) :
    Calls Try.prog 21 #[.pointer (some ⟨b0, 0, none⟩), .pointer (some ⟨b1, 0, none⟩)] w fun x w' => x = .returned (.bool (r)) ∧ Hp Z0 No w w' [] := by
  have hm0 := Hp.nil Z0 No w
  have hc0 := Calm.nil
  have hm3 := hm0.know (fzR (diskO 61 68 5 F0 b0 x0)) (fun _ h => h) (hm0.in0 hc0 f0)
  replace hc0 := hc0.snoc (r := fzR (diskO 61 68 5 F0 b0 x0)) (fun _ h => h)
  have hm4 := hm3.know (fzR (T_limnographref18_Disk.obj F1 b1 x1)) (fun _ h => h) (hm3.in0 hc0 f1)
  replace hc0 := hc0.snoc (r := fzR (T_limnographref18_Disk.obj F1 b1 x1)) (fun _ h => h)
  refine Rn.enter Try.func21 rfl rfl (Nat.le_of_ble_eq_true rfl) ?_
  refine Rn.seq (Rn.reg (Rn.v rfl rfl rfl rfl (V.as rfl) (Rn.regEnd (Rn.seq (Rn.seq ?_)))))
  obtain ⟨j1, hj1, hM⟩ := jnE hM
  refine Rn.joinG (r := r) (G := Bool) (fun g => [(0, .pointer (some ⟨b0, 0, none⟩)), (1, .pointer (some ⟨b1, 0, none⟩)), (24, .bool (g))]) (fun g w' => Hp Z0 No w w' [fzR (diskO 61 68 5 F0 b0 x0), fzR (T_limnographref18_Disk.obj F1 b1 x1)]) (fun g => j1 g) ?_ ?_
  · subst hj1
    clear hM
    rintro y5 w6 hm6 hM
    replace hm6 : Hp Z0 No w w6 [fzR (diskO 61 68 5 F0 b0 x0), fzR (T_limnographref18_Disk.obj F1 b1 x1)] := hm6
    show Rn _ _ _ _ _ [(0, .pointer (some ⟨b0, 0, none⟩)), (1, .pointer (some ⟨b1, 0, none⟩)), (24, .bool (y5))] _
    try dsimp only at hM
    refine Rn.condS rfl (fun h7 => ?_) (fun h7 => ?_)
    · replace hM := iteT h7 hM
      refine Rn.seq (Rn.reg (Rn.v rfl rfl rfl rfl (V.as rfl) (Rn.regEnd ?_)))
      refine Rn.retG1 Try.func21 rfl (rvT rfl) ?_
      obtain rfl := someE hM
      exact ⟨rfl, hm6.pick [] rfl (by decide)⟩
    · replace hM := iteF (by rw [h7]; exact Bool.false_ne_true) hM
      refine Rn.skip (Rn.seq (Rn.seq (Rn.reg (Rn.v rfl rfl rfl rfl (V.mv rfl) (Rn.v rfl rfl rfl rfl (V.nil rfl) (Rn.v rfl rfl rfl rfl (V.fa Try.underlying52 rfl Try.sizeOf4 rfl rfl) ?_))))))
      obtain ⟨_, ⟨A8_0, c8_0, rfl⟩, hm8⟩ := hm6.unfz 1 rfl
      replace hm8 : Hp Z0 No w w6 [fzR (diskO 61 68 5 F0 b0 x0), fzR (T_limnographref18_Disk.obj F1 b1 x1), fzR (boxR b1 52 [.slice A8_0 (x1.L).length c8_0, .int .i64 (x1.Capacity), .bool (x1.Down), .int .i64 (x1.Calls), .int .i64 (x1.Fail), .int .i64 (x1.Crash), .int .i64 (x1.Err)]), fzR (ownR 87 A8_0 c8_0 T_limnographref18_File.rep x1.L)] := hm8
      have hm12 := hm8.fzSl 3 rfl
      refine Rn.v rfl rfl rfl rfl (V.ldB Try.isAgg4 rfl (hm12.getz 2 rfl) rfl) (Rn.regEnd ?_)
      refine Rn.condS rfl (fun h13 => ?_) (fun h13 => ?_)
      · replace hM := iteT h13 hM
        refine Rn.seq (Rn.reg (Rn.v rfl rfl rfl rfl (V.as rfl) (Rn.regEnd ?_)))
        refine Rn.retG1 Try.func21 rfl (rvT rfl) ?_
        obtain rfl := someE hM
        exact ⟨rfl, hm12.pick [] rfl (by decide)⟩
      · replace hM := iteF (by rw [h13]; exact Bool.false_ne_true) hM
        refine Rn.skip (Rn.seq (Rn.reg (Rn.v rfl rfl rfl rfl (V.mv rfl) ?_)))
        obtain ⟨p14, e14, hM⟩ := bindE hM
        refine Rn.cl ck14 rfl rfl rfl rfl (m_disk_Disk_Names_sim (Z0 := All) _ F0 b0 x0 (fz_fz (hm12.get 0 rfl)) e14) ?_
        rintro _ w14 ⟨A14_0_0, c14_0_0, rfl, hq14⟩
        refine ⟨_, rfl, ?_⟩
        have hm16 : Hp Z0 No w w14 [fzR (diskO 61 68 5 F0 b0 x0), fzR (T_limnographref18_Disk.obj F1 b1 x1), fzR (boxR b1 52 [.slice A8_0 (x1.L).length c8_0, .int .i64 (x1.Capacity), .bool (x1.Down), .int .i64 (x1.Calls), .int .i64 (x1.Fail), .int .i64 (x1.Crash), .int .i64 (x1.Err)]), fzR (ownR 87 A8_0 c8_0 T_limnographref18_File.rep x1.L), slR A8_0 c8_0 T_limnographref18_File.rep x1.L, ownR 9 A14_0_0 c14_0_0 textR p14] := hm12.callF (flC (ownR_flat text_flat _ _ _ _) fl0) hq14
        refine Rn.v rfl rfl rfl rfl (V.as rfl) (Rn.regEnd (Rn.seq (Rn.seq (Rn.reg (Rn.v rfl rfl rfl rfl (V.mv rfl) (Rn.v rfl rfl rfl rfl (V.lenV Try.underlying35 rfl) (Rn.v rfl rfl rfl rfl (V.mv rfl) (Rn.v rfl rfl rfl rfl (V.nil rfl) (Rn.v rfl rfl rfl rfl (V.fa Try.underlying52 rfl Try.sizeOf50 rfl rfl) (Rn.v rfl rfl rfl rfl (V.ldB Try.isAgg50 rfl (hm16.getz 2 rfl) rfl) (Rn.v rfl rfl rfl rfl (V.lenV Try.underlying50 rfl) (Rn.v rfl rfl rfl rfl (V.neq rfl rfl) (Rn.regEnd ?_)))))))))))))
        refine Rn.condD rfl (fun h17 => ?_) (fun h17 => ?_)
        · replace hM := iteT h17 hM
          refine Rn.seq (Rn.reg (Rn.v rfl rfl rfl rfl (V.as rfl) (Rn.regEnd ?_)))
          refine Rn.retG1 Try.func21 rfl (rvT rfl) ?_
          obtain rfl := someE hM
          exact ⟨rfl, hm16.pick [] rfl (by decide)⟩
        · replace hM := iteF h17 hM
          refine Rn.skip (Rn.seq (Rn.seq (Rn.reg (Rn.v rfl rfl rfl rfl (V.as rfl) (Rn.regEnd ?_)))))
          obtain ⟨j2, hj2, hM⟩ := jnE hM
          refine Rn.joinG (r := r) (G := Unit) (fun g => []) (fun g w' => Hp Z0 No w w' [fzR (diskO 61 68 5 F0 b0 x0), fzR (T_limnographref18_Disk.obj F1 b1 x1), fzR (boxR b1 52 [.slice A8_0 (x1.L).length c8_0, .int .i64 (x1.Capacity), .bool (x1.Down), .int .i64 (x1.Calls), .int .i64 (x1.Fail), .int .i64 (x1.Crash), .int .i64 (x1.Err)]), fzR (ownR 87 A8_0 c8_0 T_limnographref18_File.rep x1.L), slR A8_0 c8_0 T_limnographref18_File.rep x1.L, ownR 9 A14_0_0 c14_0_0 textR p14]) (fun g => j2 ()) ?_ ?_
          · subst hj2
            clear hM
            rintro _ w18 hm18 hM
            replace hm18 : Hp Z0 No w w18 [fzR (diskO 61 68 5 F0 b0 x0), fzR (T_limnographref18_Disk.obj F1 b1 x1), fzR (boxR b1 52 [.slice A8_0 (x1.L).length c8_0, .int .i64 (x1.Capacity), .bool (x1.Down), .int .i64 (x1.Calls), .int .i64 (x1.Fail), .int .i64 (x1.Crash), .int .i64 (x1.Err)]), fzR (ownR 87 A8_0 c8_0 T_limnographref18_File.rep x1.L), slR A8_0 c8_0 T_limnographref18_File.rep x1.L, ownR 9 A14_0_0 c14_0_0 textR p14] := hm18
            show Rn _ _ _ _ _ [] _
            try dsimp only at hM
            refine Rn.seq (Rn.reg (Rn.v rfl rfl rfl rfl (V.as rfl) (Rn.regEnd ?_)))
            refine Rn.retG1 Try.func21 rfl (rvT rfl) ?_
            obtain rfl := someE hM
            exact ⟨rfl, hm18.pick [] rfl (by decide)⟩
          intro hk2
          clear hj2
          refine Rn.block ?_
          refine Rn.loopF (G := Int) (fun g => [(0, .pointer (some ⟨b0, 0, none⟩)), (1, .pointer (some ⟨b1, 0, none⟩)), (5, .slice A14_0_0 (p14).length c14_0_0), (6, .int .i64 (g))]) (fun g w' => Hp Z0 No w w' [fzR (diskO 61 68 5 F0 b0 x0), fzR (T_limnographref18_Disk.obj F1 b1 x1), fzR (boxR b1 52 [.slice A8_0 (x1.L).length c8_0, .int .i64 (x1.Capacity), .bool (x1.Down), .int .i64 (x1.Calls), .int .i64 (x1.Fail), .int .i64 (x1.Crash), .int .i64 (x1.Err)]), fzR (ownR 87 A8_0 c8_0 T_limnographref18_File.rep x1.L), slR A8_0 c8_0 T_limnographref18_File.rep x1.L, ownR 9 A14_0_0 c14_0_0 textR p14]) (fun n g => m_limnographlaw20_same_L1 x0 x1 p14 j2 n g) fuel 0 (Sub.cons rfl (Sub.cons rfl (Sub.cons rfl (Sub.cons rfl (Sub.nil _))))) (hm16.pick [0, 1, 2, 3, 4, 5] rfl (by decide)) hM (fun _ => rfl) ?_
          clear hM
          rintro m20 y19 w20 hm20 hM hn20
          replace hm20 : Hp Z0 No w w20 [fzR (diskO 61 68 5 F0 b0 x0), fzR (T_limnographref18_Disk.obj F1 b1 x1), fzR (boxR b1 52 [.slice A8_0 (x1.L).length c8_0, .int .i64 (x1.Capacity), .bool (x1.Down), .int .i64 (x1.Calls), .int .i64 (x1.Fail), .int .i64 (x1.Crash), .int .i64 (x1.Err)]), fzR (ownR 87 A8_0 c8_0 T_limnographref18_File.rep x1.L), slR A8_0 c8_0 T_limnographref18_File.rep x1.L, ownR 9 A14_0_0 c14_0_0 textR p14] := hm20
          show Rn _ _ _ _ _ [(0, .pointer (some ⟨b0, 0, none⟩)), (1, .pointer (some ⟨b1, 0, none⟩)), (5, .slice A14_0_0 (p14).length c14_0_0), (6, .int .i64 (y19))] _
          replace hM : m_limnographlaw20_same_L1 x0 x1 p14 j2 (m20 + 1) y19 = some r := hM
          rw [m_limnographlaw20_same_L1] at hM
          refine Rn.seq (Rn.seq (Rn.reg (Rn.v rfl rfl rfl rfl (V.mv rfl) (Rn.v rfl rfl rfl rfl (V.mv rfl) (Rn.v rfl rfl rfl rfl (V.lenV Try.underlying35 rfl) (Rn.v rfl rfl rfl rfl (V.lss rfl rfl) (Rn.regEnd ?_)))))))
          refine Rn.condD rfl (fun h21 => ?_) (fun h21 => ?_)
          · replace hM := iteT h21 hM
            refine Rn.skip (Rn.seq (Rn.block (Rn.seq (Rn.reg (Rn.v rfl rfl rfl rfl (V.mv rfl) (Rn.v rfl rfl rfl rfl (V.mv rfl) (Rn.v rfl rfl rfl rfl (V.mv rfl) ?_)))))))
            obtain ⟨z22, e22, hM⟩ := bindE hM
            obtain ⟨kk22, ke22, kz22, kl22⟩ := idxE e22
            obtain ⟨g22, vs22, hA22, hR22, hrel22⟩ := hm20.ownAt 5 rfl kz22
            subst hA22
            obtain ⟨rfl, _⟩ := hrel22
            refine Rn.v rfl rfl rfl rfl (V.ixE kk22 Try.underlying35 Try.sizeOf9 rfl rfl ke22 kl22) (Rn.v rfl rfl rfl rfl (V.ldR0 Try.isAgg9 rfl hR22 rfl) ?_)
            obtain ⟨p23, e23, hM⟩ := bindE hM
            refine Rn.cl ck34 rfl rfl rfl rfl (m_disk_Disk_Read_sim (Z0 := All) _ F0 b0 x0 z22 (fz_fz (hm20.get 0 rfl)) e23) ?_
            rintro _ w23 ⟨A23_0_0, c23_0_0, rfl, hq23⟩
            refine ⟨_, rfl, ?_⟩
            have hm25 : Hp Z0 No w w23 [fzR (diskO 61 68 5 F0 b0 x0), fzR (T_limnographref18_Disk.obj F1 b1 x1), fzR (boxR b1 52 [.slice A8_0 (x1.L).length c8_0, .int .i64 (x1.Capacity), .bool (x1.Down), .int .i64 (x1.Calls), .int .i64 (x1.Fail), .int .i64 (x1.Crash), .int .i64 (x1.Err)]), fzR (ownR 87 A8_0 c8_0 T_limnographref18_File.rep x1.L), slR A8_0 c8_0 T_limnographref18_File.rep x1.L, ownR 9 (some ⟨g22, 0, none⟩) c14_0_0 textR p14, ownR 5 A23_0_0 c23_0_0 byteR p23.1] := hm20.callF (flC (ownR_flat byte_flat _ _ _ _) fl0) hq23
            refine Rn.v rfl rfl rfl rfl (V.mv rfl) (Rn.v rfl rfl rfl rfl (V.ext rfl rfl) (Rn.v rfl rfl rfl rfl (V.ext rfl rfl) (Rn.v rfl rfl rfl rfl (V.as rfl) (Rn.v rfl rfl rfl rfl (V.as rfl) (Rn.regEnd (Rn.seq ?_))))))
            obtain ⟨j3, hj3, hM⟩ := jnE hM
            refine Rn.joinG (r := r) (G := Bool) (fun g => [(0, .pointer (some ⟨b0, 0, none⟩)), (1, .pointer (some ⟨b1, 0, none⟩)), (5, .slice (some ⟨g22, 0, none⟩) (p14).length c14_0_0), (6, .int .i64 (y19)), (80, .bool (g))]) (fun g w' => Hp Z0 No w w' [fzR (diskO 61 68 5 F0 b0 x0), fzR (T_limnographref18_Disk.obj F1 b1 x1), fzR (boxR b1 52 [.slice A8_0 (x1.L).length c8_0, .int .i64 (x1.Capacity), .bool (x1.Down), .int .i64 (x1.Calls), .int .i64 (x1.Fail), .int .i64 (x1.Crash), .int .i64 (x1.Err)]), fzR (ownR 87 A8_0 c8_0 T_limnographref18_File.rep x1.L), slR A8_0 c8_0 T_limnographref18_File.rep x1.L, ownR 9 (some ⟨g22, 0, none⟩) c14_0_0 textR p14, ownR 5 A23_0_0 c23_0_0 byteR p23.1]) (fun g => j3 g) ?_ ?_
            · subst hj3
              clear hM
              rintro y26 w27 hm27 hM
              replace hm27 : Hp Z0 No w w27 [fzR (diskO 61 68 5 F0 b0 x0), fzR (T_limnographref18_Disk.obj F1 b1 x1), fzR (boxR b1 52 [.slice A8_0 (x1.L).length c8_0, .int .i64 (x1.Capacity), .bool (x1.Down), .int .i64 (x1.Calls), .int .i64 (x1.Fail), .int .i64 (x1.Crash), .int .i64 (x1.Err)]), fzR (ownR 87 A8_0 c8_0 T_limnographref18_File.rep x1.L), slR A8_0 c8_0 T_limnographref18_File.rep x1.L, ownR 9 (some ⟨g22, 0, none⟩) c14_0_0 textR p14, ownR 5 A23_0_0 c23_0_0 byteR p23.1] := hm27
              show Rn _ _ _ _ _ [(0, .pointer (some ⟨b0, 0, none⟩)), (1, .pointer (some ⟨b1, 0, none⟩)), (5, .slice (some ⟨g22, 0, none⟩) (p14).length c14_0_0), (6, .int .i64 (y19)), (80, .bool (y26))] _
              try dsimp only at hM
              refine Rn.condS rfl (fun h28 => ?_) (fun h28 => ?_)
              · replace hM := iteT h28 hM
                refine Rn.seq (Rn.reg (Rn.v rfl rfl rfl rfl (V.as rfl) (Rn.regEnd ?_)))
                refine Rn.retG1 Try.func21 rfl (rvT rfl) ?_
                obtain rfl := someE hM
                exact ⟨rfl, hm27.pick [] rfl (by decide)⟩
              · replace hM := iteF (by rw [h28]; exact Bool.false_ne_true) hM
                refine Rn.skip (Rn.inBlock (Rn.reg (Rn.v rfl rfl rfl rfl (V.mv rfl) (Rn.v rfl rfl rfl rfl (V.addW rfl rfl) (Rn.v rfl rfl rfl rfl (V.as rfl) (Rn.regEnd ?_))))))
                exact hn20 (W64 (y19 + 1)) _ _ (Sub.cons rfl (Sub.cons rfl (Sub.cons rfl (Sub.cons rfl (Sub.nil _))))) (hm27.pick [0, 1, 2, 3, 4, 5] rfl (by decide)) hM
            intro hk3
            clear hj3
            refine Rn.drawP rfl hm25 ?_
            intro w29 hm29
            refine RH.takeP 0 (by kernel_rfl) rfl rfl rfl rfl (V.mv rfl) ?_
            refine RH.takeP 1 (by kernel_rfl) rfl rfl rfl rfl (V.mv rfl) ?_
            obtain ⟨z30, e30, hM⟩ := bindE hM
            obtain ⟨kk30, ke30, kz30, kl30⟩ := idxE e30
            obtain ⟨vs30, hR30, hrel30⟩ := hm29.ownAtL 5 rfl kz30
            obtain ⟨rfl, _⟩ := hrel30
            refine RH.takeP 2 (by kernel_rfl) rfl rfl rfl rfl (V.ixE kk30 Try.underlying35 Try.sizeOf9 rfl rfl ke30 kl30) ?_
            refine RH.takeP 3 (by kernel_rfl) rfl rfl rfl rfl (V.ldR0 Try.isAgg9 rfl hR30 rfl) ?_
            refine RH.takeP 4 (by kernel_rfl) rfl rfl rfl rfl (V.mv rfl) ?_
            refine RH.takeP 5 (by kernel_rfl) rfl rfl rfl rfl (V.nil rfl) ?_
            refine RH.takeP 6 (by kernel_rfl) rfl rfl rfl rfl (V.fa Try.underlying52 rfl Try.sizeOf50 rfl rfl) ?_
            refine RH.takeP 7 (by kernel_rfl) rfl rfl rfl rfl (V.ldB Try.isAgg50 rfl (hm29.getz 2 rfl) rfl) ?_
            refine RH.takeP 8 (by kernel_rfl) rfl rfl rfl rfl (V.mv rfl) ?_
            obtain ⟨z31, e31, hM⟩ := bindE hM
            obtain ⟨kk31, ke31, kz31, kl31⟩ := idxE e31
            obtain ⟨b31, o31, vs31, hA31, hD31, hR31, hrel31⟩ := Hp.at hm29 4 rfl kz31
            obtain ⟨_, _, rfl, ⟨rfl, _⟩, ⟨_, _, rfl, ⟨A32, c32, rfl, p32, q32, s32⟩, ⟨rfl, _⟩⟩⟩ := hrel31
            have hm35 : Hp Z0 No w w29 [fzR (diskO 61 68 5 F0 b0 x0), fzR (T_limnographref18_Disk.obj F1 b1 x1), fzR (boxR b1 52 [.slice A8_0 (x1.L).length c8_0, .int .i64 (x1.Capacity), .bool (x1.Down), .int .i64 (x1.Calls), .int .i64 (x1.Fail), .int .i64 (x1.Crash), .int .i64 (x1.Err)]), fzR (ownR 87 A8_0 c8_0 T_limnographref18_File.rep x1.L), slR A8_0 c8_0 T_limnographref18_File.rep x1.L, ownR 9 (some ⟨g22, 0, none⟩) c14_0_0 textR p14, ownR 5 A23_0_0 c23_0_0 byteR p23.1, rdR b31 (o31 + kk31 * 3) [Str (z31.Name), .slice A32 (z31.Data).length c32, .int .i64 (z31.Sure)], slR A32 c32 byteR z31.Data] := Hp.knowL [rdR b31 (o31 + kk31 * 3) [Str (z31.Name), .slice A32 (z31.Data).length c32, .int .i64 (z31.Sure)], slR A32 c32 byteR z31.Data] _ hm29 (knC (fun _ h => h) ⟨fun _ => hD31, hR31⟩ (knC (fun _ h => h) ⟨p32, q32, s32⟩ kn0))
            refine RH.takeP 9 (by kernel_rfl) rfl rfl rfl rfl (V.ixA' hA31 kk31 Try.underlying50 Try.sizeOf87 rfl rfl ke31 kl31) ?_
            refine RH.takeP 10 (by kernel_rfl) rfl rfl rfl rfl (V.fa Try.underlying87 rfl Try.sizeOf9 rfl rfl) ?_
            refine RH.takeP 11 (by kernel_rfl) rfl rfl rfl rfl (V.ldR0 Try.isAgg9 rfl (hm35.get 7 rfl).2 rfl) ?_
            refine RH.takeP 12 (by kernel_rfl) rfl rfl rfl rfl (V.neqS rfl rfl) ?_
            refine RH.takeP 13 (by kernel_rfl) rfl rfl rfl rfl (V.mv rfl) ?_
            refine RH.partD (t := 67) rfl (fun h36 => ?_) (fun h36 => ?_)
            · replace hM := iteT h36 hM
              refine RH.no 14 (by kernel_rfl) rfl rfl rfl rfl ?_
              refine RH.no 15 (by kernel_rfl) rfl rfl rfl rfl ?_
              refine RH.no 16 (by kernel_rfl) rfl rfl rfl rfl ?_
              refine RH.no 17 (by kernel_rfl) rfl rfl rfl rfl ?_
              refine RH.no 18 (by kernel_rfl) rfl rfl rfl rfl ?_
              refine RH.no 19 (by kernel_rfl) rfl rfl rfl rfl ?_
              refine RH.no 20 (by kernel_rfl) rfl rfl rfl rfl ?_
              refine RH.no 21 (by kernel_rfl) rfl rfl rfl rfl ?_
              refine RH.no 22 (by kernel_rfl) rfl rfl rfl rfl ?_
              refine RH.no 23 (by kernel_rfl) rfl rfl rfl rfl ?_
              refine RH.no 24 (by kernel_rfl) rfl rfl rfl rfl ?_
              refine RH.no 25 (by kernel_rfl) rfl rfl rfl rfl ?_
              refine RH.takeP 26 (by kernel_rfl) rfl rfl rfl rfl (V.pkT rfl rfl) ?_
              refine RH.doneP (by kernel_rfl) ?_
              exact hk3 true _ _ (Sub.cons rfl (Sub.cons rfl (Sub.cons rfl (Sub.cons rfl (Sub.cons rfl (Sub.nil _)))))) (hm35.pick [0, 1, 2, 3, 4, 5, 6] rfl (by decide)) hM
            · replace hM := iteF h36 hM
              refine RH.takeP 14 (by kernel_rfl) rfl rfl rfl rfl (V.mv rfl) ?_
              refine RH.takeP 15 (by kernel_rfl) rfl rfl rfl rfl (V.b2s Try.underlying22 Try.underlying9 Try.underlying5 rfl rfl (Own.sl (hm35.get 6 rfl))) ?_
              refine RH.takeP 16 (by kernel_rfl) rfl rfl rfl rfl (V.mv rfl) ?_
              refine RH.takeP 17 (by kernel_rfl) rfl rfl rfl rfl (V.nil rfl) ?_
              refine RH.takeP 18 (by kernel_rfl) rfl rfl rfl rfl (V.fa Try.underlying52 rfl Try.sizeOf50 rfl rfl) ?_
              refine RH.takeP 19 (by kernel_rfl) rfl rfl rfl rfl (V.ldB Try.isAgg50 rfl (hm35.getz 2 rfl) rfl) ?_
              refine RH.takeP 20 (by kernel_rfl) rfl rfl rfl rfl (V.mv rfl) ?_
              obtain ⟨z37, e37, hM⟩ := bindE hM
              obtain ⟨kk37, ke37, kz37, kl37⟩ := idxE e37
              obtain ⟨b37, o37, vs37, hA37, hD37, hR37, hrel37⟩ := Hp.at hm35 4 rfl kz37
              obtain ⟨_, _, rfl, ⟨rfl, _⟩, ⟨_, _, rfl, ⟨A38, c38, rfl, p38, q38, s38⟩, ⟨rfl, _⟩⟩⟩ := hrel37
              have hm41 : Hp Z0 No w w29 [fzR (diskO 61 68 5 F0 b0 x0), fzR (T_limnographref18_Disk.obj F1 b1 x1), fzR (boxR b1 52 [.slice A8_0 (x1.L).length c8_0, .int .i64 (x1.Capacity), .bool (x1.Down), .int .i64 (x1.Calls), .int .i64 (x1.Fail), .int .i64 (x1.Crash), .int .i64 (x1.Err)]), fzR (ownR 87 A8_0 c8_0 T_limnographref18_File.rep x1.L), slR A8_0 c8_0 T_limnographref18_File.rep x1.L, ownR 9 (some ⟨g22, 0, none⟩) c14_0_0 textR p14, ownR 5 A23_0_0 c23_0_0 byteR p23.1, rdR b31 (o31 + kk31 * 3) [Str (z31.Name), .slice A32 (z31.Data).length c32, .int .i64 (z31.Sure)], slR A32 c32 byteR z31.Data, rdR b37 (o37 + kk37 * 3) [Str (z37.Name), .slice A38 (z37.Data).length c38, .int .i64 (z37.Sure)], slR A38 c38 byteR z37.Data] := Hp.knowL [rdR b37 (o37 + kk37 * 3) [Str (z37.Name), .slice A38 (z37.Data).length c38, .int .i64 (z37.Sure)], slR A38 c38 byteR z37.Data] _ hm35 (knC (fun _ h => h) ⟨fun _ => hD37, hR37⟩ (knC (fun _ h => h) ⟨p38, q38, s38⟩ kn0))
              refine RH.takeP 21 (by kernel_rfl) rfl rfl rfl rfl (V.ixA' hA37 kk37 Try.underlying50 Try.sizeOf87 rfl rfl ke37 kl37) ?_
              refine RH.takeP 22 (by kernel_rfl) rfl rfl rfl rfl (V.fa Try.underlying87 rfl Try.sizeOf22 rfl rfl) ?_
              refine RH.takeP 23 (by kernel_rfl) rfl rfl rfl rfl (V.ldR Try.isAgg22 rfl (hm41.get 9 rfl).2 rfl) ?_
              refine RH.takeP 24 (by kernel_rfl) rfl rfl rfl rfl (V.b2s Try.underlying22 Try.underlying9 Try.underlying5 rfl rfl (hm41.get 10 rfl).2.2) ?_
              refine RH.takeP 25 (by kernel_rfl) rfl rfl rfl rfl (V.neqS rfl rfl) ?_
              refine RH.takeP 26 (by kernel_rfl) rfl rfl rfl rfl (V.pkF rfl rfl) ?_
              refine RH.doneP (by kernel_rfl) ?_
              exact hk3 (decide (p23.1 ≠ z37.Data)) _ _ (Sub.cons rfl (Sub.cons rfl (Sub.cons rfl (Sub.cons rfl (Sub.cons rfl (Sub.nil _)))))) (hm41.pick [0, 1, 2, 3, 4, 5, 6] rfl (by decide)) hM
          · replace hM := iteF h21 hM
            refine Rn.exit rfl ?_
            exact hk2 () _ _ (Sub.nil _) (hm20.pick [0, 1, 2, 3, 4, 5] rfl (by decide)) hM
  intro hk1
  clear hj1
  refine Rn.drawH rfl hm4 ?_
  intro w42 hm42
  refine RH.take 0 (by kernel_rfl) rfl rfl rfl rfl (fun w' hDr => V.mv rfl) ?_
  refine RH.take 2 (by kernel_rfl) rfl rfl rfl rfl (fun w' hDr => V.mv rfl) ?_
  refine RH.take 3 (by kernel_rfl) rfl rfl rfl rfl (fun w' hDr => V.nil rfl) ?_
  refine RH.take 4 (by kernel_rfl) rfl rfl rfl rfl (fun w' hDr => V.fa Try.underlying52 rfl Try.sizeOf4 rfl rfl) ?_
  obtain ⟨_, ⟨A43_0, c43_0, rfl⟩, hm43⟩ := hm42.unfz 1 rfl
  replace hm43 : Hp Z0 No w w42 [fzR (diskO 61 68 5 F0 b0 x0), fzR (T_limnographref18_Disk.obj F1 b1 x1), fzR (boxR b1 52 [.slice A43_0 (x1.L).length c43_0, .int .i64 (x1.Capacity), .bool (x1.Down), .int .i64 (x1.Calls), .int .i64 (x1.Fail), .int .i64 (x1.Crash), .int .i64 (x1.Err)]), fzR (ownR 87 A43_0 c43_0 T_limnographref18_File.rep x1.L)] := hm43
  have hm47 := hm43.fzSl 3 rfl
  refine RH.take 5 (by kernel_rfl) rfl rfl rfl rfl (fun w' hDr => V.ldB Try.isAgg4 rfl ((hm47.ext hDr).getz 2 rfl) rfl) ?_
  obtain ⟨p48, e48, hM⟩ := bindE hM
  refine RH.cl ck10 1 (by kernel_rfl) rfl rfl rfl rfl (m_disk_Disk_Down_sim (Z0 := All) _ F0 b0 x0 (fz_fz (hm47.get 0 rfl)) e48) ?_
  rintro _ w48 ⟨rfl, hq48⟩
  refine ⟨_, rfl, ((Ext.refl _).trans hq48.fr), ?_⟩
  have hm49 := hm47.call0 hq48
  refine RH.here fun hS6 => RH.one 6 (by kernel_rfl) rfl rfl rfl rfl (V.neqB Try.underlying4 rfl rfl) hS6 ?_
  refine RH.here fun hS7 => RH.one 7 (by kernel_rfl) rfl rfl rfl rfl (V.mv rfl) hS7 ?_
  refine RH.partD (t := 16) rfl (fun h50 => ?_) (fun h50 => ?_)
  · replace hM := iteT h50 hM
    refine RH.no 8 (by kernel_rfl) rfl rfl rfl rfl ?_
    refine RH.no 9 (by kernel_rfl) rfl rfl rfl rfl ?_
    refine RH.no 10 (by kernel_rfl) rfl rfl rfl rfl ?_
    refine RH.no 11 (by kernel_rfl) rfl rfl rfl rfl ?_
    refine RH.no 12 (by kernel_rfl) rfl rfl rfl rfl ?_
    refine RH.no 13 (by kernel_rfl) rfl rfl rfl rfl ?_
    refine RH.no 14 (by kernel_rfl) rfl rfl rfl rfl ?_
    refine RH.here fun hS15 => RH.one 15 (by kernel_rfl) rfl rfl rfl rfl (V.pkT rfl rfl) hS15 ?_
    refine RH.doneP (by kernel_rfl) ?_
    exact hk1 true _ _ (Sub.cons rfl (Sub.cons rfl (Sub.cons rfl (Sub.nil _)))) (hm49.pick [0, 1] rfl (by decide)) hM
  · replace hM := iteF h50 hM
    refine RH.take 8 (by kernel_rfl) rfl rfl rfl rfl (fun w' hDr => V.mv rfl) ?_
    refine RH.take 10 (by kernel_rfl) rfl rfl rfl rfl (fun w' hDr => V.mv rfl) ?_
    refine RH.take 11 (by kernel_rfl) rfl rfl rfl rfl (fun w' hDr => V.nil rfl) ?_
    refine RH.take 12 (by kernel_rfl) rfl rfl rfl rfl (fun w' hDr => V.fa Try.underlying52 rfl Try.sizeOf3 rfl rfl) ?_
    refine RH.take 13 (by kernel_rfl) rfl rfl rfl rfl (fun w' hDr => V.ldB Try.isAgg3 rfl ((hm47.ext hDr).getz 2 rfl) rfl) ?_
    obtain ⟨p51, e51, hM⟩ := bindE hM
    refine RH.cl ck46 9 (by kernel_rfl) rfl rfl rfl rfl (m_disk_Disk_Calls_sim (Z0 := All) _ F0 b0 x0 (fz_fz (hm49.get 0 rfl)) e51) ?_
    rintro _ w51 ⟨rfl, hq51⟩
    refine ⟨_, rfl, (((Ext.refl _).trans hq48.fr).trans hq51.fr), ?_⟩
    have hm52 := hm49.call0 hq51
    refine RH.here fun hS14 => RH.one 14 (by kernel_rfl) rfl rfl rfl rfl (V.neq rfl rfl) hS14 ?_
    refine RH.here fun hS15 => RH.one 15 (by kernel_rfl) rfl rfl rfl rfl (V.pkF rfl rfl) hS15 ?_
    refine RH.doneP (by kernel_rfl) ?_
    exact hk1 (decide (p51 ≠ x1.Calls)) _ _ (Sub.cons rfl (Sub.cons rfl (Sub.cons rfl (Sub.nil _)))) (hm52.pick [0, 1] rfl (by decide)) hM

end Go.Proofs.Ytknenggmdnpimaa
