/-
  The calls of functions of the program answer as their plain forms say, part 2. Printed by a program.
-/
import Derived.Test.YtpeloppldpdonaaRows
import Derived.Test.YtpeloppldpdonaaSB1
import Derived.Test.YtpeloppldpdonaaK1
namespace Go.Proofs.Ytpeloppldpdonaa
open Go Go.RowKit Go.Wk
set_option maxRecDepth 20000 in
theorem m_limnographref18_Disk_begin_sim {Z0 : Nat → Prop} (w : World) (F0 : Nat → Prop) (b0 : Nat) (x0 : T_limnographref18_Disk) {r : (Int × T_limnographref18_Disk)} (hL : Lent Z0 w [T_limnographref18_Disk.obj F0 b0 x0]) (hM : m_limnographref18_Disk_begin x0 = some r) :
    Calls Try.prog 53 #[.pointer (some ⟨b0, 0, none⟩)] w fun x w' => ∃ F_p0, x = .returned (.int .i64 (r.1)) ∧ Hp Z0 (LS [T_limnographref18_Disk.obj F0 b0 x0]) w w' [T_limnographref18_Disk.obj F_p0 b0 r.2] := by
  have hm0 := hL.start
  refine Rn.enter Try.func53 rfl rfl (Nat.le_of_ble_eq_true rfl) ?_
  refine Rn.seq (Rn.reg (Rn.v rfl rfl rfl rfl (V.as rfl) (Rn.regEnd (Rn.seq (Rn.seq (Rn.reg (Rn.v rfl rfl rfl rfl (V.mv rfl) (Rn.v rfl rfl rfl rfl (V.nil rfl) (Rn.v rfl rfl rfl rfl (V.fa Try.underlying62 rfl Try.sizeOf4 rfl rfl) ?_)))))))))
  obtain ⟨_, ⟨A2_0, c2_0, rfl⟩, hm2⟩ := hm0.unf 0 rfl
  replace hm2 : Hp Z0 (LS [T_limnographref18_Disk.obj F0 b0 x0]) w w [boxR b0 62 [.slice A2_0 (x0.L).length c2_0, .int .i64 (x0.Capacity), .bool (x0.Down), .int .i64 (x0.Calls), .int .i64 (x0.Fail), .int .i64 (x0.Crash), .int .i64 (x0.Err)], ownR 66 A2_0 c2_0 T_limnographref18_File.rep x0.L] := hm2
  refine Rn.v rfl rfl rfl rfl (V.ldB Try.isAgg4 rfl (hm2.get 0 rfl) rfl) (Rn.regEnd ?_)
  refine Rn.condS rfl (fun h4 => ?_) (fun h4 => ?_)
  · replace hM := iteT h4 hM
    refine Rn.seq (Rn.reg (Rn.v rfl rfl rfl rfl (V.as rfl) (Rn.regEnd ?_)))
    have hm6 : Hp Z0 (LS [T_limnographref18_Disk.obj F0 b0 x0]) w w ([] ++ [boxR b0 62 [.slice A2_0 (x0.L).length c2_0, .int .i64 (x0.Capacity), .bool (x0.Down), .int .i64 (x0.Calls), .int .i64 (x0.Fail), .int .i64 (x0.Crash), .int .i64 (x0.Err)], ownR 66 A2_0 c2_0 T_limnographref18_File.rep x0.L]) := hm2.pick [0, 1] rfl (by decide)
    obtain ⟨F5, hm5⟩ := hm6.fold (T_limnographref18_Disk.sh b0 x0) ⟨A2_0, c2_0, rfl⟩
    replace hm5 : Hp Z0 (LS [T_limnographref18_Disk.obj F0 b0 x0]) w w [T_limnographref18_Disk.obj F5 b0 x0] := hm5
    refine Rn.retG1 Try.func53 rfl (rvT rfl) ?_
    obtain rfl := someE hM
    exact ⟨F5, rfl, hm5.pick [0] rfl (by decide)⟩
  · replace hM := iteF (by rw [h4]; exact Bool.false_ne_true) hM
    refine Rn.skip (Rn.seq (Rn.reg (Rn.v rfl rfl rfl rfl (V.mv rfl) (Rn.v rfl rfl rfl rfl (V.mv rfl) (Rn.v rfl rfl rfl rfl (V.nil rfl) (Rn.v rfl rfl rfl rfl (V.fa Try.underlying62 rfl Try.sizeOf3 rfl rfl) (Rn.v rfl rfl rfl rfl (V.ldB Try.isAgg3 rfl (hm2.get 0 rfl) rfl) (Rn.v rfl rfl rfl rfl (V.addW rfl rfl) (Rn.v rfl rfl rfl rfl (V.nil rfl) (Rn.v rfl rfl rfl rfl (V.fa Try.underlying62 rfl Try.sizeOf3 rfl rfl) (Rn.st rfl rfl Try.sizeOf3 rfl rfl rfl rfl (by first | exact ones rfl | (simp [Value.oneCell']; done)) (hm2.get 0 rfl) (by first | exact Nat.le_of_ble_eq_true rfl | (simp; done)) ?_)))))))))))
    intro w7 m7 x7
    have hm8 : Hp Z0 (LS [T_limnographref18_Disk.obj F0 b0 x0]) w w7 [boxR b0 62 [.slice A2_0 (x0.L).length c2_0, .int .i64 (x0.Capacity), .bool (x0.Down), .int .i64 (W64 (x0.Calls + 1)), .int .i64 (x0.Fail), .int .i64 (x0.Crash), .int .i64 (x0.Err)], ownR 66 A2_0 c2_0 T_limnographref18_File.rep x0.L] := hm2.st 0 rfl x7 m7
    refine Rn.regEnd (Rn.seq ?_)
    refine Rn.drawP rfl hm8 ?_
    intro w9 hm9
    refine RH.takeP 0 (by kernel_rfl) rfl rfl rfl rfl (V.mv rfl) ?_
    refine RH.takeP 1 (by kernel_rfl) rfl rfl rfl rfl (V.nil rfl) ?_
    refine RH.takeP 2 (by kernel_rfl) rfl rfl rfl rfl (V.fa Try.underlying62 rfl Try.sizeOf3 rfl rfl) ?_
    refine RH.takeP 3 (by kernel_rfl) rfl rfl rfl rfl (V.ldB Try.isAgg3 rfl (hm9.get 0 rfl) rfl) ?_
    refine RH.takeP 4 (by kernel_rfl) rfl rfl rfl rfl (V.eql rfl rfl) ?_
    refine RH.takeP 5 (by kernel_rfl) rfl rfl rfl rfl (V.mv rfl) ?_
    refine RH.takeP 6 (by kernel_rfl) rfl rfl rfl rfl (V.nil rfl) ?_
    refine RH.takeP 7 (by kernel_rfl) rfl rfl rfl rfl (V.fa Try.underlying62 rfl Try.sizeOf3 rfl rfl) ?_
    refine RH.takeP 8 (by kernel_rfl) rfl rfl rfl rfl (V.ldB Try.isAgg3 rfl (hm9.get 0 rfl) rfl) ?_
    refine RH.takeP 9 (by kernel_rfl) rfl rfl rfl rfl (V.eql rfl rfl) ?_
    refine RH.takeP 10 (by kernel_rfl) rfl rfl rfl rfl (V.as rfl) ?_
    refine RH.takeP 11 (by kernel_rfl) rfl rfl rfl rfl (V.as rfl) ?_
    refine RH.doneP (by kernel_rfl) ?_
    refine Rn.seq (Rn.seq (Rn.reg (Rn.v rfl rfl rfl rfl (V.mv rfl) (Rn.v rfl rfl rfl rfl (V.nil rfl) (Rn.v rfl rfl rfl rfl (V.fa Try.underlying62 rfl Try.sizeOf3 rfl rfl) (Rn.v rfl rfl rfl rfl (V.ldB Try.isAgg3 rfl (hm9.get 0 rfl) rfl) (Rn.v rfl rfl rfl rfl (V.geq rfl rfl) (Rn.regEnd ?_))))))))
    have hm11 : Hp Z0 (LS [T_limnographref18_Disk.obj F0 b0 x0]) w w9 ([] ++ [boxR b0 62 [.slice A2_0 (x0.L).length c2_0, .int .i64 (x0.Capacity), .bool (x0.Down), .int .i64 (W64 (x0.Calls + 1)), .int .i64 (x0.Fail), .int .i64 (x0.Crash), .int .i64 (x0.Err)], ownR 66 A2_0 c2_0 T_limnographref18_File.rep x0.L]) := hm9.pick [0, 1] rfl (by decide)
    obtain ⟨F10, hm10⟩ := hm11.fold (T_limnographref18_Disk.sh b0 ({ L := x0.L, Capacity := x0.Capacity, Down := x0.Down, Calls := W64 (x0.Calls + 1), Fail := x0.Fail, Crash := x0.Crash, Err := x0.Err } : T_limnographref18_Disk)) ⟨A2_0, c2_0, rfl⟩
    replace hm10 : Hp Z0 (LS [T_limnographref18_Disk.obj F0 b0 x0]) w w9 [T_limnographref18_Disk.obj F10 b0 ({ L := x0.L, Capacity := x0.Capacity, Down := x0.Down, Calls := W64 (x0.Calls + 1), Fail := x0.Fail, Crash := x0.Crash, Err := x0.Err } : T_limnographref18_Disk)] := hm10
    obtain ⟨j1, hj1, hM⟩ := jnE hM
    refine Rn.joinG (r := r) (G := T_limnographref18_Disk × (Nat → Prop)) (fun g => [(0, .pointer (some ⟨b0, 0, none⟩)), (3, .bool (decide (x0.Crash = 0))), (4, .bool (decide (x0.Fail = 0)))]) (fun g w' => Hp Z0 (LS [T_limnographref18_Disk.obj F0 b0 x0]) w w' [T_limnographref18_Disk.obj (g.2) b0 (g.1)]) (fun g => j1 g.1) ?_ ?_
    · subst hj1
      clear hM
      rintro ⟨y12, F12⟩ w13 hm13 hM
      replace hm13 : Hp Z0 (LS [T_limnographref18_Disk.obj F0 b0 x0]) w w13 [T_limnographref18_Disk.obj F12 b0 y12] := hm13
      show Rn _ _ _ _ _ [(0, .pointer (some ⟨b0, 0, none⟩)), (3, .bool (decide (x0.Crash = 0))), (4, .bool (decide (x0.Fail = 0)))] _
      try dsimp only at hM
      refine Rn.seq (Rn.seq (Rn.reg (Rn.v rfl rfl rfl rfl (V.mv rfl) (Rn.v rfl rfl rfl rfl (V.nil rfl) (Rn.v rfl rfl rfl rfl (V.fa Try.underlying62 rfl Try.sizeOf3 rfl rfl) ?_)))))
      obtain ⟨_, ⟨A14_0, c14_0, rfl⟩, hm14⟩ := hm13.unf 0 rfl
      replace hm14 : Hp Z0 (LS [T_limnographref18_Disk.obj F0 b0 x0]) w w13 [boxR b0 62 [.slice A14_0 (y12.L).length c14_0, .int .i64 (y12.Capacity), .bool (y12.Down), .int .i64 (y12.Calls), .int .i64 (y12.Fail), .int .i64 (y12.Crash), .int .i64 (y12.Err)], ownR 66 A14_0 c14_0 T_limnographref18_File.rep y12.L] := hm14
      refine Rn.v rfl rfl rfl rfl (V.ldB Try.isAgg3 rfl (hm14.get 0 rfl) rfl) (Rn.v rfl rfl rfl rfl (V.geq rfl rfl) (Rn.regEnd ?_))
      have hm17 : Hp Z0 (LS [T_limnographref18_Disk.obj F0 b0 x0]) w w13 ([] ++ [boxR b0 62 [.slice A14_0 (y12.L).length c14_0, .int .i64 (y12.Capacity), .bool (y12.Down), .int .i64 (y12.Calls), .int .i64 (y12.Fail), .int .i64 (y12.Crash), .int .i64 (y12.Err)], ownR 66 A14_0 c14_0 T_limnographref18_File.rep y12.L]) := hm14.pick [0, 1] rfl (by decide)
      obtain ⟨F16, hm16⟩ := hm17.fold (T_limnographref18_Disk.sh b0 y12) ⟨A14_0, c14_0, rfl⟩
      replace hm16 : Hp Z0 (LS [T_limnographref18_Disk.obj F0 b0 x0]) w w13 [T_limnographref18_Disk.obj F16 b0 y12] := hm16
      obtain ⟨j2, hj2, hM⟩ := jnE hM
      refine Rn.joinG (r := r) (G := T_limnographref18_Disk × (Nat → Prop)) (fun g => [(0, .pointer (some ⟨b0, 0, none⟩)), (3, .bool (decide (x0.Crash = 0))), (4, .bool (decide (x0.Fail = 0)))]) (fun g w' => Hp Z0 (LS [T_limnographref18_Disk.obj F0 b0 x0]) w w' [T_limnographref18_Disk.obj (g.2) b0 (g.1)]) (fun g => j2 g.1) ?_ ?_
      · subst hj2
        clear hM
        rintro ⟨y18, F18⟩ w19 hm19 hM
        replace hm19 : Hp Z0 (LS [T_limnographref18_Disk.obj F0 b0 x0]) w w19 [T_limnographref18_Disk.obj F18 b0 y18] := hm19
        show Rn _ _ _ _ _ [(0, .pointer (some ⟨b0, 0, none⟩)), (3, .bool (decide (x0.Crash = 0))), (4, .bool (decide (x0.Fail = 0)))] _
        try dsimp only at hM
        refine Rn.seq (Rn.seq (Rn.reg (Rn.v rfl rfl rfl rfl (V.mv rfl) (Rn.regEnd ?_))))
        refine Rn.condD rfl (fun h20 => ?_) (fun h20 => ?_)
        · replace hM := iteT h20 hM
          refine Rn.seq (Rn.reg (Rn.v rfl rfl rfl rfl (V.mv rfl) (Rn.v rfl rfl rfl rfl (V.nil rfl) (Rn.v rfl rfl rfl rfl (V.fa Try.underlying62 rfl Try.sizeOf4 rfl rfl) ?_))))
          obtain ⟨_, ⟨A21_0, c21_0, rfl⟩, hm21⟩ := hm19.unf 0 rfl
          replace hm21 : Hp Z0 (LS [T_limnographref18_Disk.obj F0 b0 x0]) w w19 [boxR b0 62 [.slice A21_0 (y18.L).length c21_0, .int .i64 (y18.Capacity), .bool (y18.Down), .int .i64 (y18.Calls), .int .i64 (y18.Fail), .int .i64 (y18.Crash), .int .i64 (y18.Err)], ownR 66 A21_0 c21_0 T_limnographref18_File.rep y18.L] := hm21
          refine Rn.st rfl rfl Try.sizeOf4 rfl rfl rfl rfl (by first | exact ones rfl | (simp [Value.oneCell']; done)) (hm21.get 0 rfl) (by first | exact Nat.le_of_ble_eq_true rfl | (simp; done)) ?_
          intro w23 m23 x23
          have hm24 : Hp Z0 (LS [T_limnographref18_Disk.obj F0 b0 x0]) w w23 [boxR b0 62 [.slice A21_0 (y18.L).length c21_0, .int .i64 (y18.Capacity), .bool true, .int .i64 (y18.Calls), .int .i64 (y18.Fail), .int .i64 (y18.Crash), .int .i64 (y18.Err)], ownR 66 A21_0 c21_0 T_limnographref18_File.rep y18.L] := hm21.st 0 rfl x23 m23
          refine Rn.regEnd (Rn.seq (Rn.reg (Rn.v rfl rfl rfl rfl (V.as rfl) (Rn.regEnd ?_))))
          have hm26 : Hp Z0 (LS [T_limnographref18_Disk.obj F0 b0 x0]) w w23 ([] ++ [boxR b0 62 [.slice A21_0 (y18.L).length c21_0, .int .i64 (y18.Capacity), .bool true, .int .i64 (y18.Calls), .int .i64 (y18.Fail), .int .i64 (y18.Crash), .int .i64 (y18.Err)], ownR 66 A21_0 c21_0 T_limnographref18_File.rep y18.L]) := hm24.pick [0, 1] rfl (by decide)
          obtain ⟨F25, hm25⟩ := hm26.fold (T_limnographref18_Disk.sh b0 ({ L := y18.L, Capacity := y18.Capacity, Down := true, Calls := y18.Calls, Fail := y18.Fail, Crash := y18.Crash, Err := y18.Err } : T_limnographref18_Disk)) ⟨A21_0, c21_0, rfl⟩
          replace hm25 : Hp Z0 (LS [T_limnographref18_Disk.obj F0 b0 x0]) w w23 [T_limnographref18_Disk.obj F25 b0 ({ L := y18.L, Capacity := y18.Capacity, Down := true, Calls := y18.Calls, Fail := y18.Fail, Crash := y18.Crash, Err := y18.Err } : T_limnographref18_Disk)] := hm25
          refine Rn.retG1 Try.func53 rfl (rvT rfl) ?_
          obtain rfl := someE hM
          exact ⟨F25, rfl, hm25.pick [0] rfl (by decide)⟩
        · replace hM := iteF h20 hM
          refine Rn.skip (Rn.seq (Rn.seq (Rn.reg (Rn.v rfl rfl rfl rfl (V.mv rfl) (Rn.regEnd ?_)))))
          refine Rn.condD rfl (fun h27 => ?_) (fun h27 => ?_)
          · replace hM := iteT h27 hM
            refine Rn.seq (Rn.reg (Rn.v rfl rfl rfl rfl (V.mv rfl) (Rn.v rfl rfl rfl rfl (V.nil rfl) (Rn.v rfl rfl rfl rfl (V.fa Try.underlying62 rfl Try.sizeOf32 rfl rfl) ?_))))
            obtain ⟨_, ⟨A28_0, c28_0, rfl⟩, hm28⟩ := hm19.unf 0 rfl
            replace hm28 : Hp Z0 (LS [T_limnographref18_Disk.obj F0 b0 x0]) w w19 [boxR b0 62 [.slice A28_0 (y18.L).length c28_0, .int .i64 (y18.Capacity), .bool (y18.Down), .int .i64 (y18.Calls), .int .i64 (y18.Fail), .int .i64 (y18.Crash), .int .i64 (y18.Err)], ownR 66 A28_0 c28_0 T_limnographref18_File.rep y18.L] := hm28
            refine Rn.v rfl rfl rfl rfl (V.ldB Try.isAgg32 rfl (hm28.get 0 rfl) rfl) (Rn.v rfl rfl rfl rfl (V.as rfl) (Rn.regEnd ?_))
            have hm31 : Hp Z0 (LS [T_limnographref18_Disk.obj F0 b0 x0]) w w19 ([] ++ [boxR b0 62 [.slice A28_0 (y18.L).length c28_0, .int .i64 (y18.Capacity), .bool (y18.Down), .int .i64 (y18.Calls), .int .i64 (y18.Fail), .int .i64 (y18.Crash), .int .i64 (y18.Err)], ownR 66 A28_0 c28_0 T_limnographref18_File.rep y18.L]) := hm28.pick [0, 1] rfl (by decide)
            obtain ⟨F30, hm30⟩ := hm31.fold (T_limnographref18_Disk.sh b0 y18) ⟨A28_0, c28_0, rfl⟩
            replace hm30 : Hp Z0 (LS [T_limnographref18_Disk.obj F0 b0 x0]) w w19 [T_limnographref18_Disk.obj F30 b0 y18] := hm30
            refine Rn.retG1 Try.func53 rfl (rvT rfl) ?_
            obtain rfl := someE hM
            exact ⟨F30, rfl, hm30.pick [0] rfl (by decide)⟩
          · replace hM := iteF h27 hM
            refine Rn.skip (Rn.seq (Rn.reg (Rn.v rfl rfl rfl rfl (V.as rfl) (Rn.regEnd ?_))))
            refine Rn.retG1 Try.func53 rfl (rvT rfl) ?_
            obtain rfl := someE hM
            exact ⟨F18, rfl, hm19.pick [0] rfl (by decide)⟩
      intro hk2
      clear hj2
      refine Rn.condD rfl (fun h32 => ?_) (fun h32 => ?_)
      · replace hM := iteT h32 hM
        refine Rn.reg (Rn.v rfl rfl rfl rfl (V.mv rfl) (Rn.v rfl rfl rfl rfl (V.mv rfl) (Rn.v rfl rfl rfl rfl (V.nil rfl) (Rn.v rfl rfl rfl rfl (V.fa Try.underlying62 rfl Try.sizeOf3 rfl rfl) ?_))))
        obtain ⟨_, ⟨A33_0, c33_0, rfl⟩, hm33⟩ := hm16.unf 0 rfl
        replace hm33 : Hp Z0 (LS [T_limnographref18_Disk.obj F0 b0 x0]) w w13 [boxR b0 62 [.slice A33_0 (y12.L).length c33_0, .int .i64 (y12.Capacity), .bool (y12.Down), .int .i64 (y12.Calls), .int .i64 (y12.Fail), .int .i64 (y12.Crash), .int .i64 (y12.Err)], ownR 66 A33_0 c33_0 T_limnographref18_File.rep y12.L] := hm33
        refine Rn.v rfl rfl rfl rfl (V.ldB Try.isAgg3 rfl (hm33.get 0 rfl) rfl) (Rn.v rfl rfl rfl rfl (V.subW rfl rfl) (Rn.v rfl rfl rfl rfl (V.nil rfl) (Rn.v rfl rfl rfl rfl (V.fa Try.underlying62 rfl Try.sizeOf3 rfl rfl) (Rn.st rfl rfl Try.sizeOf3 rfl rfl rfl rfl (by first | exact ones rfl | (simp [Value.oneCell']; done)) (hm33.get 0 rfl) (by first | exact Nat.le_of_ble_eq_true rfl | (simp; done)) ?_))))
        intro w35 m35 x35
        have hm36 : Hp Z0 (LS [T_limnographref18_Disk.obj F0 b0 x0]) w w35 [boxR b0 62 [.slice A33_0 (y12.L).length c33_0, .int .i64 (y12.Capacity), .bool (y12.Down), .int .i64 (y12.Calls), .int .i64 (W64 (y12.Fail - 1)), .int .i64 (y12.Crash), .int .i64 (y12.Err)], ownR 66 A33_0 c33_0 T_limnographref18_File.rep y12.L] := hm33.st 0 rfl x35 m35
        refine Rn.regEnd ?_
        have hm38 : Hp Z0 (LS [T_limnographref18_Disk.obj F0 b0 x0]) w w35 ([] ++ [boxR b0 62 [.slice A33_0 (y12.L).length c33_0, .int .i64 (y12.Capacity), .bool (y12.Down), .int .i64 (y12.Calls), .int .i64 (W64 (y12.Fail - 1)), .int .i64 (y12.Crash), .int .i64 (y12.Err)], ownR 66 A33_0 c33_0 T_limnographref18_File.rep y12.L]) := hm36.pick [0, 1] rfl (by decide)
        obtain ⟨F37, hm37⟩ := hm38.fold (T_limnographref18_Disk.sh b0 ({ L := y12.L, Capacity := y12.Capacity, Down := y12.Down, Calls := y12.Calls, Fail := W64 (y12.Fail - 1), Crash := y12.Crash, Err := y12.Err } : T_limnographref18_Disk)) ⟨A33_0, c33_0, rfl⟩
        replace hm37 : Hp Z0 (LS [T_limnographref18_Disk.obj F0 b0 x0]) w w35 [T_limnographref18_Disk.obj F37 b0 ({ L := y12.L, Capacity := y12.Capacity, Down := y12.Down, Calls := y12.Calls, Fail := W64 (y12.Fail - 1), Crash := y12.Crash, Err := y12.Err } : T_limnographref18_Disk)] := hm37
        exact hk2 (({ L := y12.L, Capacity := y12.Capacity, Down := y12.Down, Calls := y12.Calls, Fail := W64 (y12.Fail - 1), Crash := y12.Crash, Err := y12.Err } : T_limnographref18_Disk), F37) _ _ (Sub.cons rfl (Sub.cons rfl (Sub.cons rfl (Sub.nil _)))) (hm37.pick [0] rfl (by decide)) hM
      · replace hM := iteF h32 hM
        refine Rn.skip ?_
        exact hk2 (y12, F16) _ _ (Sub.cons rfl (Sub.cons rfl (Sub.cons rfl (Sub.nil _)))) (hm16.pick [0] rfl (by decide)) hM
    intro hk1
    clear hj1
    refine Rn.condD rfl (fun h39 => ?_) (fun h39 => ?_)
    · replace hM := iteT h39 hM
      refine Rn.reg (Rn.v rfl rfl rfl rfl (V.mv rfl) (Rn.v rfl rfl rfl rfl (V.mv rfl) (Rn.v rfl rfl rfl rfl (V.nil rfl) (Rn.v rfl rfl rfl rfl (V.fa Try.underlying62 rfl Try.sizeOf3 rfl rfl) ?_))))
      obtain ⟨_, ⟨A40_0, c40_0, rfl⟩, hm40⟩ := hm10.unf 0 rfl
      replace hm40 : Hp Z0 (LS [T_limnographref18_Disk.obj F0 b0 x0]) w w9 [boxR b0 62 [.slice A40_0 (({ L := x0.L, Capacity := x0.Capacity, Down := x0.Down, Calls := W64 (x0.Calls + 1), Fail := x0.Fail, Crash := x0.Crash, Err := x0.Err } : T_limnographref18_Disk).L).length c40_0, .int .i64 (({ L := x0.L, Capacity := x0.Capacity, Down := x0.Down, Calls := W64 (x0.Calls + 1), Fail := x0.Fail, Crash := x0.Crash, Err := x0.Err } : T_limnographref18_Disk).Capacity), .bool (({ L := x0.L, Capacity := x0.Capacity, Down := x0.Down, Calls := W64 (x0.Calls + 1), Fail := x0.Fail, Crash := x0.Crash, Err := x0.Err } : T_limnographref18_Disk).Down), .int .i64 (({ L := x0.L, Capacity := x0.Capacity, Down := x0.Down, Calls := W64 (x0.Calls + 1), Fail := x0.Fail, Crash := x0.Crash, Err := x0.Err } : T_limnographref18_Disk).Calls), .int .i64 (({ L := x0.L, Capacity := x0.Capacity, Down := x0.Down, Calls := W64 (x0.Calls + 1), Fail := x0.Fail, Crash := x0.Crash, Err := x0.Err } : T_limnographref18_Disk).Fail), .int .i64 (({ L := x0.L, Capacity := x0.Capacity, Down := x0.Down, Calls := W64 (x0.Calls + 1), Fail := x0.Fail, Crash := x0.Crash, Err := x0.Err } : T_limnographref18_Disk).Crash), .int .i64 (({ L := x0.L, Capacity := x0.Capacity, Down := x0.Down, Calls := W64 (x0.Calls + 1), Fail := x0.Fail, Crash := x0.Crash, Err := x0.Err } : T_limnographref18_Disk).Err)], ownR 66 A40_0 c40_0 T_limnographref18_File.rep (({ L := x0.L, Capacity := x0.Capacity, Down := x0.Down, Calls := W64 (x0.Calls + 1), Fail := x0.Fail, Crash := x0.Crash, Err := x0.Err } : T_limnographref18_Disk).L)] := hm40
      refine Rn.v rfl rfl rfl rfl (V.ldB Try.isAgg3 rfl (hm40.get 0 rfl) rfl) (Rn.v rfl rfl rfl rfl (V.subW rfl rfl) (Rn.v rfl rfl rfl rfl (V.nil rfl) (Rn.v rfl rfl rfl rfl (V.fa Try.underlying62 rfl Try.sizeOf3 rfl rfl) (Rn.st rfl rfl Try.sizeOf3 rfl rfl rfl rfl (by first | exact ones rfl | (simp [Value.oneCell']; done)) (hm40.get 0 rfl) (by first | exact Nat.le_of_ble_eq_true rfl | (simp; done)) ?_))))
      intro w42 m42 x42
      have hm43 : Hp Z0 (LS [T_limnographref18_Disk.obj F0 b0 x0]) w w42 [boxR b0 62 [.slice A40_0 (({ L := x0.L, Capacity := x0.Capacity, Down := x0.Down, Calls := W64 (x0.Calls + 1), Fail := x0.Fail, Crash := x0.Crash, Err := x0.Err } : T_limnographref18_Disk).L).length c40_0, .int .i64 (({ L := x0.L, Capacity := x0.Capacity, Down := x0.Down, Calls := W64 (x0.Calls + 1), Fail := x0.Fail, Crash := x0.Crash, Err := x0.Err } : T_limnographref18_Disk).Capacity), .bool (({ L := x0.L, Capacity := x0.Capacity, Down := x0.Down, Calls := W64 (x0.Calls + 1), Fail := x0.Fail, Crash := x0.Crash, Err := x0.Err } : T_limnographref18_Disk).Down), .int .i64 (({ L := x0.L, Capacity := x0.Capacity, Down := x0.Down, Calls := W64 (x0.Calls + 1), Fail := x0.Fail, Crash := x0.Crash, Err := x0.Err } : T_limnographref18_Disk).Calls), .int .i64 (({ L := x0.L, Capacity := x0.Capacity, Down := x0.Down, Calls := W64 (x0.Calls + 1), Fail := x0.Fail, Crash := x0.Crash, Err := x0.Err } : T_limnographref18_Disk).Fail), .int .i64 (W64 ((({ L := x0.L, Capacity := x0.Capacity, Down := x0.Down, Calls := W64 (x0.Calls + 1), Fail := x0.Fail, Crash := x0.Crash, Err := x0.Err } : T_limnographref18_Disk).Crash) - 1)), .int .i64 (({ L := x0.L, Capacity := x0.Capacity, Down := x0.Down, Calls := W64 (x0.Calls + 1), Fail := x0.Fail, Crash := x0.Crash, Err := x0.Err } : T_limnographref18_Disk).Err)], ownR 66 A40_0 c40_0 T_limnographref18_File.rep (({ L := x0.L, Capacity := x0.Capacity, Down := x0.Down, Calls := W64 (x0.Calls + 1), Fail := x0.Fail, Crash := x0.Crash, Err := x0.Err } : T_limnographref18_Disk).L)] := hm40.st 0 rfl x42 m42
      refine Rn.regEnd ?_
      have hm45 : Hp Z0 (LS [T_limnographref18_Disk.obj F0 b0 x0]) w w42 ([] ++ [boxR b0 62 [.slice A40_0 (({ L := x0.L, Capacity := x0.Capacity, Down := x0.Down, Calls := W64 (x0.Calls + 1), Fail := x0.Fail, Crash := x0.Crash, Err := x0.Err } : T_limnographref18_Disk).L).length c40_0, .int .i64 (({ L := x0.L, Capacity := x0.Capacity, Down := x0.Down, Calls := W64 (x0.Calls + 1), Fail := x0.Fail, Crash := x0.Crash, Err := x0.Err } : T_limnographref18_Disk).Capacity), .bool (({ L := x0.L, Capacity := x0.Capacity, Down := x0.Down, Calls := W64 (x0.Calls + 1), Fail := x0.Fail, Crash := x0.Crash, Err := x0.Err } : T_limnographref18_Disk).Down), .int .i64 (({ L := x0.L, Capacity := x0.Capacity, Down := x0.Down, Calls := W64 (x0.Calls + 1), Fail := x0.Fail, Crash := x0.Crash, Err := x0.Err } : T_limnographref18_Disk).Calls), .int .i64 (({ L := x0.L, Capacity := x0.Capacity, Down := x0.Down, Calls := W64 (x0.Calls + 1), Fail := x0.Fail, Crash := x0.Crash, Err := x0.Err } : T_limnographref18_Disk).Fail), .int .i64 (W64 ((({ L := x0.L, Capacity := x0.Capacity, Down := x0.Down, Calls := W64 (x0.Calls + 1), Fail := x0.Fail, Crash := x0.Crash, Err := x0.Err } : T_limnographref18_Disk).Crash) - 1)), .int .i64 (({ L := x0.L, Capacity := x0.Capacity, Down := x0.Down, Calls := W64 (x0.Calls + 1), Fail := x0.Fail, Crash := x0.Crash, Err := x0.Err } : T_limnographref18_Disk).Err)], ownR 66 A40_0 c40_0 T_limnographref18_File.rep (({ L := x0.L, Capacity := x0.Capacity, Down := x0.Down, Calls := W64 (x0.Calls + 1), Fail := x0.Fail, Crash := x0.Crash, Err := x0.Err } : T_limnographref18_Disk).L)]) := hm43.pick [0, 1] rfl (by decide)
      obtain ⟨F44, hm44⟩ := hm45.fold (T_limnographref18_Disk.sh b0 ({ L := ({ L := x0.L, Capacity := x0.Capacity, Down := x0.Down, Calls := W64 (x0.Calls + 1), Fail := x0.Fail, Crash := x0.Crash, Err := x0.Err } : T_limnographref18_Disk).L, Capacity := ({ L := x0.L, Capacity := x0.Capacity, Down := x0.Down, Calls := W64 (x0.Calls + 1), Fail := x0.Fail, Crash := x0.Crash, Err := x0.Err } : T_limnographref18_Disk).Capacity, Down := ({ L := x0.L, Capacity := x0.Capacity, Down := x0.Down, Calls := W64 (x0.Calls + 1), Fail := x0.Fail, Crash := x0.Crash, Err := x0.Err } : T_limnographref18_Disk).Down, Calls := ({ L := x0.L, Capacity := x0.Capacity, Down := x0.Down, Calls := W64 (x0.Calls + 1), Fail := x0.Fail, Crash := x0.Crash, Err := x0.Err } : T_limnographref18_Disk).Calls, Fail := ({ L := x0.L, Capacity := x0.Capacity, Down := x0.Down, Calls := W64 (x0.Calls + 1), Fail := x0.Fail, Crash := x0.Crash, Err := x0.Err } : T_limnographref18_Disk).Fail, Crash := W64 ((({ L := x0.L, Capacity := x0.Capacity, Down := x0.Down, Calls := W64 (x0.Calls + 1), Fail := x0.Fail, Crash := x0.Crash, Err := x0.Err } : T_limnographref18_Disk).Crash) - 1), Err := ({ L := x0.L, Capacity := x0.Capacity, Down := x0.Down, Calls := W64 (x0.Calls + 1), Fail := x0.Fail, Crash := x0.Crash, Err := x0.Err } : T_limnographref18_Disk).Err } : T_limnographref18_Disk)) ⟨A40_0, c40_0, rfl⟩
      replace hm44 : Hp Z0 (LS [T_limnographref18_Disk.obj F0 b0 x0]) w w42 [T_limnographref18_Disk.obj F44 b0 ({ L := ({ L := x0.L, Capacity := x0.Capacity, Down := x0.Down, Calls := W64 (x0.Calls + 1), Fail := x0.Fail, Crash := x0.Crash, Err := x0.Err } : T_limnographref18_Disk).L, Capacity := ({ L := x0.L, Capacity := x0.Capacity, Down := x0.Down, Calls := W64 (x0.Calls + 1), Fail := x0.Fail, Crash := x0.Crash, Err := x0.Err } : T_limnographref18_Disk).Capacity, Down := ({ L := x0.L, Capacity := x0.Capacity, Down := x0.Down, Calls := W64 (x0.Calls + 1), Fail := x0.Fail, Crash := x0.Crash, Err := x0.Err } : T_limnographref18_Disk).Down, Calls := ({ L := x0.L, Capacity := x0.Capacity, Down := x0.Down, Calls := W64 (x0.Calls + 1), Fail := x0.Fail, Crash := x0.Crash, Err := x0.Err } : T_limnographref18_Disk).Calls, Fail := ({ L := x0.L, Capacity := x0.Capacity, Down := x0.Down, Calls := W64 (x0.Calls + 1), Fail := x0.Fail, Crash := x0.Crash, Err := x0.Err } : T_limnographref18_Disk).Fail, Crash := W64 ((({ L := x0.L, Capacity := x0.Capacity, Down := x0.Down, Calls := W64 (x0.Calls + 1), Fail := x0.Fail, Crash := x0.Crash, Err := x0.Err } : T_limnographref18_Disk).Crash) - 1), Err := ({ L := x0.L, Capacity := x0.Capacity, Down := x0.Down, Calls := W64 (x0.Calls + 1), Fail := x0.Fail, Crash := x0.Crash, Err := x0.Err } : T_limnographref18_Disk).Err } : T_limnographref18_Disk)] := hm44
      exact hk1 (({ L := ({ L := x0.L, Capacity := x0.Capacity, Down := x0.Down, Calls := W64 (x0.Calls + 1), Fail := x0.Fail, Crash := x0.Crash, Err := x0.Err } : T_limnographref18_Disk).L, Capacity := ({ L := x0.L, Capacity := x0.Capacity, Down := x0.Down, Calls := W64 (x0.Calls + 1), Fail := x0.Fail, Crash := x0.Crash, Err := x0.Err } : T_limnographref18_Disk).Capacity, Down := ({ L := x0.L, Capacity := x0.Capacity, Down := x0.Down, Calls := W64 (x0.Calls + 1), Fail := x0.Fail, Crash := x0.Crash, Err := x0.Err } : T_limnographref18_Disk).Down, Calls := ({ L := x0.L, Capacity := x0.Capacity, Down := x0.Down, Calls := W64 (x0.Calls + 1), Fail := x0.Fail, Crash := x0.Crash, Err := x0.Err } : T_limnographref18_Disk).Calls, Fail := ({ L := x0.L, Capacity := x0.Capacity, Down := x0.Down, Calls := W64 (x0.Calls + 1), Fail := x0.Fail, Crash := x0.Crash, Err := x0.Err } : T_limnographref18_Disk).Fail, Crash := W64 ((({ L := x0.L, Capacity := x0.Capacity, Down := x0.Down, Calls := W64 (x0.Calls + 1), Fail := x0.Fail, Crash := x0.Crash, Err := x0.Err } : T_limnographref18_Disk).Crash) - 1), Err := ({ L := x0.L, Capacity := x0.Capacity, Down := x0.Down, Calls := W64 (x0.Calls + 1), Fail := x0.Fail, Crash := x0.Crash, Err := x0.Err } : T_limnographref18_Disk).Err } : T_limnographref18_Disk), F44) _ _ (Sub.cons rfl (Sub.cons rfl (Sub.cons rfl (Sub.nil _)))) (hm44.pick [0] rfl (by decide)) hM
    · replace hM := iteF h39 hM
      refine Rn.skip ?_
      exact hk1 (({ L := x0.L, Capacity := x0.Capacity, Down := x0.Down, Calls := W64 (x0.Calls + 1), Fail := x0.Fail, Crash := x0.Crash, Err := x0.Err } : T_limnographref18_Disk), F10) _ _ (Sub.cons rfl (Sub.cons rfl (Sub.cons rfl (Sub.nil _)))) (hm10.pick [0] rfl (by decide)) hM

set_option maxRecDepth 20000 in
theorem m_limnographref18_Disk_Remove_sim {Z0 : Nat → Prop} (w : World) (F0 : Nat → Prop) (b0 : Nat) (x0 : T_limnographref18_Disk) (x1 : (List UInt8)) {r : (Int × T_limnographref18_Disk)} (hL : Lent Z0 w [T_limnographref18_Disk.obj F0 b0 x0]) (hM : m_limnographref18_Disk_Remove x0 x1 = some r) :
    Calls Try.prog 40 #[.pointer (some ⟨b0, 0, none⟩), Str (x1)] w fun x w' => ∃ F_p0, x = .returned (.int .i64 (r.1)) ∧ Hp Z0 (LS [T_limnographref18_Disk.obj F0 b0 x0]) w w' [T_limnographref18_Disk.obj F_p0 b0 r.2] := by
  have hm0 := hL.start
  refine Rn.enter Try.func40 rfl rfl (Nat.le_of_ble_eq_true rfl) ?_
  refine Rn.seq (Rn.reg (Rn.v rfl rfl rfl rfl (V.as rfl) (Rn.regEnd (Rn.seq (Rn.seq (Rn.reg (Rn.v rfl rfl rfl rfl (V.mv rfl) ?_)))))))
  obtain ⟨p2, e2, hM⟩ := bindE hM
  have hm3 : Hp Z0 (LS [T_limnographref18_Disk.obj F0 b0 x0]) w w ([] ++ [T_limnographref18_Disk.obj F0 b0 x0]) := hm0.pick [0] rfl (by decide)
  refine Rn.cl ck53 rfl rfl rfl rfl (m_limnographref18_Disk_begin_sim (Z0 := _) _ F0 b0 x0 hm3.lend e2) ?_
  rintro _ w2 ⟨F2_p0, rfl, hq2⟩
  refine ⟨_, rfl, ?_⟩
  have hm5 : Hp Z0 (LS [T_limnographref18_Disk.obj F0 b0 x0]) w w2 [T_limnographref18_Disk.obj F2_p0 b0 p2.2] := hm3.callAZ hq2
  refine Rn.v rfl rfl rfl rfl (V.as rfl) (Rn.regEnd (Rn.seq (Rn.reg (Rn.v rfl rfl rfl rfl (V.mv rfl) (Rn.v rfl rfl rfl rfl (V.neq rfl rfl) (Rn.regEnd ?_))))))
  refine Rn.condD rfl (fun h6 => ?_) (fun h6 => ?_)
  · replace hM := iteT h6 hM
    refine Rn.seq (Rn.reg (Rn.v rfl rfl rfl rfl (V.mv rfl) (Rn.v rfl rfl rfl rfl (V.as rfl) (Rn.regEnd ?_))))
    refine Rn.retG1 Try.func40 rfl (rvT rfl) ?_
    obtain rfl := someE hM
    exact ⟨F2_p0, rfl, hm5.pick [0] rfl (by decide)⟩
  · replace hM := iteF h6 hM
    refine Rn.skip (Rn.seq (Rn.seq (Rn.reg (Rn.v rfl rfl rfl rfl (V.mv rfl) (Rn.v rfl rfl rfl rfl (V.mv rfl) ?_)))))
    obtain ⟨p7, e7, hM⟩ := bindE hM
    refine Rn.cl ck19 rfl rfl rfl rfl (m_limnographref18_Disk_Find_sim (Z0 := All) _ F2_p0 b0 p2.2 x1 (fz_all (hm5.get 0 rfl)) e7) ?_
    rintro _ w7 ⟨rfl, hq7⟩
    refine ⟨_, rfl, ?_⟩
    have hm8 := hm5.call0 hq7
    refine Rn.v rfl rfl rfl rfl (V.lss rfl rfl) (Rn.regEnd ?_)
    refine Rn.condD rfl (fun h9 => ?_) (fun h9 => ?_)
    · replace hM := iteT h9 hM
      refine Rn.seq (Rn.reg (Rn.v rfl rfl rfl rfl (V.as rfl) (Rn.regEnd ?_)))
      refine Rn.retG1 Try.func40 rfl (rvT rfl) ?_
      obtain rfl := someE hM
      exact ⟨F2_p0, rfl, hm8.pick [0] rfl (by decide)⟩
    · replace hM := iteF h9 hM
      refine Rn.skip (Rn.seq (Rn.reg (Rn.v rfl rfl rfl rfl (V.mv rfl) (Rn.v rfl rfl rfl rfl (V.mv rfl) (Rn.v rfl rfl rfl rfl (V.mv rfl) ?_)))))
      obtain ⟨p10, e10, hM⟩ := bindE hM
      have hm11 : Hp Z0 (LS [T_limnographref18_Disk.obj F0 b0 x0]) w w7 ([] ++ [T_limnographref18_Disk.obj F2_p0 b0 p2.2]) := hm8.pick [0] rfl (by decide)
      refine Rn.cl ck32 rfl rfl rfl rfl (m_limnographref18_Disk_without_sim (Z0 := _) _ F2_p0 b0 p2.2 x1 hm11.lend e10) ?_
      rintro _ w10 ⟨A10_0_0, c10_0_0, F10_p0, rfl, hq10⟩
      refine ⟨_, rfl, ?_⟩
      have hm14 : Hp Z0 (LS [T_limnographref18_Disk.obj F0 b0 x0]) w w10 [ownR 66 A10_0_0 c10_0_0 T_limnographref18_File.rep p10, T_limnographref18_Disk.obj F10_p0 b0 p2.2] := hm11.callAZ hq10
      refine Rn.v rfl rfl rfl rfl (V.nil rfl) (Rn.v rfl rfl rfl rfl (V.fa Try.underlying62 rfl Try.sizeOf60 rfl rfl) ?_)
      obtain ⟨_, ⟨A15_0, c15_0, rfl⟩, hm15⟩ := hm14.unf 1 rfl
      replace hm15 : Hp Z0 (LS [T_limnographref18_Disk.obj F0 b0 x0]) w w10 [ownR 66 A10_0_0 c10_0_0 T_limnographref18_File.rep p10, boxR b0 62 [.slice A15_0 (p2.2.L).length c15_0, .int .i64 (p2.2.Capacity), .bool (p2.2.Down), .int .i64 (p2.2.Calls), .int .i64 (p2.2.Fail), .int .i64 (p2.2.Crash), .int .i64 (p2.2.Err)], ownR 66 A15_0 c15_0 T_limnographref18_File.rep p2.2.L] := hm15
      refine Rn.st rfl rfl Try.sizeOf60 rfl rfl rfl rfl (by first | exact ones rfl | (simp [Value.oneCell']; done)) (hm15.get 1 rfl) (by first | exact Nat.le_of_ble_eq_true rfl | (simp; done)) ?_
      intro w17 m17 x17
      have hm18 : Hp Z0 (LS [T_limnographref18_Disk.obj F0 b0 x0]) w w17 [ownR 66 A10_0_0 c10_0_0 T_limnographref18_File.rep p10, boxR b0 62 [.slice A10_0_0 (p10).length c10_0_0, .int .i64 (p2.2.Capacity), .bool (p2.2.Down), .int .i64 (p2.2.Calls), .int .i64 (p2.2.Fail), .int .i64 (p2.2.Crash), .int .i64 (p2.2.Err)], ownR 66 A15_0 c15_0 T_limnographref18_File.rep p2.2.L] := hm15.st 1 rfl x17 m17
      refine Rn.regEnd (Rn.seq (Rn.reg (Rn.v rfl rfl rfl rfl (V.as rfl) (Rn.regEnd ?_))))
      have hm20 : Hp Z0 (LS [T_limnographref18_Disk.obj F0 b0 x0]) w w17 ([ownR 66 A15_0 c15_0 T_limnographref18_File.rep p2.2.L] ++ [boxR b0 62 [.slice A10_0_0 (p10).length c10_0_0, .int .i64 (p2.2.Capacity), .bool (p2.2.Down), .int .i64 (p2.2.Calls), .int .i64 (p2.2.Fail), .int .i64 (p2.2.Crash), .int .i64 (p2.2.Err)], ownR 66 A10_0_0 c10_0_0 T_limnographref18_File.rep p10]) := hm18.pick [2, 1, 0] rfl (by decide)
      obtain ⟨F19, hm19⟩ := hm20.fold (T_limnographref18_Disk.sh b0 ({ L := p10, Capacity := p2.2.Capacity, Down := p2.2.Down, Calls := p2.2.Calls, Fail := p2.2.Fail, Crash := p2.2.Crash, Err := p2.2.Err } : T_limnographref18_Disk)) ⟨A10_0_0, c10_0_0, rfl⟩
      replace hm19 : Hp Z0 (LS [T_limnographref18_Disk.obj F0 b0 x0]) w w17 [ownR 66 A15_0 c15_0 T_limnographref18_File.rep p2.2.L, T_limnographref18_Disk.obj F19 b0 ({ L := p10, Capacity := p2.2.Capacity, Down := p2.2.Down, Calls := p2.2.Calls, Fail := p2.2.Fail, Crash := p2.2.Crash, Err := p2.2.Err } : T_limnographref18_Disk)] := hm19
      refine Rn.retG1 Try.func40 rfl (rvT rfl) ?_
      obtain rfl := someE hM
      exact ⟨F19, rfl, hm19.pick [1] rfl (by decide)⟩

set_option maxRecDepth 20000 in
theorem m_limnographref04_four_sim {Z0 : Nat → Prop} (w : World) (x0 : Int) {r : (List UInt8)}  (hM : m_limnographref04_four x0 = some r) :
    Calls Try.prog 60 #[.int .i64 (x0)] w fun x w' => x = .returned (Str (r)) ∧ Hp Z0 No w w' [] := by
  have hm0 := Hp.nil Z0 No w
  have hc0 := Calm.nil
  refine Rn.enter Try.func60 rfl rfl (Nat.le_of_ble_eq_true rfl) ?_
  refine Rn.seq (Rn.reg (Rn.v rfl rfl rfl rfl (V.as rfl) (Rn.regEnd (Rn.seq (Rn.reg (Rn.v rfl rfl rfl rfl (V.mv rfl) ?_))))))
  obtain ⟨z1, e1, hM⟩ := bindE hM
  refine Rn.v rfl rfl rfl rfl (V.remZ rfl rfl e1) (Rn.v rfl rfl rfl rfl (V.cv8 Try.underlying3 Try.underlying5 rfl) (Rn.v rfl rfl rfl rfl (V.mv rfl) ?_))
  obtain ⟨z2, e2, hM⟩ := bindE hM
  refine Rn.v rfl rfl rfl rfl (V.quoZ rfl rfl e2) ?_
  obtain ⟨z3, e3, hM⟩ := bindE hM
  refine Rn.v rfl rfl rfl rfl (V.remZ rfl rfl e3) (Rn.v rfl rfl rfl rfl (V.cv8 Try.underlying3 Try.underlying5 rfl) (Rn.v rfl rfl rfl rfl (V.mv rfl) ?_))
  obtain ⟨z4, e4, hM⟩ := bindE hM
  refine Rn.v rfl rfl rfl rfl (V.quoZ rfl rfl e4) ?_
  obtain ⟨z5, e5, hM⟩ := bindE hM
  refine Rn.v rfl rfl rfl rfl (V.remZ rfl rfl e5) (Rn.v rfl rfl rfl rfl (V.cv8 Try.underlying3 Try.underlying5 rfl) (Rn.v rfl rfl rfl rfl (V.mv rfl) ?_))
  obtain ⟨z6, e6, hM⟩ := bindE hM
  refine Rn.v rfl rfl rfl rfl (V.quoZ rfl rfl e6) (Rn.v rfl rfl rfl rfl (V.cv8 Try.underlying3 Try.underlying5 rfl) (Rn.bslS rfl rfl rfl Try.underlying22 el5 rfl rfl rfl rfl (by first | exact szs rfl | (simp [Value.cells]; done)) (by decide) ?_))
  intro b7 w7 hb7 m7 e7
  have hm8 := hm0.addLit (rep := byteR) (xs := ([toU8 z1, toU8 z3, toU8 z5, toU8 z6] : List UInt8)) (vss := [[.int .u8 (((toU8 z1).toNat : Nat) : Int)], [.int .u8 (((toU8 z3).toNat : Nat) : Int)], [.int .u8 (((toU8 z5).toNat : Nat) : Int)], [.int .u8 (((toU8 z6).toNat : Nat) : Int)]]) hb7 e7 m7 rfl rfl rfl ((rels_cons (fun _ _ => ⟨rfl, trivial⟩) (rels_cons (fun _ _ => ⟨rfl, trivial⟩) (rels_cons (fun _ _ => ⟨rfl, trivial⟩) (rels_cons (fun _ _ => ⟨rfl, trivial⟩) rels0)))))
  refine Rn.v rfl rfl rfl rfl (V.b2s Try.underlying22 Try.underlying9 Try.underlying5 rfl rfl (Own.sl (hm8.get 0 rfl))) (Rn.v rfl rfl rfl rfl (V.as rfl) (Rn.regEnd ?_))
  refine Rn.retG1 Try.func60 rfl (rvT rfl) ?_
  obtain rfl := someE hM
  exact ⟨rfl, hm8.pick [] rfl (by decide)⟩

set_option maxRecDepth 20000 in
theorem m_limnographref03_Step_sim {Z0 : Nat → Prop} (w : World) (x0 : UInt32) {r : UInt32}  (hM : m_limnographref03_Step x0 = some r) :
    Calls Try.prog 64 #[.int .u32 (((x0).toNat : Nat) : Int)] w fun x w' => x = .returned (.int .u32 (((r).toNat : Nat) : Int)) ∧ Hp Z0 No w w' [] := by
  have hm0 := Hp.nil Z0 No w
  have hc0 := Calm.nil
  refine Rn.enter Try.func64 rfl rfl (Nat.le_of_ble_eq_true rfl) ?_
  refine Rn.seq (Rn.reg (Rn.v rfl rfl rfl rfl (V.as rfl) (Rn.regEnd (Rn.seq (Rn.reg (Rn.v rfl rfl rfl rfl (V.mv rfl) ?_))))))
  obtain ⟨z1, e1, hM⟩ := bindE hM
  refine Rn.v rfl rfl rfl rfl (V.rem32 rfl rfl e1) (Rn.v rfl rfl rfl rfl (V.as rfl) (Rn.regEnd (Rn.seq (Rn.reg (Rn.v rfl rfl rfl rfl (V.mv rfl) ?_)))))
  obtain ⟨z2, e2, hM⟩ := bindE hM
  refine Rn.v rfl rfl rfl rfl (V.quo32 rfl rfl e2) (Rn.v rfl rfl rfl rfl (V.as rfl) (Rn.regEnd (Rn.seq (Rn.seq (Rn.reg (Rn.v rfl rfl rfl rfl (V.mv rfl) (Rn.v rfl rfl rfl rfl (V.eql rfl rfl) (Rn.regEnd ?_))))))))
  obtain ⟨j1, hj1, hM⟩ := jnE hM
  refine Rn.joinG (r := r) (G := UInt32) (fun g => [(0, .int .u32 (((g).toNat : Nat) : Int))]) (fun g w' => Hp Z0 No w w' []) (fun g => j1 g) ?_ ?_
  · subst hj1
    clear hM
    rintro y3 w4 hm4 hM
    replace hm4 : Hp Z0 No w w4 [] := hm4
    show Rn _ _ _ _ _ [(0, .int .u32 (((y3).toNat : Nat) : Int))] _
    try dsimp only at hM
    refine Rn.seq (Rn.reg (Rn.v rfl rfl rfl rfl (V.mv rfl) (Rn.v rfl rfl rfl rfl (V.as rfl) (Rn.regEnd ?_))))
    refine Rn.retG1 Try.func64 rfl (rvT rfl) ?_
    obtain rfl := someE hM
    exact ⟨rfl, hm4.pick [] rfl (by decide)⟩
  intro hk1
  clear hj1
  refine Rn.condD rfl (fun h5 => ?_) (fun h5 => ?_)
  · replace hM := iteT h5 hM
    refine Rn.reg (Rn.v rfl rfl rfl rfl (V.mv rfl) (Rn.v rfl rfl rfl rfl (V.o32 rfl rfl z2 (2197175160 : UInt32) rfl rfl (b32_xor _ _ _)) (Rn.v rfl rfl rfl rfl (V.as rfl) (Rn.regEnd ?_))))
    exact hk1 (z2 ^^^ (2197175160 : UInt32)) _ _ (Sub.cons rfl (Sub.nil _)) (hm0.pick [] rfl (by decide)) hM
  · replace hM := iteF h5 hM
    refine Rn.skip ?_
    exact hk1 z2 _ _ (Sub.cons rfl (Sub.nil _)) (hm0.pick [] rfl (by decide)) hM

set_option maxRecDepth 20000 in
theorem m_limnographref03_More_sim {Z0 : Nat → Prop} (w : World) (x0 : UInt32) (A1 : Option Addr) (c1 : Nat) (x1 : (List UInt8)) {r : UInt32} (f0 : (slR A1 c1 byteR x1).H Z0 w) (hM : m_limnographref03_More x0 x1 = some r) :
    Calls Try.prog 63 #[.int .u32 (((x0).toNat : Nat) : Int), .slice A1 (x1).length c1] w fun x w' => x = .returned (.int .u32 (((r).toNat : Nat) : Int)) ∧ Hp Z0 No w w' [] := by
  have hm0 := Hp.nil Z0 No w
  have hc0 := Calm.nil
  have hm2 := hm0.know (slR A1 c1 byteR x1) (fun _ h => h) (hm0.in0 hc0 f0)
  replace hc0 := hc0.snoc (r := slR A1 c1 byteR x1) (fun _ h => h)
  refine Rn.enter Try.func63 rfl rfl (Nat.le_of_ble_eq_true rfl) ?_
  refine Rn.seq (Rn.reg (Rn.v rfl rfl rfl rfl (V.as rfl) (Rn.regEnd (Rn.seq (Rn.seq (Rn.reg (Rn.v rfl rfl rfl rfl (V.as rfl) (Rn.regEnd ?_))))))))
  obtain ⟨j1, hj1, hM⟩ := jnE hM
  refine Rn.joinG (r := r) (G := UInt32) (fun g => [(0, .int .u32 (((g).toNat : Nat) : Int))]) (fun g w' => Hp Z0 No w w' [slR A1 c1 byteR x1]) (fun g => j1 g) ?_ ?_
  · subst hj1
    clear hM
    rintro y3 w4 hm4 hM
    replace hm4 : Hp Z0 No w w4 [slR A1 c1 byteR x1] := hm4
    show Rn _ _ _ _ _ [(0, .int .u32 (((y3).toNat : Nat) : Int))] _
    try dsimp only at hM
    refine Rn.seq (Rn.reg (Rn.v rfl rfl rfl rfl (V.mv rfl) (Rn.v rfl rfl rfl rfl (V.as rfl) (Rn.regEnd ?_))))
    refine Rn.retG1 Try.func63 rfl (rvT rfl) ?_
    obtain rfl := someE hM
    exact ⟨rfl, hm4.pick [] rfl (by decide)⟩
  intro hk1
  clear hj1
  refine Rn.block ?_
  refine Rn.loopF (G := UInt32 × Int) (fun g => [(0, .int .u32 ((((g.1)).toNat : Nat) : Int)), (1, .slice A1 (x1).length c1), (5, .int .i64 ((g.2)))]) (fun g w' => Hp Z0 No w w' [slR A1 c1 byteR x1]) (fun n g => m_limnographref03_More_L1 x1 j1 n g.1 g.2) fuel (x0, 0) (Sub.cons rfl (Sub.cons rfl (Sub.cons rfl (Sub.nil _)))) (hm2.pick [0] rfl (by decide)) hM (fun _ => rfl) ?_
  clear hM
  rintro m7 ⟨y5, y6⟩ w7 hm7 hM hn7
  replace hm7 : Hp Z0 No w w7 [slR A1 c1 byteR x1] := hm7
  show Rn _ _ _ _ _ [(0, .int .u32 (((y5).toNat : Nat) : Int)), (1, .slice A1 (x1).length c1), (5, .int .i64 (y6))] _
  replace hM : m_limnographref03_More_L1 x1 j1 (m7 + 1) y5 y6 = some r := hM
  rw [m_limnographref03_More_L1] at hM
  refine Rn.seq (Rn.seq (Rn.reg (Rn.v rfl rfl rfl rfl (V.mv rfl) (Rn.v rfl rfl rfl rfl (V.mv rfl) (Rn.v rfl rfl rfl rfl (V.lenV Try.underlying22 rfl) (Rn.v rfl rfl rfl rfl (V.lss rfl rfl) (Rn.regEnd ?_)))))))
  refine Rn.condD rfl (fun h8 => ?_) (fun h8 => ?_)
  · replace hM := iteT h8 hM
    refine Rn.skip (Rn.seq (Rn.block (Rn.seq (Rn.reg (Rn.v rfl rfl rfl rfl (V.mv rfl) (Rn.v rfl rfl rfl rfl (V.mv rfl) (Rn.v rfl rfl rfl rfl (V.mv rfl) ?_)))))))
    obtain ⟨z9, e9, hM⟩ := bindE hM
    refine Rn.ixH hm7 0 rfl e9 rfl rfl rfl Try.underlying22 Try.sizeOf5 rfl rfl rfl rfl ?_
    rintro b9 o9 vs9 ⟨rfl, _⟩ hm9
    refine Rn.v rfl rfl rfl rfl (V.ldR0 Try.isAgg5 rfl (hm9.get 1 rfl).2 rfl) (Rn.v rfl rfl rfl rfl (V.cv32 Try.underlying5 Try.underlying110 rfl) (Rn.v rfl rfl rfl rfl (V.o32 rfl rfl y5 (toU32 ((z9).toNat : Int)) rfl rfl (b32_xor _ _ _)) (Rn.v rfl rfl rfl rfl (V.as rfl) (Rn.regEnd (Rn.seq (Rn.reg (Rn.v rfl rfl rfl rfl (V.as rfl) (Rn.regEnd ?_))))))))
    obtain ⟨j2, hj2, hM⟩ := jnE hM
    refine Rn.joinG (r := r) (G := UInt32) (fun g => [(0, .int .u32 (((g).toNat : Nat) : Int)), (1, .slice A1 (x1).length c1), (5, .int .i64 (y6))]) (fun g w' => Hp Z0 No w w' [slR A1 c1 byteR x1, rdR b9 o9 [.int .u8 (((z9).toNat : Nat) : Int)]]) (fun g => j2 g) ?_ ?_
    · subst hj2
      clear hM
      rintro y11 w12 hm12 hM
      replace hm12 : Hp Z0 No w w12 [slR A1 c1 byteR x1, rdR b9 o9 [.int .u8 (((z9).toNat : Nat) : Int)]] := hm12
      show Rn _ _ _ _ _ [(0, .int .u32 (((y11).toNat : Nat) : Int)), (1, .slice A1 (x1).length c1), (5, .int .i64 (y6))] _
      try dsimp only at hM
      refine Rn.inBlock (Rn.reg (Rn.v rfl rfl rfl rfl (V.mv rfl) (Rn.v rfl rfl rfl rfl (V.addW rfl rfl) (Rn.v rfl rfl rfl rfl (V.as rfl) (Rn.regEnd ?_)))))
      exact hn7 (y11, (W64 (y6 + 1))) _ _ (Sub.cons rfl (Sub.cons rfl (Sub.cons rfl (Sub.nil _)))) (hm12.pick [0] rfl (by decide)) hM
    intro hk2
    clear hj2
    refine Rn.block ?_
    refine Rn.loopF (G := UInt32 × Int) (fun g => [(0, .int .u32 ((((g.1)).toNat : Nat) : Int)), (1, .slice A1 (x1).length c1), (5, .int .i64 (y6)), (6, .int .i64 ((g.2)))]) (fun g w' => Hp Z0 No w w' [slR A1 c1 byteR x1, rdR b9 o9 [.int .u8 (((z9).toNat : Nat) : Int)]]) (fun n g => m_limnographref03_More_L2 j2 n g.1 g.2) fuel ((y5 ^^^ (toU32 ((z9).toNat : Int))), 0) (Sub.cons rfl (Sub.cons rfl (Sub.cons rfl (Sub.cons rfl (Sub.nil _))))) (hm9.pick [0, 1] rfl (by decide)) hM (fun _ => rfl) ?_
    clear hM
    rintro m15 ⟨y13, y14⟩ w15 hm15 hM hn15
    replace hm15 : Hp Z0 No w w15 [slR A1 c1 byteR x1, rdR b9 o9 [.int .u8 (((z9).toNat : Nat) : Int)]] := hm15
    show Rn _ _ _ _ _ [(0, .int .u32 (((y13).toNat : Nat) : Int)), (1, .slice A1 (x1).length c1), (5, .int .i64 (y6)), (6, .int .i64 (y14))] _
    replace hM : m_limnographref03_More_L2 j2 (m15 + 1) y13 y14 = some r := hM
    rw [m_limnographref03_More_L2] at hM
    refine Rn.seq (Rn.seq (Rn.reg (Rn.v rfl rfl rfl rfl (V.mv rfl) (Rn.v rfl rfl rfl rfl (V.lss rfl rfl) (Rn.regEnd ?_)))))
    refine Rn.condD rfl (fun h16 => ?_) (fun h16 => ?_)
    · replace hM := iteT h16 hM
      refine Rn.skip (Rn.seq (Rn.block (Rn.reg (Rn.v rfl rfl rfl rfl (V.mv rfl) ?_))))
      obtain ⟨p17, e17, hM⟩ := bindE hM
      refine Rn.cl ck64 rfl rfl rfl rfl (m_limnographref03_Step_sim (Z0 := All) _ y13  e17) ?_
      rintro _ w17 ⟨rfl, hq17⟩
      refine ⟨_, rfl, ?_⟩
      have hm18 := hm15.call0 hq17
      refine Rn.v rfl rfl rfl rfl (V.as rfl) (Rn.regEnd (Rn.inBlock (Rn.reg (Rn.v rfl rfl rfl rfl (V.mv rfl) (Rn.v rfl rfl rfl rfl (V.addW rfl rfl) (Rn.v rfl rfl rfl rfl (V.as rfl) (Rn.regEnd ?_)))))))
      exact hn15 (p17, (W64 (y14 + 1))) _ _ (Sub.cons rfl (Sub.cons rfl (Sub.cons rfl (Sub.cons rfl (Sub.nil _))))) (hm18.pick [0, 1] rfl (by decide)) hM
    · replace hM := iteF h16 hM
      refine Rn.exit rfl ?_
      exact hk2 y13 _ _ (Sub.cons rfl (Sub.cons rfl (Sub.cons rfl (Sub.nil _)))) (hm15.pick [0, 1] rfl (by decide)) hM
  · replace hM := iteF h8 hM
    refine Rn.exit rfl ?_
    exact hk1 y5 _ _ (Sub.cons rfl (Sub.nil _)) (hm7.pick [0] rfl (by decide)) hM

set_option maxRecDepth 20000 in
theorem m_limnographref03_Of_sim {Z0 : Nat → Prop} (w : World) (A0 : Option Addr) (c0 : Nat) (x0 : (List UInt8)) {r : UInt32} (f0 : (slR A0 c0 byteR x0).H Z0 w) (hM : m_limnographref03_Of x0 = some r) :
    Calls Try.prog 61 #[.slice A0 (x0).length c0] w fun x w' => x = .returned (.int .u32 (((r).toNat : Nat) : Int)) ∧ Hp Z0 No w w' [] := by
  have hm0 := Hp.nil Z0 No w
  have hc0 := Calm.nil
  have hm2 := hm0.know (slR A0 c0 byteR x0) (fun _ h => h) (hm0.in0 hc0 f0)
  replace hc0 := hc0.snoc (r := slR A0 c0 byteR x0) (fun _ h => h)
  refine Rn.enter Try.func61 rfl rfl (Nat.le_of_ble_eq_true rfl) ?_
  refine Rn.seq (Rn.reg (Rn.v rfl rfl rfl rfl (V.as rfl) (Rn.regEnd (Rn.seq (Rn.reg (Rn.v rfl rfl rfl rfl (V.mv rfl) ?_))))))
  obtain ⟨p3, e3, hM⟩ := bindE hM
  refine Rn.cl ck63 rfl rfl rfl rfl (m_limnographref03_More_sim (Z0 := All) _ (4294967295 : UInt32) A0 c0 x0 (slR_all (hm2.get 0 rfl)) e3) ?_
  rintro _ w3 ⟨rfl, hq3⟩
  refine ⟨_, rfl, ?_⟩
  have hm4 := hm2.call0 hq3
  refine Rn.v rfl rfl rfl rfl (V.ari32 (a := (4294967295 : UInt32)) (b := p3) rfl rfl _ rfl (toU32_sub _ _)) (Rn.v rfl rfl rfl rfl (V.as rfl) (Rn.regEnd ?_))
  refine Rn.retG1 Try.func61 rfl (rvT rfl) ?_
  obtain rfl := someE hM
  exact ⟨rfl, hm4.pick [] rfl (by decide)⟩

set_option maxRecDepth 20000 in
theorem m_limnographref04_Wrap_sim {Z0 : Nat → Prop} (w : World) (A0 : Option Addr) (c0 : Nat) (x0 : (List UInt8)) {r : ((List UInt8) × Int)} (f0 : (slR A0 c0 byteR x0).H Z0 w) (hM : m_limnographref04_Wrap x0 = some r) :
    Calls Try.prog 54 #[.slice A0 (x0).length c0] w fun x w' => ∃ A_0_0 c_0_0, x = .returned (.tuple #[.slice A_0_0 (r.1).length c_0_0, .int .i64 (r.2)]) ∧ Hp Z0 No w w' [slR A_0_0 c_0_0 byteR r.1] := by
  have hm0 := Hp.nil Z0 No w
  have hc0 := Calm.nil
  have hm2 := hm0.know (slR A0 c0 byteR x0) (fun _ h => h) (hm0.in0 hc0 f0)
  replace hc0 := hc0.snoc (r := slR A0 c0 byteR x0) (fun _ h => h)
  refine Rn.enter Try.func54 rfl rfl (Nat.le_of_ble_eq_true rfl) ?_
  refine Rn.seq (Rn.reg (Rn.v rfl rfl rfl rfl (V.as rfl) (Rn.v rfl rfl rfl rfl (V.as rfl) (Rn.regEnd (Rn.seq (Rn.seq (Rn.reg (Rn.v rfl rfl rfl rfl (V.mv rfl) (Rn.v rfl rfl rfl rfl (V.lenV Try.underlying22 rfl) (Rn.v rfl rfl rfl rfl (V.gtr rfl rfl) (Rn.regEnd ?_)))))))))))
  refine Rn.condD rfl (fun h3 => ?_) (fun h3 => ?_)
  · replace hM := iteT h3 hM
    refine Rn.seq (Rn.reg (Rn.v rfl rfl rfl rfl (V.as rfl) (Rn.v rfl rfl rfl rfl (V.as rfl) (Rn.regEnd ?_))))
    have hm4 := hm2.addNil 5 byteR
    have hm7 := hm4.freeze 1 rfl
    refine Rn.retG2 Try.func54 rfl (rvT rfl) (rvT rfl) ?_
    obtain rfl := someE hM
    exact ⟨none, 0, rfl, hm7.pick [1] rfl (by decide)⟩
  · replace hM := iteF h3 hM
    refine Rn.skip (Rn.seq (Rn.reg (Rn.v rfl rfl rfl rfl (V.mv rfl) (Rn.v rfl rfl rfl rfl (V.lenV Try.underlying22 rfl) ?_))))
    obtain ⟨p8, e8, hM⟩ := bindE hM
    refine Rn.cl ck60 rfl rfl rfl rfl (m_limnographref04_four_sim (Z0 := All) _ (x0.length : Int)  e8) ?_
    rintro _ w8 ⟨rfl, hq8⟩
    refine ⟨_, rfl, ?_⟩
    have hm9 := hm2.call0 hq8
    obtain ⟨z10, e10, hM⟩ := bindE hM
    refine Rn.v rfl rfl rfl rfl (V.catZ rfl rfl e10) (Rn.v rfl rfl rfl rfl (V.as rfl) (Rn.regEnd (Rn.seq ?_)))
    refine Rn.drawH rfl hm9 ?_
    intro w11 hm11
    refine RH.take 0 (by kernel_rfl) rfl rfl rfl rfl (fun w' hDr => V.mv rfl) ?_
    refine RH.take 1 (by kernel_rfl) rfl rfl rfl rfl (fun w' hDr => V.mv rfl) ?_
    refine RH.take 2 (by kernel_rfl) rfl rfl rfl rfl (fun w' hDr => V.mv rfl) ?_
    refine RH.take 3 (by kernel_rfl) rfl rfl rfl rfl (fun w' hDr => V.b2s Try.underlying22 Try.underlying9 Try.underlying5 rfl rfl ((hm11.ext hDr).get 0 rfl).2.2) ?_
    obtain ⟨z12, e12, hM⟩ := bindE hM
    refine RH.take 4 (by kernel_rfl) rfl rfl rfl rfl (fun w' hDr => V.catZ rfl rfl e12) ?_
    refine RH.take 10 (by kernel_rfl) rfl rfl rfl rfl (fun w' hDr => V.mv rfl) ?_
    refine RH.take 11 (by kernel_rfl) rfl rfl rfl rfl (fun w' hDr => V.b2s Try.underlying22 Try.underlying9 Try.underlying5 rfl rfl ((hm11.ext hDr).get 0 rfl).2.2) ?_
    obtain ⟨z13, e13, hM⟩ := bindE hM
    refine RH.s2bH 5 (by kernel_rfl) hm11 e13 rfl rfl rfl Try.underlying9 Try.underlying22 Try.underlying5 rfl ?_
    intro A13 c13 w13 hm13 e13
    refine ⟨((Ext.refl _).trans e13), ?_⟩
    obtain ⟨p15, e15, hM⟩ := bindE hM
    refine RH.cl ck61 6 (by kernel_rfl) rfl rfl rfl rfl (m_limnographref03_Of_sim (Z0 := All) _ A13 c13 z13 (slR_all (hm13.get 1 rfl)) e15) ?_
    rintro _ w15 ⟨rfl, hq15⟩
    refine ⟨_, rfl, (((Ext.refl _).trans e13).trans hq15.fr), ?_⟩
    have hm16 := hm13.call0 hq15
    refine RH.here fun hS7 => RH.one 7 (by kernel_rfl) rfl rfl rfl rfl (V.cv32i (a := p15) Try.underlying110 Try.underlying3 rfl) hS7 ?_
    obtain ⟨p17, e17, hM⟩ := bindE hM
    refine RH.cl ck60 8 (by kernel_rfl) rfl rfl rfl rfl (m_limnographref04_four_sim (Z0 := All) _ (p15.toNat : Int)  e17) ?_
    rintro _ w17 ⟨rfl, hq17⟩
    refine ⟨_, rfl, ((((Ext.refl _).trans e13).trans hq15.fr).trans hq17.fr), ?_⟩
    have hm18 := hm16.call0 hq17
    obtain ⟨z19, e19, hM⟩ := bindE hM
    refine RH.here fun hS9 => RH.one 9 (by kernel_rfl) rfl rfl rfl rfl (V.catZ rfl rfl e19) hS9 ?_
    obtain ⟨z20, e20, hM⟩ := bindE hM
    refine RH.here fun hS12 => RH.one 12 (by kernel_rfl) rfl rfl rfl rfl (V.catZ rfl rfl e20) hS12 ?_
    obtain ⟨z21, e21, hM⟩ := bindE hM
    refine RH.s2bH 13 (by kernel_rfl) hm18 e21 rfl rfl rfl Try.underlying9 Try.underlying22 Try.underlying5 rfl ?_
    intro A21 c21 w21 hm21 e21
    refine ⟨(((((Ext.refl _).trans e13).trans hq15.fr).trans hq17.fr).trans e21), ?_⟩
    refine RH.here fun hS14 => RH.one 14 (by kernel_rfl) rfl rfl rfl rfl (V.as rfl) hS14 ?_
    refine RH.here fun hS15 => RH.one 15 (by kernel_rfl) rfl rfl rfl rfl (V.as rfl) hS15 ?_
    refine RH.doneP (by kernel_rfl) ?_
    refine Rn.retG2 Try.func54 rfl (rvT rfl) (rvT rfl) ?_
    obtain rfl := someE hM
    exact ⟨A21, c21, rfl, hm21.pick [2] rfl (by decide)⟩

set_option maxRecDepth 20000 in
theorem m_limnographref04_First_sim {Z0 : Nat → Prop} (w : World) (A0 : Option Addr) (c0 : Nat) (x0 : (List UInt8)) (x1 : Int) {r : T_limnographref04_Got} (f0 : (slR A0 c0 byteR x0).H Z0 w) (hM : m_limnographref04_First x0 x1 = some r) :
    Calls Try.prog 41 #[.slice A0 (x0).length c0, .int .i64 (x1)] w fun x w' => ∃ A_0_0 c_0_0, x = .returned (.agg [.slice A_0_0 (r.B).length c_0_0, .int .i64 (r.N), .int .i64 (r.E)].toArray) ∧ Hp Z0 No w w' [slR A_0_0 c_0_0 byteR r.B] := by
  have hm0 := Hp.nil Z0 No w
  have hc0 := Calm.nil
  have hm2 := hm0.know (slR A0 c0 byteR x0) (fun _ h => h) (hm0.in0 hc0 f0)
  replace hc0 := hc0.snoc (r := slR A0 c0 byteR x0) (fun _ h => h)
  refine Rn.enter Try.func41 rfl rfl (Nat.le_of_ble_eq_true rfl) ?_
  refine Rn.seq (Rn.reg (Rn.alloc rfl rfl rfl Try.zeroValue99 rfl ?_))
  intro b3 w3 hb3 m3 e3
  have hm5 : Hp Z0 No w w3 [slR A0 c0 byteR x0, boxR b3 99 [.slice none 0 0, .int .i64 (0), .int .i64 (0)]] := hm2.addBox hb3 e3 m3
  refine Rn.regEnd (Rn.seq (Rn.reg (Rn.v rfl rfl rfl rfl (V.mv rfl) (Rn.v rfl rfl rfl rfl (V.lenV Try.underlying22 rfl) (Rn.v rfl rfl rfl rfl (V.mv rfl) (Rn.v rfl rfl rfl rfl (V.subW rfl rfl) (Rn.v rfl rfl rfl rfl (V.as rfl) (Rn.regEnd (Rn.seq (Rn.seq (Rn.reg (Rn.v rfl rfl rfl rfl (V.mv rfl) (Rn.v rfl rfl rfl rfl (V.lss rfl rfl) (Rn.regEnd ?_))))))))))))))
  refine Rn.condD rfl (fun h6 => ?_) (fun h6 => ?_)
  · replace hM := iteT h6 hM
    refine Rn.seq (Rn.reg (Rn.v rfl rfl rfl rfl (V.bldS st99 rfl rfl) (Rn.st rfl rfl Try.sizeOf99 rfl rfl rfl rfl (by first | exact ones rfl | (simp [Value.oneCell']; done)) (hm5.get 1 rfl) (by first | exact Nat.le_of_ble_eq_true rfl | (simp; done)) ?_)))
    intro w7 m7 x7
    have hm8 : Hp Z0 No w w7 [slR A0 c0 byteR x0, boxR b3 99 [.slice none 0 0, .int .i64 (0), .int .i64 (2)]] := hm5.st 1 rfl x7 m7
    refine Rn.regEnd ?_
    have hm9 := hm8.addNil 5 byteR
    have hm12 := hm9.freeze 2 rfl
    refine Rn.retG1 Try.func41 rfl (rvC rfl Try.isAgg99 Try.sizeOf99 (hm8.get 1 rfl) rfl) ?_
    obtain rfl := someE hM
    exact ⟨none, 0, rfl, hm12.pick [2] rfl (by decide)⟩
  · replace hM := iteF h6 hM
    refine Rn.skip (Rn.seq (Rn.seq (Rn.reg (Rn.v rfl rfl rfl rfl (V.mv rfl) (Rn.v rfl rfl rfl rfl (V.mv rfl) ?_)))))
    obtain ⟨z13, e13, hM⟩ := bindE hM
    refine Rn.ixH hm5 0 rfl e13 rfl rfl rfl Try.underlying22 Try.sizeOf5 rfl rfl rfl rfl ?_
    rintro b13 o13 vs13 ⟨rfl, _⟩ hm13
    refine Rn.v rfl rfl rfl rfl (V.ldR0 Try.isAgg5 rfl (hm13.get 2 rfl).2 rfl) (Rn.v rfl rfl rfl rfl (V.neq rfl rfl) (Rn.regEnd ?_))
    refine Rn.condD rfl (fun h15 => ?_) (fun h15 => ?_)
    · replace hM := iteT h15 hM
      refine Rn.seq (Rn.reg (Rn.v rfl rfl rfl rfl (V.bldS st99 rfl rfl) (Rn.st rfl rfl Try.sizeOf99 rfl rfl rfl rfl (by first | exact ones rfl | (simp [Value.oneCell']; done)) (hm13.get 1 rfl) (by first | exact Nat.le_of_ble_eq_true rfl | (simp; done)) ?_)))
      intro w16 m16 x16
      have hm17 : Hp Z0 No w w16 [slR A0 c0 byteR x0, boxR b3 99 [.slice none 0 0, .int .i64 (0), .int .i64 (3)], rdR b13 o13 [.int .u8 (((z13).toNat : Nat) : Int)]] := hm13.st 1 rfl x16 m16
      refine Rn.regEnd ?_
      have hm18 := hm17.addNil 5 byteR
      have hm21 := hm18.freeze 3 rfl
      refine Rn.retG1 Try.func41 rfl (rvC rfl Try.isAgg99 Try.sizeOf99 (hm17.get 1 rfl) rfl) ?_
      obtain rfl := someE hM
      exact ⟨none, 0, rfl, hm21.pick [3] rfl (by decide)⟩
    · replace hM := iteF h15 hM
      refine Rn.skip (Rn.seq (Rn.seq (Rn.reg (Rn.v rfl rfl rfl rfl (V.mv rfl) (Rn.v rfl rfl rfl rfl (V.lss rfl rfl) (Rn.regEnd ?_))))))
      refine Rn.condD rfl (fun h22 => ?_) (fun h22 => ?_)
      · replace hM := iteT h22 hM
        refine Rn.seq (Rn.reg (Rn.v rfl rfl rfl rfl (V.bldS st99 rfl rfl) (Rn.st rfl rfl Try.sizeOf99 rfl rfl rfl rfl (by first | exact ones rfl | (simp [Value.oneCell']; done)) (hm13.get 1 rfl) (by first | exact Nat.le_of_ble_eq_true rfl | (simp; done)) ?_)))
        intro w23 m23 x23
        have hm24 : Hp Z0 No w w23 [slR A0 c0 byteR x0, boxR b3 99 [.slice none 0 0, .int .i64 (0), .int .i64 (2)], rdR b13 o13 [.int .u8 (((z13).toNat : Nat) : Int)]] := hm13.st 1 rfl x23 m23
        refine Rn.regEnd ?_
        have hm25 := hm24.addNil 5 byteR
        have hm28 := hm25.freeze 3 rfl
        refine Rn.retG1 Try.func41 rfl (rvC rfl Try.isAgg99 Try.sizeOf99 (hm24.get 1 rfl) rfl) ?_
        obtain rfl := someE hM
        exact ⟨none, 0, rfl, hm28.pick [3] rfl (by decide)⟩
      · replace hM := iteF h22 hM
        refine Rn.skip (Rn.seq (Rn.reg (Rn.v rfl rfl rfl rfl (V.as rfl) (Rn.regEnd (Rn.seq (Rn.seq (Rn.reg (Rn.v rfl rfl rfl rfl (V.as rfl) (Rn.regEnd ?_)))))))))
        obtain ⟨j1, hj1, hM⟩ := jnE hM
        refine Rn.joinG (r := r) (G := Int) (fun g => [(0, .slice A0 (x0).length c0), (1, .int .i64 (x1)), (4, .pointer (some ⟨b3, 0, none⟩)), (5, .int .i64 (W64 ((x0.length : Int) - x1))), (6, .int .i64 (g))]) (fun g w' => Hp Z0 No w w' [slR A0 c0 byteR x0, boxR b3 99 [.slice none 0 0, .int .i64 (0), .int .i64 (0)], rdR b13 o13 [.int .u8 (((z13).toNat : Nat) : Int)]]) (fun g => j1 g) ?_ ?_
        · subst hj1
          clear hM
          rintro y29 w30 hm30 hM
          replace hm30 : Hp Z0 No w w30 [slR A0 c0 byteR x0, boxR b3 99 [.slice none 0 0, .int .i64 (0), .int .i64 (0)], rdR b13 o13 [.int .u8 (((z13).toNat : Nat) : Int)]] := hm30
          show Rn _ _ _ _ _ [(0, .slice A0 (x0).length c0), (1, .int .i64 (x1)), (4, .pointer (some ⟨b3, 0, none⟩)), (5, .int .i64 (W64 ((x0.length : Int) - x1))), (6, .int .i64 (y29))] _
          try dsimp only at hM
          refine Rn.seq (Rn.seq (Rn.reg (Rn.v rfl rfl rfl rfl (V.mv rfl) (Rn.v rfl rfl rfl rfl (V.gtr rfl rfl) (Rn.regEnd ?_)))))
          refine Rn.condD rfl (fun h31 => ?_) (fun h31 => ?_)
          · replace hM := iteT h31 hM
            refine Rn.seq (Rn.reg (Rn.v rfl rfl rfl rfl (V.bldS st99 rfl rfl) (Rn.st rfl rfl Try.sizeOf99 rfl rfl rfl rfl (by first | exact ones rfl | (simp [Value.oneCell']; done)) (hm30.get 1 rfl) (by first | exact Nat.le_of_ble_eq_true rfl | (simp; done)) ?_)))
            intro w32 m32 x32
            have hm33 : Hp Z0 No w w32 [slR A0 c0 byteR x0, boxR b3 99 [.slice none 0 0, .int .i64 (0), .int .i64 (4)], rdR b13 o13 [.int .u8 (((z13).toNat : Nat) : Int)]] := hm30.st 1 rfl x32 m32
            refine Rn.regEnd ?_
            have hm34 := hm33.addNil 5 byteR
            have hm37 := hm34.freeze 3 rfl
            refine Rn.retG1 Try.func41 rfl (rvC rfl Try.isAgg99 Try.sizeOf99 (hm33.get 1 rfl) rfl) ?_
            obtain rfl := someE hM
            exact ⟨none, 0, rfl, hm37.pick [3] rfl (by decide)⟩
          · replace hM := iteF h31 hM
            refine Rn.skip (Rn.seq (Rn.seq (Rn.reg (Rn.v rfl rfl rfl rfl (V.mv rfl) (Rn.v rfl rfl rfl rfl (V.mv rfl) (Rn.v rfl rfl rfl rfl (V.addW rfl rfl) (Rn.v rfl rfl rfl rfl (V.lss rfl rfl) (Rn.regEnd ?_))))))))
            refine Rn.condD rfl (fun h38 => ?_) (fun h38 => ?_)
            · replace hM := iteT h38 hM
              refine Rn.seq (Rn.reg (Rn.v rfl rfl rfl rfl (V.bldS st99 rfl rfl) (Rn.st rfl rfl Try.sizeOf99 rfl rfl rfl rfl (by first | exact ones rfl | (simp [Value.oneCell']; done)) (hm30.get 1 rfl) (by first | exact Nat.le_of_ble_eq_true rfl | (simp; done)) ?_)))
              intro w39 m39 x39
              have hm40 : Hp Z0 No w w39 [slR A0 c0 byteR x0, boxR b3 99 [.slice none 0 0, .int .i64 (0), .int .i64 (2)], rdR b13 o13 [.int .u8 (((z13).toNat : Nat) : Int)]] := hm30.st 1 rfl x39 m39
              refine Rn.regEnd ?_
              have hm41 := hm40.addNil 5 byteR
              have hm44 := hm41.freeze 3 rfl
              refine Rn.retG1 Try.func41 rfl (rvC rfl Try.isAgg99 Try.sizeOf99 (hm40.get 1 rfl) rfl) ?_
              obtain rfl := someE hM
              exact ⟨none, 0, rfl, hm44.pick [3] rfl (by decide)⟩
            · replace hM := iteF h38 hM
              refine Rn.skip (Rn.seq (Rn.reg (Rn.v rfl rfl rfl rfl (V.mv rfl) (Rn.v rfl rfl rfl rfl (V.mv rfl) (Rn.v rfl rfl rfl rfl (V.addW rfl rfl) (Rn.v rfl rfl rfl rfl (V.mv rfl) (Rn.v rfl rfl rfl rfl (V.addW rfl rfl) (Rn.v rfl rfl rfl rfl (V.mv rfl) (Rn.v rfl rfl rfl rfl (V.addW rfl rfl) ?_)))))))))
              obtain ⟨z45, e45, hM⟩ := bindE hM
              refine Rn.cutH hm30 0 rfl e45 rfl rfl rfl Try.underlying22 Try.sizeOf5 rfl rfl rfl rfl rfl ?_
              intro A45 c45 hm45
              refine Rn.v rfl rfl rfl rfl (V.as rfl) (Rn.regEnd (Rn.seq (Rn.reg (Rn.v rfl rfl rfl rfl (V.mv rfl) ?_))))
              obtain ⟨p47, e47, hM⟩ := bindE hM
              refine Rn.cl ck54 rfl rfl rfl rfl (m_limnographref04_Wrap_sim (Z0 := Zo Z0 No w [slR A0 c0 byteR x0, boxR b3 99 [.slice none 0 0, .int .i64 (0), .int .i64 (0)], rdR b13 o13 [.int .u8 (((z13).toNat : Nat) : Int)], slR A45 c45 byteR z45]) _ A45 c45 z45 (hm45.get 3 rfl) e47) ?_
              rintro _ w47 ⟨A47_0_0, c47_0_0, rfl, hq47⟩
              refine ⟨_, rfl, ?_⟩
              have hm49 : Hp Z0 No w w47 [slR A0 c0 byteR x0, boxR b3 99 [.slice none 0 0, .int .i64 (0), .int .i64 (0)], rdR b13 o13 [.int .u8 (((z13).toNat : Nat) : Int)], slR A45 c45 byteR z45, slR A47_0_0 c47_0_0 byteR p47.1] := hm45.callZ hq47
              refine Rn.v rfl rfl rfl rfl (V.mv rfl) (Rn.v rfl rfl rfl rfl (V.ext rfl rfl) (Rn.v rfl rfl rfl rfl (V.ext rfl rfl) (Rn.v rfl rfl rfl rfl (V.as rfl) (Rn.v rfl rfl rfl rfl (V.as rfl) (Rn.regEnd (Rn.seq (Rn.seq ?_)))))))
              refine Rn.drawP rfl hm49 ?_
              intro w50 hm50
              refine RH.takeP 0 (by kernel_rfl) rfl rfl rfl rfl (V.mv rfl) ?_
              refine RH.takeP 1 (by kernel_rfl) rfl rfl rfl rfl (V.b2s Try.underlying22 Try.underlying9 Try.underlying5 rfl rfl (hm50.get 4 rfl).2.2) ?_
              refine RH.takeP 2 (by kernel_rfl) rfl rfl rfl rfl (V.mv rfl) ?_
              refine RH.takeP 3 (by kernel_rfl) rfl rfl rfl rfl (V.mv rfl) ?_
              refine RH.takeP 4 (by kernel_rfl) rfl rfl rfl rfl (V.mv rfl) ?_
              refine RH.takeP 5 (by kernel_rfl) rfl rfl rfl rfl (V.addW rfl rfl) ?_
              refine RH.takeP 6 (by kernel_rfl) rfl rfl rfl rfl (V.mv rfl) ?_
              refine RH.takeP 7 (by kernel_rfl) rfl rfl rfl rfl (V.addW rfl rfl) ?_
              obtain ⟨z51, e51, hM⟩ := bindE hM
              refine RH.cutH 8 (by kernel_rfl) hm50 0 rfl e51 rfl rfl rfl Try.underlying22 Try.sizeOf5 rfl rfl rfl rfl rfl ?_
              intro A51 c51 hm51
              refine RH.takeP 9 (by kernel_rfl) rfl rfl rfl rfl (V.b2s Try.underlying22 Try.underlying9 Try.underlying5 rfl rfl (hm51.get 5 rfl).2.2) ?_
              refine RH.takeP 10 (by kernel_rfl) rfl rfl rfl rfl (V.neqS rfl rfl) ?_
              refine RH.doneP (by kernel_rfl) ?_
              refine Rn.condD rfl (fun h53 => ?_) (fun h53 => ?_)
              · replace hM := iteT h53 hM
                refine Rn.seq (Rn.reg (Rn.v rfl rfl rfl rfl (V.bldS st99 rfl rfl) (Rn.st rfl rfl Try.sizeOf99 rfl rfl rfl rfl (by first | exact ones rfl | (simp [Value.oneCell']; done)) (hm51.get 1 rfl) (by first | exact Nat.le_of_ble_eq_true rfl | (simp; done)) ?_)))
                intro w54 m54 x54
                have hm55 : Hp Z0 No w w54 [slR A0 c0 byteR x0, boxR b3 99 [.slice none 0 0, .int .i64 (0), .int .i64 (5)], rdR b13 o13 [.int .u8 (((z13).toNat : Nat) : Int)], slR A45 c45 byteR z45, slR A47_0_0 c47_0_0 byteR p47.1, slR A51 c51 byteR z51] := hm51.st 1 rfl x54 m54
                refine Rn.regEnd ?_
                have hm56 := hm55.addNil 5 byteR
                have hm59 := hm56.freeze 6 rfl
                refine Rn.retG1 Try.func41 rfl (rvC rfl Try.isAgg99 Try.sizeOf99 (hm55.get 1 rfl) rfl) ?_
                obtain rfl := someE hM
                exact ⟨none, 0, rfl, hm59.pick [6] rfl (by decide)⟩
              · replace hM := iteF h53 hM
                refine Rn.skip (Rn.seq (Rn.reg (Rn.v rfl rfl rfl rfl (V.mv rfl) (Rn.v rfl rfl rfl rfl (V.mv rfl) (Rn.v rfl rfl rfl rfl (V.addW rfl rfl) (Rn.v rfl rfl rfl rfl (V.bldS st99 rfl rfl) (Rn.st rfl rfl Try.sizeOf99 rfl rfl rfl rfl (by first | exact ones rfl | (simp [Value.oneCell']; done)) (hm51.get 1 rfl) (by first | exact Nat.le_of_ble_eq_true rfl | (simp; done)) ?_)))))))
                intro w60 m60 x60
                have hm61 : Hp Z0 No w w60 [slR A0 c0 byteR x0, boxR b3 99 [.slice A45 (z45).length c45, .int .i64 (W64 (9 + y29)), .int .i64 (0)], rdR b13 o13 [.int .u8 (((z13).toNat : Nat) : Int)], slR A45 c45 byteR z45, slR A47_0_0 c47_0_0 byteR p47.1, slR A51 c51 byteR z51] := hm51.st 1 rfl x60 m60
                refine Rn.regEnd ?_
                refine Rn.retG1 Try.func41 rfl (rvC rfl Try.isAgg99 Try.sizeOf99 (hm61.get 1 rfl) rfl) ?_
                obtain rfl := someE hM
                exact ⟨A45, c45, rfl, hm61.pick [3] rfl (by decide)⟩
        intro hk1
        clear hj1
        refine Rn.block ?_
        refine Rn.loopF (G := Int × Int) (fun g => [(0, .slice A0 (x0).length c0), (1, .int .i64 (x1)), (4, .pointer (some ⟨b3, 0, none⟩)), (5, .int .i64 (W64 ((x0.length : Int) - x1))), (6, .int .i64 ((g.1))), (7, .int .i64 ((g.2)))]) (fun g w' => Hp Z0 No w w' [slR A0 c0 byteR x0, boxR b3 99 [.slice none 0 0, .int .i64 (0), .int .i64 (0)], rdR b13 o13 [.int .u8 (((z13).toNat : Nat) : Int)]]) (fun n g => m_limnographref04_First_L1 x0 x1 j1 n g.1 g.2) fuel (0, 4) (Sub.cons rfl (Sub.cons rfl (Sub.cons rfl (Sub.cons rfl (Sub.cons rfl (Sub.cons rfl (Sub.nil _))))))) (hm13.pick [0, 1, 2] rfl (by decide)) hM (fun _ => rfl) ?_
        clear hM
        rintro m64 ⟨y62, y63⟩ w64 hm64 hM hn64
        replace hm64 : Hp Z0 No w w64 [slR A0 c0 byteR x0, boxR b3 99 [.slice none 0 0, .int .i64 (0), .int .i64 (0)], rdR b13 o13 [.int .u8 (((z13).toNat : Nat) : Int)]] := hm64
        show Rn _ _ _ _ _ [(0, .slice A0 (x0).length c0), (1, .int .i64 (x1)), (4, .pointer (some ⟨b3, 0, none⟩)), (5, .int .i64 (W64 ((x0.length : Int) - x1))), (6, .int .i64 (y62)), (7, .int .i64 (y63))] _
        replace hM : m_limnographref04_First_L1 x0 x1 j1 (m64 + 1) y62 y63 = some r := hM
        rw [m_limnographref04_First_L1] at hM
        refine Rn.seq (Rn.seq (Rn.reg (Rn.v rfl rfl rfl rfl (V.mv rfl) (Rn.v rfl rfl rfl rfl (V.gtr rfl rfl) (Rn.regEnd ?_)))))
        refine Rn.condD rfl (fun h65 => ?_) (fun h65 => ?_)
        · replace hM := iteT h65 hM
          refine Rn.skip (Rn.seq (Rn.block (Rn.reg (Rn.v rfl rfl rfl rfl (V.mv rfl) (Rn.v rfl rfl rfl rfl (V.mulW rfl rfl) (Rn.v rfl rfl rfl rfl (V.mv rfl) (Rn.v rfl rfl rfl rfl (V.mv rfl) (Rn.v rfl rfl rfl rfl (V.mv rfl) (Rn.v rfl rfl rfl rfl (V.addW rfl rfl) ?_)))))))))
          obtain ⟨z66, e66, hM⟩ := bindE hM
          refine Rn.ixH hm64 0 rfl e66 rfl rfl rfl Try.underlying22 Try.sizeOf5 rfl rfl rfl rfl ?_
          rintro b66 o66 vs66 ⟨rfl, _⟩ hm66
          refine Rn.v rfl rfl rfl rfl (V.ldR0 Try.isAgg5 rfl (hm66.get 3 rfl).2 rfl) (Rn.v rfl rfl rfl rfl (V.cv8i (a := z66) Try.underlying5 Try.underlying3 rfl) (Rn.v rfl rfl rfl rfl (V.addW rfl rfl) (Rn.v rfl rfl rfl rfl (V.as rfl) (Rn.regEnd (Rn.inBlock (Rn.reg (Rn.v rfl rfl rfl rfl (V.mv rfl) (Rn.v rfl rfl rfl rfl (V.subW rfl rfl) (Rn.v rfl rfl rfl rfl (V.as rfl) (Rn.regEnd ?_))))))))))
          exact hn64 ((W64 ((W64 (256 * y62)) + (z66.toNat : Int))), (W64 (y63 - 1))) _ _ (Sub.cons rfl (Sub.cons rfl (Sub.cons rfl (Sub.cons rfl (Sub.cons rfl (Sub.cons rfl (Sub.nil _))))))) (hm66.pick [0, 1, 2] rfl (by decide)) hM
        · replace hM := iteF h65 hM
          refine Rn.exit rfl ?_
          exact hk1 y62 _ _ (Sub.cons rfl (Sub.cons rfl (Sub.cons rfl (Sub.cons rfl (Sub.cons rfl (Sub.nil _)))))) (hm64.pick [0, 1, 2] rfl (by decide)) hM

set_option maxRecDepth 20000 in
theorem m_limnographref20_Load_sim {Z0 : Nat → Prop} (w : World) (F0 : Nat → Prop) (b0 : Nat) (x0 : T_limnographref18_Disk) (x1 : (List UInt8)) {r : (T_limnographref20_Got × T_limnographref18_Disk)} (hL : Lent Z0 w [T_limnographref18_Disk.obj F0 b0 x0]) (hM : m_limnographref20_Load x0 x1 = some r) :
    Calls Try.prog 26 #[.pointer (some ⟨b0, 0, none⟩), Str (x1)] w fun x w' => ∃ A_0_0 c_0_0 F_p0, x = .returned (.agg [.slice A_0_0 (r.1.B).length c_0_0, .bool (r.1.Is), .int .i64 (r.1.E)].toArray) ∧ Hp Z0 (LS [T_limnographref18_Disk.obj F0 b0 x0]) w w' [slR A_0_0 c_0_0 byteR r.1.B, T_limnographref18_Disk.obj F_p0 b0 r.2] := by
  have hm0 := hL.start
  refine Rn.enter Try.func26 rfl rfl (Nat.le_of_ble_eq_true rfl) ?_
  refine Rn.seq (Rn.reg (Rn.alloc rfl rfl rfl Try.zeroValue77 rfl ?_))
  intro b2 w2 hb2 m2 e2
  have hm4 : Hp Z0 (LS [T_limnographref18_Disk.obj F0 b0 x0]) w w2 [T_limnographref18_Disk.obj F0 b0 x0, boxR b2 77 [.slice none 0 0, .bool false, .int .i64 (0)]] := hm0.addBox hb2 e2 m2
  refine Rn.regEnd (Rn.seq (Rn.seq (Rn.reg (Rn.v rfl rfl rfl rfl (V.mv rfl) (Rn.v rfl rfl rfl rfl (V.nil rfl) (Rn.v rfl rfl rfl rfl (V.fa Try.underlying62 rfl Try.sizeOf4 rfl rfl) ?_))))))
  obtain ⟨_, ⟨A5_0, c5_0, rfl⟩, hm5⟩ := hm4.unf 0 rfl
  replace hm5 : Hp Z0 (LS [T_limnographref18_Disk.obj F0 b0 x0]) w w2 [boxR b2 77 [.slice none 0 0, .bool false, .int .i64 (0)], boxR b0 62 [.slice A5_0 (x0.L).length c5_0, .int .i64 (x0.Capacity), .bool (x0.Down), .int .i64 (x0.Calls), .int .i64 (x0.Fail), .int .i64 (x0.Crash), .int .i64 (x0.Err)], ownR 66 A5_0 c5_0 T_limnographref18_File.rep x0.L] := hm5
  refine Rn.v rfl rfl rfl rfl (V.ldB Try.isAgg4 rfl (hm5.get 1 rfl) rfl) (Rn.regEnd ?_)
  refine Rn.condS rfl (fun h7 => ?_) (fun h7 => ?_)
  · replace hM := iteT h7 hM
    refine Rn.seq (Rn.reg (Rn.v rfl rfl rfl rfl (V.bldS st77 rfl rfl) (Rn.st rfl rfl Try.sizeOf77 rfl rfl rfl rfl (by first | exact ones rfl | (simp [Value.oneCell']; done)) (hm5.get 0 rfl) (by first | exact Nat.le_of_ble_eq_true rfl | (simp; done)) ?_)))
    intro w8 m8 x8
    have hm9 : Hp Z0 (LS [T_limnographref18_Disk.obj F0 b0 x0]) w w8 [boxR b2 77 [.slice none 0 0, .bool false, .int .i64 (13)], boxR b0 62 [.slice A5_0 (x0.L).length c5_0, .int .i64 (x0.Capacity), .bool (x0.Down), .int .i64 (x0.Calls), .int .i64 (x0.Fail), .int .i64 (x0.Crash), .int .i64 (x0.Err)], ownR 66 A5_0 c5_0 T_limnographref18_File.rep x0.L] := hm5.st 0 rfl x8 m8
    refine Rn.regEnd ?_
    have hm10 := hm9.addNil 5 byteR
    have hm13 := hm10.freeze 3 rfl
    have hm15 : Hp Z0 (LS [T_limnographref18_Disk.obj F0 b0 x0]) w w8 ([boxR b2 77 [.slice none 0 0, .bool false, .int .i64 (13)], slR none 0 byteR ([] : List UInt8)] ++ [boxR b0 62 [.slice A5_0 (x0.L).length c5_0, .int .i64 (x0.Capacity), .bool (x0.Down), .int .i64 (x0.Calls), .int .i64 (x0.Fail), .int .i64 (x0.Crash), .int .i64 (x0.Err)], ownR 66 A5_0 c5_0 T_limnographref18_File.rep x0.L]) := hm13.pick [0, 3, 1, 2] rfl (by decide)
    obtain ⟨F14, hm14⟩ := hm15.fold (T_limnographref18_Disk.sh b0 x0) ⟨A5_0, c5_0, rfl⟩
    replace hm14 : Hp Z0 (LS [T_limnographref18_Disk.obj F0 b0 x0]) w w8 [boxR b2 77 [.slice none 0 0, .bool false, .int .i64 (13)], slR none 0 byteR ([] : List UInt8), T_limnographref18_Disk.obj F14 b0 x0] := hm14
    refine Rn.retG1 Try.func26 rfl (rvC rfl Try.isAgg77 Try.sizeOf77 (hm9.get 0 rfl) rfl) ?_
    obtain rfl := someE hM
    exact ⟨none, 0, F14, rfl, hm14.pick [1, 2] rfl (by decide)⟩
  · replace hM := iteF (by rw [h7]; exact Bool.false_ne_true) hM
    refine Rn.skip (Rn.seq (Rn.seq (Rn.reg (Rn.v rfl rfl rfl rfl (V.mv rfl) (Rn.v rfl rfl rfl rfl (V.mv rfl) ?_)))))
    obtain ⟨z16, e16, hM⟩ := bindE hM
    refine Rn.v rfl rfl rfl rfl (V.catZ rfl rfl e16) ?_
    have hm19 : Hp Z0 (LS [T_limnographref18_Disk.obj F0 b0 x0]) w w2 ([boxR b2 77 [.slice none 0 0, .bool false, .int .i64 (0)]] ++ [boxR b0 62 [.slice A5_0 (x0.L).length c5_0, .int .i64 (x0.Capacity), .bool (x0.Down), .int .i64 (x0.Calls), .int .i64 (x0.Fail), .int .i64 (x0.Crash), .int .i64 (x0.Err)], ownR 66 A5_0 c5_0 T_limnographref18_File.rep x0.L]) := hm5.pick [0, 1, 2] rfl (by decide)
    obtain ⟨F18, hm18⟩ := hm19.fold (T_limnographref18_Disk.sh b0 x0) ⟨A5_0, c5_0, rfl⟩
    replace hm18 : Hp Z0 (LS [T_limnographref18_Disk.obj F0 b0 x0]) w w2 [boxR b2 77 [.slice none 0 0, .bool false, .int .i64 (0)], T_limnographref18_Disk.obj F18 b0 x0] := hm18
    obtain ⟨p17, e17, hM⟩ := bindE hM
    refine Rn.cl ck19 rfl rfl rfl rfl (m_limnographref18_Disk_Find_sim (Z0 := All) _ F18 b0 x0 z16 (fz_all (hm18.get 1 rfl)) e17) ?_
    rintro _ w17 ⟨rfl, hq17⟩
    refine ⟨_, rfl, ?_⟩
    have hm20 := hm18.call0 hq17
    refine Rn.v rfl rfl rfl rfl (V.geq rfl rfl) (Rn.regEnd ?_)
    obtain ⟨j1, hj1, hM⟩ := jnE hM
    refine Rn.joinG (r := r) (G := T_limnographref18_Disk × (Nat → Prop)) (fun g => [(0, .pointer (some ⟨b0, 0, none⟩)), (1, Str (x1)), (4, .pointer (some ⟨b2, 0, none⟩))]) (fun g w' => Hp Z0 (LS [T_limnographref18_Disk.obj F0 b0 x0]) w w' [boxR b2 77 [.slice none 0 0, .bool false, .int .i64 (0)], T_limnographref18_Disk.obj (g.2) b0 (g.1)]) (fun g => j1 g.1) ?_ ?_
    · subst hj1
      clear hM
      rintro ⟨y21, F21⟩ w22 hm22 hM
      replace hm22 : Hp Z0 (LS [T_limnographref18_Disk.obj F0 b0 x0]) w w22 [boxR b2 77 [.slice none 0 0, .bool false, .int .i64 (0)], T_limnographref18_Disk.obj F21 b0 y21] := hm22
      show Rn _ _ _ _ _ [(0, .pointer (some ⟨b0, 0, none⟩)), (1, Str (x1)), (4, .pointer (some ⟨b2, 0, none⟩))] _
      try dsimp only at hM
      refine Rn.seq (Rn.reg (Rn.v rfl rfl rfl rfl (V.mv rfl) (Rn.v rfl rfl rfl rfl (V.mv rfl) ?_)))
      obtain ⟨p23, e23, hM⟩ := bindE hM
      refine Rn.cl ck19 rfl rfl rfl rfl (m_limnographref18_Disk_Find_sim (Z0 := All) _ F21 b0 y21 x1 (fz_all (hm22.get 1 rfl)) e23) ?_
      rintro _ w23 ⟨rfl, hq23⟩
      refine ⟨_, rfl, ?_⟩
      have hm24 := hm22.call0 hq23
      refine Rn.v rfl rfl rfl rfl (V.as rfl) (Rn.regEnd (Rn.seq (Rn.seq (Rn.reg (Rn.v rfl rfl rfl rfl (V.mv rfl) (Rn.v rfl rfl rfl rfl (V.lss rfl rfl) (Rn.regEnd ?_)))))))
      refine Rn.condD rfl (fun h25 => ?_) (fun h25 => ?_)
      · replace hM := iteT h25 hM
        refine Rn.seq (Rn.reg (Rn.v rfl rfl rfl rfl (V.bldS st77 rfl rfl) (Rn.st rfl rfl Try.sizeOf77 rfl rfl rfl rfl (by first | exact ones rfl | (simp [Value.oneCell']; done)) (hm24.get 0 rfl) (by first | exact Nat.le_of_ble_eq_true rfl | (simp; done)) ?_)))
        intro w26 m26 x26
        have hm27 : Hp Z0 (LS [T_limnographref18_Disk.obj F0 b0 x0]) w w26 [boxR b2 77 [.slice none 0 0, .bool false, .int .i64 (0)], T_limnographref18_Disk.obj F21 b0 y21] := hm24.st 0 rfl x26 m26
        refine Rn.regEnd ?_
        have hm28 := hm27.addNil 5 byteR
        have hm31 := hm28.freeze 2 rfl
        refine Rn.retG1 Try.func26 rfl (rvC rfl Try.isAgg77 Try.sizeOf77 (hm27.get 0 rfl) rfl) ?_
        obtain rfl := someE hM
        exact ⟨none, 0, F21, rfl, hm31.pick [2, 1] rfl (by decide)⟩
      · replace hM := iteF h25 hM
        refine Rn.skip (Rn.seq (Rn.reg (Rn.v rfl rfl rfl rfl (V.mv rfl) (Rn.v rfl rfl rfl rfl (V.nil rfl) (Rn.v rfl rfl rfl rfl (V.fa Try.underlying62 rfl Try.sizeOf60 rfl rfl) ?_)))))
        obtain ⟨_, ⟨A32_0, c32_0, rfl⟩, hm32⟩ := hm24.unf 1 rfl
        replace hm32 : Hp Z0 (LS [T_limnographref18_Disk.obj F0 b0 x0]) w w23 [boxR b2 77 [.slice none 0 0, .bool false, .int .i64 (0)], boxR b0 62 [.slice A32_0 (y21.L).length c32_0, .int .i64 (y21.Capacity), .bool (y21.Down), .int .i64 (y21.Calls), .int .i64 (y21.Fail), .int .i64 (y21.Crash), .int .i64 (y21.Err)], ownR 66 A32_0 c32_0 T_limnographref18_File.rep y21.L] := hm32
        refine Rn.v rfl rfl rfl rfl (V.ldB Try.isAgg60 rfl (hm32.get 1 rfl) rfl) (Rn.v rfl rfl rfl rfl (V.mv rfl) ?_)
        obtain ⟨z34, e34, hM⟩ := bindE hM
        obtain ⟨kk34, ke34, kz34, kl34⟩ := idxE e34
        obtain ⟨g34, vs34, hA34, hR34, hrel34⟩ := hm32.ownAt 2 rfl kz34
        subst hA34
        obtain ⟨_, _, rfl, ⟨rfl, _⟩, ⟨_, _, rfl, ⟨A35, c35, rfl, p35, q35, s35⟩, ⟨rfl, _⟩⟩⟩ := hrel34
        have hm37 : Hp Z0 (LS [T_limnographref18_Disk.obj F0 b0 x0]) w w23 [boxR b2 77 [.slice none 0 0, .bool false, .int .i64 (0)], boxR b0 62 [.slice (some ⟨g34, 0, none⟩) (y21.L).length c32_0, .int .i64 (y21.Capacity), .bool (y21.Down), .int .i64 (y21.Calls), .int .i64 (y21.Fail), .int .i64 (y21.Crash), .int .i64 (y21.Err)], ownR 66 (some ⟨g34, 0, none⟩) c32_0 T_limnographref18_File.rep y21.L, slR A35 c35 byteR z34.Data] := Hp.knowL [slR A35 c35 byteR z34.Data] _ hm32 (knC (fun _ h => h) ⟨p35, q35, s35⟩ kn0)
        refine Rn.v rfl rfl rfl rfl (V.ixE kk34 Try.underlying60 Try.sizeOf66 rfl rfl ke34 kl34) (Rn.v rfl rfl rfl rfl (V.fa Try.underlying66 rfl Try.sizeOf22 rfl rfl) (Rn.v rfl rfl rfl rfl (V.ldR Try.isAgg22 rfl hR34 rfl) (Rn.v rfl rfl rfl rfl (V.as rfl) (Rn.regEnd (Rn.seq (Rn.reg (Rn.v rfl rfl rfl rfl (V.mv rfl) ?_)))))))
        obtain ⟨p38, e38, hM⟩ := bindE hM
        refine Rn.cl ck41 rfl rfl rfl rfl (m_limnographref04_First_sim (Z0 := Zo Z0 (LS [T_limnographref18_Disk.obj F0 b0 x0]) w [boxR b2 77 [.slice none 0 0, .bool false, .int .i64 (0)], boxR b0 62 [.slice (some ⟨g34, 0, none⟩) (y21.L).length c32_0, .int .i64 (y21.Capacity), .bool (y21.Down), .int .i64 (y21.Calls), .int .i64 (y21.Fail), .int .i64 (y21.Crash), .int .i64 (y21.Err)], ownR 66 (some ⟨g34, 0, none⟩) c32_0 T_limnographref18_File.rep y21.L, slR A35 c35 byteR z34.Data]) _ A35 c35 z34.Data 0 (hm37.get 3 rfl) e38) ?_
        rintro _ w38 ⟨A38_0_0, c38_0_0, rfl, hq38⟩
        refine ⟨_, rfl, ?_⟩
        have hm40 : Hp Z0 (LS [T_limnographref18_Disk.obj F0 b0 x0]) w w38 [boxR b2 77 [.slice none 0 0, .bool false, .int .i64 (0)], boxR b0 62 [.slice (some ⟨g34, 0, none⟩) (y21.L).length c32_0, .int .i64 (y21.Capacity), .bool (y21.Down), .int .i64 (y21.Calls), .int .i64 (y21.Fail), .int .i64 (y21.Crash), .int .i64 (y21.Err)], ownR 66 (some ⟨g34, 0, none⟩) c32_0 T_limnographref18_File.rep y21.L, slR A35 c35 byteR z34.Data, slR A38_0_0 c38_0_0 byteR p38.B] := hm37.callZ hq38
        refine Rn.als rfl rfl rfl Try.zeroValue99 rfl Try.sizeOf99 rfl rfl rfl rfl (by first | exact ones rfl | (simp [Value.oneCell']; done)) ?_
        intro b41 w41 hb41 m41 e41
        have hm43 : Hp Z0 (LS [T_limnographref18_Disk.obj F0 b0 x0]) w w41 [boxR b2 77 [.slice none 0 0, .bool false, .int .i64 (0)], boxR b0 62 [.slice (some ⟨g34, 0, none⟩) (y21.L).length c32_0, .int .i64 (y21.Capacity), .bool (y21.Down), .int .i64 (y21.Calls), .int .i64 (y21.Fail), .int .i64 (y21.Crash), .int .i64 (y21.Err)], ownR 66 (some ⟨g34, 0, none⟩) c32_0 T_limnographref18_File.rep y21.L, slR A35 c35 byteR z34.Data, slR A38_0_0 c38_0_0 byteR p38.B, boxR b41 99 [.slice A38_0_0 (p38.B).length c38_0_0, .int .i64 (p38.N), .int .i64 (p38.E)]] := hm40.addBox hb41 e41 m41
        refine Rn.regEnd (Rn.seq (Rn.seq (Rn.reg (Rn.v rfl rfl rfl rfl (V.fa Try.underlying99 rfl Try.sizeOf32 rfl rfl) (Rn.v rfl rfl rfl rfl (V.ldB Try.isAgg32 rfl (hm43.get 5 rfl) rfl) (Rn.v rfl rfl rfl rfl (V.neq rfl rfl) (Rn.v rfl rfl rfl rfl (V.mv rfl) ?_)))))))
        refine Rn.cutR [] [(4, .pointer (some ⟨b2, 0, none⟩)), (8, .pointer (some ⟨b41, 0, none⟩)), (52, .bool (decide ((p38.E ≠ 0) ∨ (p38.N ≠ (z34.Data.length : Int)))))] (fun hk44 => ?_) ?_
        · refine Rn.partD (t := 46) rfl (fun h45 => ?_) (fun h45 => ?_)
          · refine Rn.no rfl rfl rfl rfl (Rn.no rfl rfl rfl rfl (Rn.no rfl rfl rfl rfl (Rn.no rfl rfl rfl rfl (Rn.no rfl rfl rfl rfl (Rn.v rfl rfl rfl rfl (V.pkT rfl rfl) ?_)))))
            refine hk44 _ ?_
            exact Sub.cons rfl (Sub.cons rfl (Sub.cons (lkv _ rfl (by first | exact andT h45 | exact andF h45 | exact orT h45 | exact orF h45 | exact nandF h45 | exact nandT h45 | exact norT h45 | exact norF h45 | (simp [h45]; done) | grind)) (Sub.nil _)))
          · refine Rn.v rfl rfl rfl rfl (V.fa Try.underlying99 rfl Try.sizeOf3 rfl rfl) (Rn.v rfl rfl rfl rfl (V.ldB Try.isAgg3 rfl (hm43.get 5 rfl) rfl) (Rn.v rfl rfl rfl rfl (V.mv rfl) (Rn.v rfl rfl rfl rfl (V.lenV Try.underlying22 rfl) (Rn.v rfl rfl rfl rfl (V.neq rfl rfl) (Rn.v rfl rfl rfl rfl (V.pkF rfl rfl) ?_)))))
            refine hk44 _ ?_
            exact Sub.cons rfl (Sub.cons rfl (Sub.cons (lkv _ rfl (by first | exact andT h45 | exact andF h45 | exact orT h45 | exact orF h45 | exact nandF h45 | exact nandT h45 | exact norT h45 | exact norF h45 | (simp [h45]; done) | grind)) (Sub.nil _)))
        refine Rn.regEnd ?_
        refine Rn.condD rfl (fun h46 => ?_) (fun h46 => ?_)
        · replace hM := iteT h46 hM
          refine Rn.seq (Rn.reg (Rn.v rfl rfl rfl rfl (V.bldS st77 rfl rfl) (Rn.st rfl rfl Try.sizeOf77 rfl rfl rfl rfl (by first | exact ones rfl | (simp [Value.oneCell']; done)) (hm43.get 0 rfl) (by first | exact Nat.le_of_ble_eq_true rfl | (simp; done)) ?_)))
          intro w47 m47 x47
          have hm48 : Hp Z0 (LS [T_limnographref18_Disk.obj F0 b0 x0]) w w47 [boxR b2 77 [.slice none 0 0, .bool false, .int .i64 (15)], boxR b0 62 [.slice (some ⟨g34, 0, none⟩) (y21.L).length c32_0, .int .i64 (y21.Capacity), .bool (y21.Down), .int .i64 (y21.Calls), .int .i64 (y21.Fail), .int .i64 (y21.Crash), .int .i64 (y21.Err)], ownR 66 (some ⟨g34, 0, none⟩) c32_0 T_limnographref18_File.rep y21.L, slR A35 c35 byteR z34.Data, slR A38_0_0 c38_0_0 byteR p38.B, boxR b41 99 [.slice A38_0_0 (p38.B).length c38_0_0, .int .i64 (p38.N), .int .i64 (p38.E)]] := hm43.st 0 rfl x47 m47
          refine Rn.regEnd ?_
          have hm49 := hm48.addNil 5 byteR
          have hm52 := hm49.freeze 6 rfl
          have hm54 : Hp Z0 (LS [T_limnographref18_Disk.obj F0 b0 x0]) w w47 ([boxR b2 77 [.slice none 0 0, .bool false, .int .i64 (15)], slR A35 c35 byteR z34.Data, slR A38_0_0 c38_0_0 byteR p38.B, boxR b41 99 [.slice A38_0_0 (p38.B).length c38_0_0, .int .i64 (p38.N), .int .i64 (p38.E)], slR none 0 byteR ([] : List UInt8)] ++ [boxR b0 62 [.slice (some ⟨g34, 0, none⟩) (y21.L).length c32_0, .int .i64 (y21.Capacity), .bool (y21.Down), .int .i64 (y21.Calls), .int .i64 (y21.Fail), .int .i64 (y21.Crash), .int .i64 (y21.Err)], ownR 66 (some ⟨g34, 0, none⟩) c32_0 T_limnographref18_File.rep y21.L]) := hm52.pick [0, 3, 4, 5, 6, 1, 2] rfl (by decide)
          obtain ⟨F53, hm53⟩ := hm54.fold (T_limnographref18_Disk.sh b0 y21) ⟨(some ⟨g34, 0, none⟩), c32_0, rfl⟩
          replace hm53 : Hp Z0 (LS [T_limnographref18_Disk.obj F0 b0 x0]) w w47 [boxR b2 77 [.slice none 0 0, .bool false, .int .i64 (15)], slR A35 c35 byteR z34.Data, slR A38_0_0 c38_0_0 byteR p38.B, boxR b41 99 [.slice A38_0_0 (p38.B).length c38_0_0, .int .i64 (p38.N), .int .i64 (p38.E)], slR none 0 byteR ([] : List UInt8), T_limnographref18_Disk.obj F53 b0 y21] := hm53
          refine Rn.retG1 Try.func26 rfl (rvC rfl Try.isAgg77 Try.sizeOf77 (hm48.get 0 rfl) rfl) ?_
          obtain rfl := someE hM
          exact ⟨none, 0, F53, rfl, hm53.pick [4, 5] rfl (by decide)⟩
        · replace hM := iteF h46 hM
          refine Rn.skip (Rn.seq (Rn.reg (Rn.v rfl rfl rfl rfl (V.fa Try.underlying99 rfl Try.sizeOf22 rfl rfl) (Rn.v rfl rfl rfl rfl (V.ldB Try.isAgg22 rfl (hm43.get 5 rfl) rfl) (Rn.v rfl rfl rfl rfl (V.bldS st77 rfl rfl) (Rn.st rfl rfl Try.sizeOf77 rfl rfl rfl rfl (by first | exact ones rfl | (simp [Value.oneCell']; done)) (hm43.get 0 rfl) (by first | exact Nat.le_of_ble_eq_true rfl | (simp; done)) ?_))))))
          intro w55 m55 x55
          have hm56 : Hp Z0 (LS [T_limnographref18_Disk.obj F0 b0 x0]) w w55 [boxR b2 77 [.slice A38_0_0 (p38.B).length c38_0_0, .bool true, .int .i64 (0)], boxR b0 62 [.slice (some ⟨g34, 0, none⟩) (y21.L).length c32_0, .int .i64 (y21.Capacity), .bool (y21.Down), .int .i64 (y21.Calls), .int .i64 (y21.Fail), .int .i64 (y21.Crash), .int .i64 (y21.Err)], ownR 66 (some ⟨g34, 0, none⟩) c32_0 T_limnographref18_File.rep y21.L, slR A35 c35 byteR z34.Data, slR A38_0_0 c38_0_0 byteR p38.B, boxR b41 99 [.slice A38_0_0 (p38.B).length c38_0_0, .int .i64 (p38.N), .int .i64 (p38.E)]] := hm43.st 0 rfl x55 m55
          refine Rn.regEnd ?_
          have hm58 : Hp Z0 (LS [T_limnographref18_Disk.obj F0 b0 x0]) w w55 ([boxR b2 77 [.slice A38_0_0 (p38.B).length c38_0_0, .bool true, .int .i64 (0)], slR A35 c35 byteR z34.Data, slR A38_0_0 c38_0_0 byteR p38.B, boxR b41 99 [.slice A38_0_0 (p38.B).length c38_0_0, .int .i64 (p38.N), .int .i64 (p38.E)]] ++ [boxR b0 62 [.slice (some ⟨g34, 0, none⟩) (y21.L).length c32_0, .int .i64 (y21.Capacity), .bool (y21.Down), .int .i64 (y21.Calls), .int .i64 (y21.Fail), .int .i64 (y21.Crash), .int .i64 (y21.Err)], ownR 66 (some ⟨g34, 0, none⟩) c32_0 T_limnographref18_File.rep y21.L]) := hm56.pick [0, 3, 4, 5, 1, 2] rfl (by decide)
          obtain ⟨F57, hm57⟩ := hm58.fold (T_limnographref18_Disk.sh b0 y21) ⟨(some ⟨g34, 0, none⟩), c32_0, rfl⟩
          replace hm57 : Hp Z0 (LS [T_limnographref18_Disk.obj F0 b0 x0]) w w55 [boxR b2 77 [.slice A38_0_0 (p38.B).length c38_0_0, .bool true, .int .i64 (0)], slR A35 c35 byteR z34.Data, slR A38_0_0 c38_0_0 byteR p38.B, boxR b41 99 [.slice A38_0_0 (p38.B).length c38_0_0, .int .i64 (p38.N), .int .i64 (p38.E)], T_limnographref18_Disk.obj F57 b0 y21] := hm57
          refine Rn.retG1 Try.func26 rfl (rvC rfl Try.isAgg77 Try.sizeOf77 (hm56.get 0 rfl) rfl) ?_
          obtain rfl := someE hM
          exact ⟨A38_0_0, c38_0_0, F57, rfl, hm57.pick [2, 4] rfl (by decide)⟩
    intro hk1
    clear hj1
    refine Rn.condD rfl (fun h59 => ?_) (fun h59 => ?_)
    · replace hM := iteT h59 hM
      refine Rn.seq (Rn.reg (Rn.v rfl rfl rfl rfl (V.mv rfl) (Rn.v rfl rfl rfl rfl (V.mv rfl) ?_)))
      obtain ⟨z60, e60, hM⟩ := bindE hM
      refine Rn.v rfl rfl rfl rfl (V.catZ rfl rfl e60) ?_
      obtain ⟨p61, e61, hM⟩ := bindE hM
      have hm62 : Hp Z0 (LS [T_limnographref18_Disk.obj F0 b0 x0]) w w17 ([boxR b2 77 [.slice none 0 0, .bool false, .int .i64 (0)]] ++ [T_limnographref18_Disk.obj F18 b0 x0]) := hm20.pick [0, 1] rfl (by decide)
      refine Rn.cl ck40 rfl rfl rfl rfl (m_limnographref18_Disk_Remove_sim (Z0 := _) _ F18 b0 x0 z60 hm62.lend e61) ?_
      rintro _ w61 ⟨F61_p0, rfl, hq61⟩
      refine ⟨_, rfl, ?_⟩
      have hm64 : Hp Z0 (LS [T_limnographref18_Disk.obj F0 b0 x0]) w w61 [boxR b2 77 [.slice none 0 0, .bool false, .int .i64 (0)], T_limnographref18_Disk.obj F61_p0 b0 p61.2] := hm62.callAZ hq61
      refine Rn.v rfl rfl rfl rfl (V.as rfl) (Rn.regEnd (Rn.seq (Rn.reg (Rn.v rfl rfl rfl rfl (V.mv rfl) (Rn.v rfl rfl rfl rfl (V.neq rfl rfl) (Rn.regEnd ?_))))))
      refine Rn.condD rfl (fun h65 => ?_) (fun h65 => ?_)
      · replace hM := iteT h65 hM
        refine Rn.seq (Rn.reg (Rn.v rfl rfl rfl rfl (V.mv rfl) (Rn.v rfl rfl rfl rfl (V.bldS st77 rfl rfl) (Rn.st rfl rfl Try.sizeOf77 rfl rfl rfl rfl (by first | exact ones rfl | (simp [Value.oneCell']; done)) (hm64.get 0 rfl) (by first | exact Nat.le_of_ble_eq_true rfl | (simp; done)) ?_))))
        intro w66 m66 x66
        have hm67 : Hp Z0 (LS [T_limnographref18_Disk.obj F0 b0 x0]) w w66 [boxR b2 77 [.slice none 0 0, .bool false, .int .i64 (p61.1)], T_limnographref18_Disk.obj F61_p0 b0 p61.2] := hm64.st 0 rfl x66 m66
        refine Rn.regEnd ?_
        have hm68 := hm67.addNil 5 byteR
        have hm71 := hm68.freeze 2 rfl
        refine Rn.retG1 Try.func26 rfl (rvC rfl Try.isAgg77 Try.sizeOf77 (hm67.get 0 rfl) rfl) ?_
        obtain rfl := someE hM
        exact ⟨none, 0, F61_p0, rfl, hm71.pick [2, 1] rfl (by decide)⟩
      · replace hM := iteF h65 hM
        refine Rn.skip ?_
        exact hk1 (p61.2, F61_p0) _ _ (Sub.cons rfl (Sub.cons rfl (Sub.cons rfl (Sub.nil _)))) (hm64.pick [0, 1] rfl (by decide)) hM
    · replace hM := iteF h59 hM
      refine Rn.skip ?_
      exact hk1 (x0, F18) _ _ (Sub.cons rfl (Sub.cons rfl (Sub.cons rfl (Sub.nil _)))) (hm20.pick [0, 1] rfl (by decide)) hM

set_option maxRecDepth 20000 in
theorem m_limnographref02_GetFix_sim {Z0 : Nat → Prop} (w : World) (A0 : Option Addr) (c0 : Nat) (x0 : (List UInt8)) (x1 : Int) {r : T_limnographref02_Got} (f0 : (slR A0 c0 byteR x0).H Z0 w) (hM : m_limnographref02_GetFix x0 x1 = some r) :
    Calls Try.prog 27 #[.slice A0 (x0).length c0, .int .i64 (x1)] w fun x w' => x = .returned (.agg [.int .u64 (((r.V).toNat : Nat) : Int), .int .i64 (r.N), .int .i64 (r.E)].toArray) ∧ Hp Z0 No w w' [] := by
  have hm0 := Hp.nil Z0 No w
  have hc0 := Calm.nil
  have hm2 := hm0.know (slR A0 c0 byteR x0) (fun _ h => h) (hm0.in0 hc0 f0)
  replace hc0 := hc0.snoc (r := slR A0 c0 byteR x0) (fun _ h => h)
  refine Rn.enter Try.func27 rfl rfl (Nat.le_of_ble_eq_true rfl) ?_
  refine Rn.seq (Rn.reg (Rn.alloc rfl rfl rfl Try.zeroValue80 rfl ?_))
  intro b3 w3 hb3 m3 e3
  have hm5 : Hp Z0 No w w3 [slR A0 c0 byteR x0, boxR b3 80 [.int .u64 ((((0 : UInt64)).toNat : Nat) : Int), .int .i64 (0), .int .i64 (0)]] := hm2.addBox hb3 e3 m3
  refine Rn.regEnd (Rn.seq (Rn.seq (Rn.reg (Rn.v rfl rfl rfl rfl (V.mv rfl) (Rn.v rfl rfl rfl rfl (V.lenV Try.underlying22 rfl) (Rn.v rfl rfl rfl rfl (V.mv rfl) (Rn.v rfl rfl rfl rfl (V.subW rfl rfl) (Rn.v rfl rfl rfl rfl (V.lss rfl rfl) (Rn.regEnd ?_)))))))))
  refine Rn.condD rfl (fun h6 => ?_) (fun h6 => ?_)
  · replace hM := iteT h6 hM
    refine Rn.seq (Rn.reg (Rn.v rfl rfl rfl rfl (V.bldS st80 rfl rfl) (Rn.st rfl rfl Try.sizeOf80 rfl rfl rfl rfl (by first | exact ones rfl | (simp [Value.oneCell']; done)) (hm5.get 1 rfl) (by first | exact Nat.le_of_ble_eq_true rfl | (simp; done)) ?_)))
    intro w7 m7 x7
    have hm8 : Hp Z0 No w w7 [slR A0 c0 byteR x0, boxR b3 80 [.int .u64 ((((0 : UInt64)).toNat : Nat) : Int), .int .i64 (0), .int .i64 (2)]] := hm5.st 1 rfl x7 m7
    refine Rn.regEnd ?_
    refine Rn.retG1 Try.func27 rfl (rvC rfl Try.isAgg80 Try.sizeOf80 (hm8.get 1 rfl) rfl) ?_
    obtain rfl := someE hM
    exact ⟨rfl, hm8.pick [] rfl (by decide)⟩
  · replace hM := iteF h6 hM
    refine Rn.skip (Rn.seq (Rn.reg (Rn.v rfl rfl rfl rfl (V.as rfl) (Rn.regEnd (Rn.seq (Rn.seq (Rn.reg (Rn.v rfl rfl rfl rfl (V.as rfl) (Rn.regEnd ?_)))))))))
    obtain ⟨j1, hj1, hM⟩ := jnE hM
    refine Rn.joinG (r := r) (G := UInt64) (fun g => [(4, .pointer (some ⟨b3, 0, none⟩)), (5, .int .u64 (((g).toNat : Nat) : Int))]) (fun g w' => Hp Z0 No w w' [slR A0 c0 byteR x0, boxR b3 80 [.int .u64 ((((0 : UInt64)).toNat : Nat) : Int), .int .i64 (0), .int .i64 (0)]]) (fun g => j1 g) ?_ ?_
    · subst hj1
      clear hM
      rintro y9 w10 hm10 hM
      replace hm10 : Hp Z0 No w w10 [slR A0 c0 byteR x0, boxR b3 80 [.int .u64 ((((0 : UInt64)).toNat : Nat) : Int), .int .i64 (0), .int .i64 (0)]] := hm10
      show Rn _ _ _ _ _ [(4, .pointer (some ⟨b3, 0, none⟩)), (5, .int .u64 (((y9).toNat : Nat) : Int))] _
      try dsimp only at hM
      refine Rn.seq (Rn.reg (Rn.v rfl rfl rfl rfl (V.mv rfl) (Rn.v rfl rfl rfl rfl (V.bldS st80 rfl rfl) (Rn.st rfl rfl Try.sizeOf80 rfl rfl rfl rfl (by first | exact ones rfl | (simp [Value.oneCell']; done)) (hm10.get 1 rfl) (by first | exact Nat.le_of_ble_eq_true rfl | (simp; done)) ?_))))
      intro w11 m11 x11
      have hm12 : Hp Z0 No w w11 [slR A0 c0 byteR x0, boxR b3 80 [.int .u64 (((y9).toNat : Nat) : Int), .int .i64 (8), .int .i64 (0)]] := hm10.st 1 rfl x11 m11
      refine Rn.regEnd ?_
      refine Rn.retG1 Try.func27 rfl (rvC rfl Try.isAgg80 Try.sizeOf80 (hm12.get 1 rfl) rfl) ?_
      obtain rfl := someE hM
      exact ⟨rfl, hm12.pick [] rfl (by decide)⟩
    intro hk1
    clear hj1
    refine Rn.block ?_
    refine Rn.loopF (G := UInt64 × Int) (fun g => [(0, .slice A0 (x0).length c0), (1, .int .i64 (x1)), (4, .pointer (some ⟨b3, 0, none⟩)), (5, .int .u64 ((((g.1)).toNat : Nat) : Int)), (6, .int .i64 ((g.2)))]) (fun g w' => Hp Z0 No w w' [slR A0 c0 byteR x0, boxR b3 80 [.int .u64 ((((0 : UInt64)).toNat : Nat) : Int), .int .i64 (0), .int .i64 (0)]]) (fun n g => m_limnographref02_GetFix_L1 x0 x1 j1 n g.1 g.2) fuel ((0 : UInt64), 7) (Sub.cons rfl (Sub.cons rfl (Sub.cons rfl (Sub.cons rfl (Sub.cons rfl (Sub.nil _)))))) (hm5.pick [0, 1] rfl (by decide)) hM (fun _ => rfl) ?_
    clear hM
    rintro m15 ⟨y13, y14⟩ w15 hm15 hM hn15
    replace hm15 : Hp Z0 No w w15 [slR A0 c0 byteR x0, boxR b3 80 [.int .u64 ((((0 : UInt64)).toNat : Nat) : Int), .int .i64 (0), .int .i64 (0)]] := hm15
    show Rn _ _ _ _ _ [(0, .slice A0 (x0).length c0), (1, .int .i64 (x1)), (4, .pointer (some ⟨b3, 0, none⟩)), (5, .int .u64 (((y13).toNat : Nat) : Int)), (6, .int .i64 (y14))] _
    replace hM : m_limnographref02_GetFix_L1 x0 x1 j1 (m15 + 1) y13 y14 = some r := hM
    rw [m_limnographref02_GetFix_L1] at hM
    refine Rn.seq (Rn.seq (Rn.reg (Rn.v rfl rfl rfl rfl (V.mv rfl) (Rn.v rfl rfl rfl rfl (V.geq rfl rfl) (Rn.regEnd ?_)))))
    refine Rn.condD rfl (fun h16 => ?_) (fun h16 => ?_)
    · replace hM := iteT h16 hM
      refine Rn.skip (Rn.seq (Rn.block (Rn.reg (Rn.v rfl rfl rfl rfl (V.mv rfl) (Rn.v rfl rfl rfl rfl (V.ari64 (a := (256 : UInt64)) (b := y13) rfl rfl _ rfl (toU64_mul _ _)) (Rn.v rfl rfl rfl rfl (V.mv rfl) (Rn.v rfl rfl rfl rfl (V.mv rfl) (Rn.v rfl rfl rfl rfl (V.mv rfl) (Rn.v rfl rfl rfl rfl (V.addW rfl rfl) ?_)))))))))
      obtain ⟨z17, e17, hM⟩ := bindE hM
      refine Rn.ixH hm15 0 rfl e17 rfl rfl rfl Try.underlying22 Try.sizeOf5 rfl rfl rfl rfl ?_
      rintro b17 o17 vs17 ⟨rfl, _⟩ hm17
      refine Rn.v rfl rfl rfl rfl (V.ldR0 Try.isAgg5 rfl (hm17.get 2 rfl).2 rfl) (Rn.v rfl rfl rfl rfl (V.cv64 Try.underlying5 Try.underlying73 rfl) (Rn.v rfl rfl rfl rfl (V.ari64 (a := (256 : UInt64) * y13) (b := toU64 ((z17).toNat : Int)) rfl rfl _ rfl (toU64_add _ _)) (Rn.v rfl rfl rfl rfl (V.as rfl) (Rn.regEnd (Rn.inBlock (Rn.reg (Rn.v rfl rfl rfl rfl (V.mv rfl) (Rn.v rfl rfl rfl rfl (V.subW rfl rfl) (Rn.v rfl rfl rfl rfl (V.as rfl) (Rn.regEnd ?_))))))))))
      exact hn15 ((((256 : UInt64) * y13) + (toU64 ((z17).toNat : Int))), (W64 (y14 - 1))) _ _ (Sub.cons rfl (Sub.cons rfl (Sub.cons rfl (Sub.cons rfl (Sub.cons rfl (Sub.nil _)))))) (hm17.pick [0, 1] rfl (by decide)) hM
    · replace hM := iteF h16 hM
      refine Rn.exit rfl ?_
      exact hk1 y13 _ _ (Sub.cons rfl (Sub.cons rfl (Sub.nil _))) (hm15.pick [0, 1] rfl (by decide)) hM

set_option maxRecDepth 20000 in
theorem m_limnographref25_Open_sim {Z0 : Nat → Prop} (w : World) (F0 : Nat → Prop) (b0 : Nat) (x0 : T_limnographref18_Disk) {r : (T_limnographref25_Got × T_limnographref18_Disk)} (hL : Lent Z0 w [T_limnographref18_Disk.obj F0 b0 x0]) (hM : m_limnographref25_Open x0 = some r) :
    Calls Try.prog 9 #[.pointer (some ⟨b0, 0, none⟩)] w fun x w' => ∃ F_p0, x = .returned (.agg [.int .i64 (r.1.Ack), .bool (r.1.Is), .int .i64 (r.1.E)].toArray) ∧ Hp Z0 (LS [T_limnographref18_Disk.obj F0 b0 x0]) w w' [T_limnographref18_Disk.obj F_p0 b0 r.2] := by
  have hm0 := hL.start
  refine Rn.enter Try.func9 rfl rfl (Nat.le_of_ble_eq_true rfl) ?_
  refine Rn.seq (Rn.reg (Rn.alloc rfl rfl rfl Try.zeroValue36 rfl ?_))
  intro b2 w2 hb2 m2 e2
  have hm4 : Hp Z0 (LS [T_limnographref18_Disk.obj F0 b0 x0]) w w2 [T_limnographref18_Disk.obj F0 b0 x0, boxR b2 36 [.int .i64 (0), .bool false, .int .i64 (0)]] := hm0.addBox hb2 e2 m2
  refine Rn.regEnd (Rn.seq (Rn.reg (Rn.v rfl rfl rfl rfl (V.mv rfl) ?_)))
  obtain ⟨p5, e5, hM⟩ := bindE hM
  have hm6 : Hp Z0 (LS [T_limnographref18_Disk.obj F0 b0 x0]) w w2 ([boxR b2 36 [.int .i64 (0), .bool false, .int .i64 (0)]] ++ [T_limnographref18_Disk.obj F0 b0 x0]) := hm4.pick [1, 0] rfl (by decide)
  refine Rn.cl ck26 rfl rfl rfl rfl (m_limnographref20_Load_sim (Z0 := _) _ F0 b0 x0 ([97, 99, 107] : List UInt8) hm6.lend e5) ?_
  rintro _ w5 ⟨A5_0_0, c5_0_0, F5_p0, rfl, hq5⟩
  refine ⟨_, rfl, ?_⟩
  have hm9 : Hp Z0 (LS [T_limnographref18_Disk.obj F0 b0 x0]) w w5 [boxR b2 36 [.int .i64 (0), .bool false, .int .i64 (0)], slR A5_0_0 c5_0_0 byteR p5.1.B, T_limnographref18_Disk.obj F5_p0 b0 p5.2] := hm6.callAZ hq5
  refine Rn.als rfl rfl rfl Try.zeroValue77 rfl Try.sizeOf77 rfl rfl rfl rfl (by first | exact ones rfl | (simp [Value.oneCell']; done)) ?_
  intro b10 w10 hb10 m10 e10
  have hm12 : Hp Z0 (LS [T_limnographref18_Disk.obj F0 b0 x0]) w w10 [boxR b2 36 [.int .i64 (0), .bool false, .int .i64 (0)], slR A5_0_0 c5_0_0 byteR p5.1.B, T_limnographref18_Disk.obj F5_p0 b0 p5.2, boxR b10 77 [.slice A5_0_0 (p5.1.B).length c5_0_0, .bool (p5.1.Is), .int .i64 (p5.1.E)]] := hm9.addBox hb10 e10 m10
  refine Rn.regEnd (Rn.seq (Rn.seq (Rn.reg (Rn.v rfl rfl rfl rfl (V.fa Try.underlying77 rfl Try.sizeOf32 rfl rfl) (Rn.v rfl rfl rfl rfl (V.ldB Try.isAgg32 rfl (hm12.get 3 rfl) rfl) (Rn.v rfl rfl rfl rfl (V.neq rfl rfl) (Rn.v rfl rfl rfl rfl (V.mv rfl) ?_)))))))
  refine Rn.cutR [] [(2, .pointer (some ⟨b2, 0, none⟩)), (3, .pointer (some ⟨b10, 0, none⟩)), (14, .bool (decide ((p5.1.E ≠ 0) ∨ ((!p5.1.Is) = true))))] (fun hk13 => ?_) ?_
  · refine Rn.partD (t := 10) rfl (fun h14 => ?_) (fun h14 => ?_)
    · refine Rn.no rfl rfl rfl rfl (Rn.no rfl rfl rfl rfl (Rn.no rfl rfl rfl rfl (Rn.v rfl rfl rfl rfl (V.pkT rfl rfl) ?_)))
      refine hk13 _ ?_
      exact Sub.cons rfl (Sub.cons rfl (Sub.cons (lkv _ rfl (by first | exact andT h14 | exact andF h14 | exact orT h14 | exact orF h14 | exact nandF h14 | exact nandT h14 | exact norT h14 | exact norF h14 | (simp [h14]; done) | grind)) (Sub.nil _)))
    · refine Rn.v rfl rfl rfl rfl (V.fa Try.underlying77 rfl Try.sizeOf4 rfl rfl) (Rn.v rfl rfl rfl rfl (V.ldB Try.isAgg4 rfl (hm12.get 3 rfl) rfl) (Rn.v rfl rfl rfl rfl (V.notB rfl) (Rn.v rfl rfl rfl rfl (V.pkF rfl rfl) ?_)))
      refine hk13 _ ?_
      exact Sub.cons rfl (Sub.cons rfl (Sub.cons (lkv _ rfl (by first | exact andT h14 | exact andF h14 | exact orT h14 | exact orF h14 | exact nandF h14 | exact nandT h14 | exact norT h14 | exact norF h14 | (simp [h14]; done) | grind)) (Sub.nil _)))
  refine Rn.regEnd ?_
  refine Rn.condD rfl (fun h15 => ?_) (fun h15 => ?_)
  · replace hM := iteT h15 hM
    refine Rn.seq (Rn.reg (Rn.v rfl rfl rfl rfl (V.fa Try.underlying77 rfl Try.sizeOf32 rfl rfl) (Rn.v rfl rfl rfl rfl (V.ldB Try.isAgg32 rfl (hm12.get 3 rfl) rfl) (Rn.v rfl rfl rfl rfl (V.bldS st36 rfl rfl) (Rn.st rfl rfl Try.sizeOf36 rfl rfl rfl rfl (by first | exact ones rfl | (simp [Value.oneCell']; done)) (hm12.get 0 rfl) (by first | exact Nat.le_of_ble_eq_true rfl | (simp; done)) ?_)))))
    intro w16 m16 x16
    have hm17 : Hp Z0 (LS [T_limnographref18_Disk.obj F0 b0 x0]) w w16 [boxR b2 36 [.int .i64 (0), .bool false, .int .i64 (p5.1.E)], slR A5_0_0 c5_0_0 byteR p5.1.B, T_limnographref18_Disk.obj F5_p0 b0 p5.2, boxR b10 77 [.slice A5_0_0 (p5.1.B).length c5_0_0, .bool (p5.1.Is), .int .i64 (p5.1.E)]] := hm12.st 0 rfl x16 m16
    refine Rn.regEnd ?_
    refine Rn.retG1 Try.func9 rfl (rvC rfl Try.isAgg36 Try.sizeOf36 (hm17.get 0 rfl) rfl) ?_
    obtain rfl := someE hM
    exact ⟨F5_p0, rfl, hm17.pick [2] rfl (by decide)⟩
  · replace hM := iteF h15 hM
    refine Rn.skip (Rn.seq (Rn.reg (Rn.v rfl rfl rfl rfl (V.fa Try.underlying77 rfl Try.sizeOf22 rfl rfl) (Rn.v rfl rfl rfl rfl (V.ldB Try.isAgg22 rfl (hm12.get 3 rfl) rfl) ?_))))
    obtain ⟨p18, e18, hM⟩ := bindE hM
    refine Rn.cl ck27 rfl rfl rfl rfl (m_limnographref02_GetFix_sim (Z0 := All) _ A5_0_0 c5_0_0 p5.1.B 0 (slR_all (hm12.get 1 rfl)) e18) ?_
    rintro _ w18 ⟨rfl, hq18⟩
    refine ⟨_, rfl, ?_⟩
    have hm19 := hm12.call0 hq18
    refine Rn.als rfl rfl rfl Try.zeroValue80 rfl Try.sizeOf80 rfl rfl rfl rfl (by first | exact ones rfl | (simp [Value.oneCell']; done)) ?_
    intro b20 w20 hb20 m20 e20
    have hm22 : Hp Z0 (LS [T_limnographref18_Disk.obj F0 b0 x0]) w w20 [boxR b2 36 [.int .i64 (0), .bool false, .int .i64 (0)], slR A5_0_0 c5_0_0 byteR p5.1.B, T_limnographref18_Disk.obj F5_p0 b0 p5.2, boxR b10 77 [.slice A5_0_0 (p5.1.B).length c5_0_0, .bool (p5.1.Is), .int .i64 (p5.1.E)], boxR b20 80 [.int .u64 (((p18.V).toNat : Nat) : Int), .int .i64 (p18.N), .int .i64 (p18.E)]] := hm19.addBox hb20 e20 m20
    refine Rn.regEnd (Rn.seq (Rn.seq (Rn.reg (Rn.v rfl rfl rfl rfl (V.fa Try.underlying77 rfl Try.sizeOf22 rfl rfl) (Rn.v rfl rfl rfl rfl (V.ldB Try.isAgg22 rfl (hm22.get 3 rfl) rfl) (Rn.v rfl rfl rfl rfl (V.lenV Try.underlying22 rfl) (Rn.v rfl rfl rfl rfl (V.neq rfl rfl) (Rn.v rfl rfl rfl rfl (V.mv rfl) ?_))))))))
    refine Rn.cutR [] [(2, .pointer (some ⟨b2, 0, none⟩)), (4, .pointer (some ⟨b20, 0, none⟩)), (29, .bool (decide (((p5.1.B.length : Int) ≠ 8) ∨ (((p18.V).toNat : Int) > 4503599627370497))))] (fun hk23 => ?_) ?_
    · refine Rn.partD (t := 25) rfl (fun h24 => ?_) (fun h24 => ?_)
      · refine Rn.no rfl rfl rfl rfl (Rn.no rfl rfl rfl rfl (Rn.no rfl rfl rfl rfl (Rn.v rfl rfl rfl rfl (V.pkT rfl rfl) ?_)))
        refine hk23 _ ?_
        exact Sub.cons rfl (Sub.cons rfl (Sub.cons (lkv _ rfl (by first | exact andT h24 | exact andF h24 | exact orT h24 | exact orF h24 | exact nandF h24 | exact nandT h24 | exact norT h24 | exact norF h24 | (simp [h24]; done) | grind)) (Sub.nil _)))
      · refine Rn.v rfl rfl rfl rfl (V.fa Try.underlying80 rfl Try.sizeOf73 rfl rfl) (Rn.v rfl rfl rfl rfl (V.ldB Try.isAgg73 rfl (hm22.get 4 rfl) rfl) (Rn.v rfl rfl rfl rfl (V.gtr rfl rfl) (Rn.v rfl rfl rfl rfl (V.pkF rfl rfl) ?_)))
        refine hk23 _ ?_
        exact Sub.cons rfl (Sub.cons rfl (Sub.cons (lkv _ rfl (by first | exact andT h24 | exact andF h24 | exact orT h24 | exact orF h24 | exact nandF h24 | exact nandT h24 | exact norT h24 | exact norF h24 | (simp [h24]; done) | grind)) (Sub.nil _)))
    refine Rn.regEnd ?_
    refine Rn.condD rfl (fun h25 => ?_) (fun h25 => ?_)
    · replace hM := iteT h25 hM
      refine Rn.seq (Rn.reg (Rn.v rfl rfl rfl rfl (V.bldS st36 rfl rfl) (Rn.st rfl rfl Try.sizeOf36 rfl rfl rfl rfl (by first | exact ones rfl | (simp [Value.oneCell']; done)) (hm22.get 0 rfl) (by first | exact Nat.le_of_ble_eq_true rfl | (simp; done)) ?_)))
      intro w26 m26 x26
      have hm27 : Hp Z0 (LS [T_limnographref18_Disk.obj F0 b0 x0]) w w26 [boxR b2 36 [.int .i64 (0), .bool false, .int .i64 (15)], slR A5_0_0 c5_0_0 byteR p5.1.B, T_limnographref18_Disk.obj F5_p0 b0 p5.2, boxR b10 77 [.slice A5_0_0 (p5.1.B).length c5_0_0, .bool (p5.1.Is), .int .i64 (p5.1.E)], boxR b20 80 [.int .u64 (((p18.V).toNat : Nat) : Int), .int .i64 (p18.N), .int .i64 (p18.E)]] := hm22.st 0 rfl x26 m26
      refine Rn.regEnd ?_
      refine Rn.retG1 Try.func9 rfl (rvC rfl Try.isAgg36 Try.sizeOf36 (hm27.get 0 rfl) rfl) ?_
      obtain rfl := someE hM
      exact ⟨F5_p0, rfl, hm27.pick [2] rfl (by decide)⟩
    · replace hM := iteF h25 hM
      refine Rn.skip (Rn.seq (Rn.reg (Rn.v rfl rfl rfl rfl (V.fa Try.underlying80 rfl Try.sizeOf73 rfl rfl) (Rn.v rfl rfl rfl rfl (V.ldB Try.isAgg73 rfl (hm22.get 4 rfl) rfl) (Rn.v rfl rfl rfl rfl (V.cvW Try.underlying73 Try.underlying3 rfl) (Rn.v rfl rfl rfl rfl (V.bldS st36 rfl rfl) (Rn.st rfl rfl Try.sizeOf36 rfl rfl rfl rfl (by first | exact ones rfl | (simp [Value.oneCell']; done)) (hm22.get 0 rfl) (by first | exact Nat.le_of_ble_eq_true rfl | (simp; done)) ?_)))))))
      intro w28 m28 x28
      have hm29 : Hp Z0 (LS [T_limnographref18_Disk.obj F0 b0 x0]) w w28 [boxR b2 36 [.int .i64 (W64 ((p18.V).toNat : Int)), .bool false, .int .i64 (0)], slR A5_0_0 c5_0_0 byteR p5.1.B, T_limnographref18_Disk.obj F5_p0 b0 p5.2, boxR b10 77 [.slice A5_0_0 (p5.1.B).length c5_0_0, .bool (p5.1.Is), .int .i64 (p5.1.E)], boxR b20 80 [.int .u64 (((p18.V).toNat : Nat) : Int), .int .i64 (p18.N), .int .i64 (p18.E)]] := hm22.st 0 rfl x28 m28
      refine Rn.regEnd ?_
      refine Rn.retG1 Try.func9 rfl (rvC rfl Try.isAgg36 Try.sizeOf36 (hm29.get 0 rfl) rfl) ?_
      obtain rfl := someE hM
      exact ⟨F5_p0, rfl, hm29.pick [2] rfl (by decide)⟩

set_option maxRecDepth 20000 in
theorem m_limnographlaw25_ShipOpens_sim {Z0 : Nat → Prop} (w : World) (A0 : Option Addr) (c0 : Nat) (x0 : (List UInt8)) {r : Bool} (f0 : (slR A0 c0 byteR x0).H Z0 w) (hM : m_limnographlaw25_ShipOpens x0 = some r) :
    Calls Try.prog 3 #[.slice A0 (x0).length c0] w fun x w' => x = .returned (.bool (r)) ∧ Hp Z0 No w w' [] := by
  have hm0 := Hp.nil Z0 No w
  have hc0 := Calm.nil
  have hm2 := hm0.know (slR A0 c0 byteR x0) (fun _ h => h) (hm0.in0 hc0 f0)
  replace hc0 := hc0.snoc (r := slR A0 c0 byteR x0) (fun _ h => h)
  refine Rn.enter Try.func3 rfl rfl (Nat.le_of_ble_eq_true rfl) ?_
  refine Rn.seq (Rn.reg (Rn.v rfl rfl rfl rfl (V.as rfl) (Rn.regEnd (Rn.seq (Rn.seq (Rn.reg ?_))))))
  obtain ⟨p3, e3, hM⟩ := bindE hM
  refine Rn.cl ck5 rfl rfl rfl rfl (m_limnographlaw25_awake_sim (Z0 := All) _   e3) ?_
  rintro _ w3 ⟨rfl, hq3⟩
  refine ⟨_, rfl, ?_⟩
  have hm4 := hm2.call0 hq3
  refine Rn.v rfl rfl rfl rfl (V.notB rfl) (Rn.regEnd ?_)
  refine Rn.condS rfl (fun h5 => ?_) (fun h5 => ?_)
  · replace hM := iteT h5 hM
    refine Rn.seq (Rn.reg (Rn.v rfl rfl rfl rfl (V.as rfl) (Rn.regEnd ?_)))
    refine Rn.retG1 Try.func3 rfl (rvT rfl) ?_
    obtain rfl := someE hM
    exact ⟨rfl, hm4.pick [] rfl (by decide)⟩
  · replace hM := iteF (by rw [h5]; exact Bool.false_ne_true) hM
    refine Rn.skip (Rn.seq (Rn.seq (Rn.reg (Rn.v rfl rfl rfl rfl (V.mv rfl) (Rn.v rfl rfl rfl rfl (V.lenV Try.underlying22 rfl) (Rn.v rfl rfl rfl rfl (V.gtr rfl rfl) (Rn.regEnd ?_)))))))
    refine Rn.condD rfl (fun h6 => ?_) (fun h6 => ?_)
    · replace hM := iteT h6 hM
      refine Rn.seq (Rn.reg (Rn.v rfl rfl rfl rfl (V.as rfl) (Rn.regEnd ?_)))
      refine Rn.retG1 Try.func3 rfl (rvT rfl) ?_
      obtain rfl := someE hM
      exact ⟨rfl, hm4.pick [] rfl (by decide)⟩
    · replace hM := iteF h6 hM
      refine Rn.skip (Rn.seq (Rn.reg (Rn.v rfl rfl rfl rfl (V.mv rfl) (Rn.v rfl rfl rfl rfl (V.bldS st25 rfl rfl) (Rn.bslS rfl rfl rfl Try.underlying26 el25 rfl rfl rfl rfl (by first | exact szs rfl | (simp [Value.cells]; done)) (by decide) ?_)))))
      intro b7 w7 hb7 m7 e7
      have hm8 := hm4.addLitZ (rep := T_api_File.rep) (xs := ([({ Name := ([97, 99, 107] : List UInt8), Data := x0 } : T_api_File)] : List T_api_File)) (vss := [[Str (([97, 99, 107] : List UInt8)), .slice A0 (x0).length c0]]) hb7 e7 m7 rfl rfl rfl ((relz_cons (show T_api_File.rep.rel _ _ _ _ from ⟨_, _, rfl, ⟨rfl, trivial⟩, ⟨_, _, rfl, (hm4.get 0 rfl).1, (hm4.get 0 rfl).2.1, (hm4.get 0 rfl).2.2⟩⟩) relz0))
      refine Rn.v rfl rfl rfl rfl (V.as rfl) (Rn.regEnd (Rn.seq (Rn.reg (Rn.v rfl rfl rfl rfl (V.mv rfl) ?_))))
      have hm12 := hm8.freeze 1 rfl
      obtain ⟨p10, e10, hM⟩ := bindE hM
      refine Rn.cl ck6 rfl rfl rfl rfl (m_disk_New_sim (Z0 := Zo Z0 No w [slR A0 c0 byteR x0, slR (some ⟨b7, 0, none⟩) 1 T_api_File.rep ([({ Name := ([97, 99, 107] : List UInt8), Data := x0 } : T_api_File)] : List T_api_File)]) _ (some ⟨b7, 0, none⟩) 1 ([({ Name := ([97, 99, 107] : List UInt8), Data := x0 } : T_api_File)] : List T_api_File) 1000 (hm12.get 1 rfl) e10) ?_
      rintro _ w10 ⟨F10_0, b10_0, rfl, hq10⟩
      refine ⟨_, rfl, ?_⟩
      have hm14 : Hp Z0 No w w10 [slR A0 c0 byteR x0, slR (some ⟨b7, 0, none⟩) 1 T_api_File.rep ([({ Name := ([97, 99, 107] : List UInt8), Data := x0 } : T_api_File)] : List T_api_File), optR p10 (fun z => diskO 54 59 5 F10_0 b10_0 z)] := hm12.callZ hq10
      refine Rn.v rfl rfl rfl rfl (V.as rfl) (Rn.regEnd (Rn.seq (Rn.reg (Rn.v rfl rfl rfl rfl (V.mv rfl) ?_))))
      obtain ⟨p15, e15, hM⟩ := bindE hM
      refine Rn.cl ck7 rfl rfl rfl rfl (m_limnographref18_New_sim (Z0 := Zo Z0 No w [slR A0 c0 byteR x0, slR (some ⟨b7, 0, none⟩) 1 T_api_File.rep ([({ Name := ([97, 99, 107] : List UInt8), Data := x0 } : T_api_File)] : List T_api_File), optR p10 (fun z => diskO 54 59 5 F10_0 b10_0 z)]) _ (some ⟨b7, 0, none⟩) 1 ([({ Name := ([97, 99, 107] : List UInt8), Data := x0 } : T_api_File)] : List T_api_File) 1000 (hm14.get 1 rfl) e15) ?_
      rintro _ w15 ⟨F15_0, b15_0, rfl, hq15⟩
      refine ⟨_, rfl, ?_⟩
      have hm17 : Hp Z0 No w w15 [slR A0 c0 byteR x0, slR (some ⟨b7, 0, none⟩) 1 T_api_File.rep ([({ Name := ([97, 99, 107] : List UInt8), Data := x0 } : T_api_File)] : List T_api_File), optR p10 (fun z => diskO 54 59 5 F10_0 b10_0 z), optR p15 (fun z => T_limnographref18_Disk.obj F15_0 b15_0 z)] := hm14.callZ hq15
      refine Rn.v rfl rfl rfl rfl (V.as rfl) (Rn.regEnd (Rn.seq (Rn.seq (Rn.reg (Rn.v rfl rfl rfl rfl (V.mv rfl) (Rn.v rfl rfl rfl rfl (V.eqlO Try.underlying27 rfl rfl) (Rn.v rfl rfl rfl rfl (V.mv rfl) ?_)))))))
      obtain ⟨j1, hj1, hM⟩ := jnE hM
      refine Rn.joinR (r := r) (G := Bool) [] (fun g => [(4, .pointer (optP b10_0 p10)), (5, .pointer (optP b15_0 p15)), (26, .bool (g))]) (fun g w' => Hp Z0 No w w' [slR A0 c0 byteR x0, slR (some ⟨b7, 0, none⟩) 1 T_api_File.rep ([({ Name := ([97, 99, 107] : List UInt8), Data := x0 } : T_api_File)] : List T_api_File), optR p10 (fun z => diskO 54 59 5 F10_0 b10_0 z), optR p15 (fun z => T_limnographref18_Disk.obj F15_0 b15_0 z)]) (fun g => j1 g) ?_ ?_
      · subst hj1
        clear hM
        rintro y18 w19 hm19 hM
        replace hm19 : Hp Z0 No w w19 [slR A0 c0 byteR x0, slR (some ⟨b7, 0, none⟩) 1 T_api_File.rep ([({ Name := ([97, 99, 107] : List UInt8), Data := x0 } : T_api_File)] : List T_api_File), optR p10 (fun z => diskO 54 59 5 F10_0 b10_0 z), optR p15 (fun z => T_limnographref18_Disk.obj F15_0 b15_0 z)] := hm19
        show Rn _ _ _ _ _ [(4, .pointer (optP b10_0 p10)), (5, .pointer (optP b15_0 p15)), (26, .bool (y18))] _
        try dsimp only at hM
        refine Rn.regEnd ?_
        refine Rn.condS rfl (fun h20 => ?_) (fun h20 => ?_)
        · replace hM := iteT h20 hM
          refine Rn.seq (Rn.reg (Rn.v rfl rfl rfl rfl (V.as rfl) (Rn.regEnd ?_)))
          refine Rn.retG1 Try.func3 rfl (rvT rfl) ?_
          obtain rfl := someE hM
          exact ⟨rfl, hm19.pick [] rfl (by decide)⟩
        · replace hM := iteF (by rw [h20]; exact Bool.false_ne_true) hM
          refine Rn.skip (Rn.seq (Rn.reg (Rn.v rfl rfl rfl rfl (V.mv rfl) ?_)))
          obtain ⟨z22, e22, hM⟩ := bindE hM
          have hm23 : Hp Z0 No w w19 [slR A0 c0 byteR x0, slR (some ⟨b7, 0, none⟩) 1 T_api_File.rep ([({ Name := ([97, 99, 107] : List UInt8), Data := x0 } : T_api_File)] : List T_api_File), diskO 54 59 5 F10_0 b10_0 z22, optR p15 (fun z => T_limnographref18_Disk.obj F15_0 b15_0 z)] := hm19.optSome 2 rfl e22
          refine Rn.say (t := 28) (.pointer (some ⟨b10_0, 0, none⟩)) rfl (by rw [e22]; rfl) ?_
          obtain ⟨p21, e21, hM⟩ := bindE hM
          have hm24 : Hp Z0 No w w19 ([slR A0 c0 byteR x0, slR (some ⟨b7, 0, none⟩) 1 T_api_File.rep ([({ Name := ([97, 99, 107] : List UInt8), Data := x0 } : T_api_File)] : List T_api_File), optR p15 (fun z => T_limnographref18_Disk.obj F15_0 b15_0 z)] ++ [diskO 54 59 5 F10_0 b10_0 z22]) := hm23.pick [0, 1, 3, 2] rfl (by decide)
          refine Rn.cl ck8 rfl rfl rfl rfl (m_ship_Open_sim (Z0 := _) _ F10_0 b10_0 z22 hm24.lend e21) ?_
          rintro _ w21 ⟨F21_0, b21_0, F21_p0, rfl, hq21⟩
          refine ⟨_, rfl, ?_⟩
          have hm27 : Hp Z0 No w w21 [slR A0 c0 byteR x0, slR (some ⟨b7, 0, none⟩) 1 T_api_File.rep ([({ Name := ([97, 99, 107] : List UInt8), Data := x0 } : T_api_File)] : List T_api_File), optR p15 (fun z => T_limnographref18_Disk.obj F15_0 b15_0 z), optR p21.1 (fun z => T_ship_Sender.obj F21_0 b21_0 b10_0 z), diskO 54 59 5 F21_p0 b10_0 p21.2.2] := hm24.callAZ hq21
          refine Rn.v rfl rfl rfl rfl (V.mv rfl) (Rn.v rfl rfl rfl rfl (V.ext rfl rfl) (Rn.v rfl rfl rfl rfl (V.ext rfl rfl) (Rn.v rfl rfl rfl rfl (V.as rfl) (Rn.v rfl rfl rfl rfl (V.as rfl) (Rn.regEnd (Rn.seq (Rn.reg (Rn.v rfl rfl rfl rfl (V.mv rfl) ?_))))))))
          obtain ⟨z29, e29, hM⟩ := bindE hM
          have hm30 : Hp Z0 No w w21 [slR A0 c0 byteR x0, slR (some ⟨b7, 0, none⟩) 1 T_api_File.rep ([({ Name := ([97, 99, 107] : List UInt8), Data := x0 } : T_api_File)] : List T_api_File), T_limnographref18_Disk.obj F15_0 b15_0 z29, optR p21.1 (fun z => T_ship_Sender.obj F21_0 b21_0 b10_0 z), diskO 54 59 5 F21_p0 b10_0 p21.2.2] := hm27.optSome 2 rfl e29
          refine Rn.say (t := 32) (.pointer (some ⟨b15_0, 0, none⟩)) rfl (by rw [e29]; rfl) ?_
          obtain ⟨p28, e28, hM⟩ := bindE hM
          have hm31 : Hp Z0 No w w21 ([slR A0 c0 byteR x0, slR (some ⟨b7, 0, none⟩) 1 T_api_File.rep ([({ Name := ([97, 99, 107] : List UInt8), Data := x0 } : T_api_File)] : List T_api_File), optR p21.1 (fun z => T_ship_Sender.obj F21_0 b21_0 b10_0 z), diskO 54 59 5 F21_p0 b10_0 p21.2.2] ++ [T_limnographref18_Disk.obj F15_0 b15_0 z29]) := hm30.pick [0, 1, 3, 4, 2] rfl (by decide)
          refine Rn.cl ck9 rfl rfl rfl rfl (m_limnographref25_Open_sim (Z0 := _) _ F15_0 b15_0 z29 hm31.lend e28) ?_
          rintro _ w28 ⟨F28_p0, rfl, hq28⟩
          refine ⟨_, rfl, ?_⟩
          have hm33 : Hp Z0 No w w28 [slR A0 c0 byteR x0, slR (some ⟨b7, 0, none⟩) 1 T_api_File.rep ([({ Name := ([97, 99, 107] : List UInt8), Data := x0 } : T_api_File)] : List T_api_File), optR p21.1 (fun z => T_ship_Sender.obj F21_0 b21_0 b10_0 z), diskO 54 59 5 F21_p0 b10_0 p21.2.2, T_limnographref18_Disk.obj F28_p0 b15_0 p28.2] := hm31.callAZ hq28
          refine Rn.als rfl rfl rfl Try.zeroValue36 rfl Try.sizeOf36 rfl rfl rfl rfl (by first | exact ones rfl | (simp [Value.oneCell']; done)) ?_
          intro b34 w34 hb34 m34 e34
          have hm36 : Hp Z0 No w w34 [slR A0 c0 byteR x0, slR (some ⟨b7, 0, none⟩) 1 T_api_File.rep ([({ Name := ([97, 99, 107] : List UInt8), Data := x0 } : T_api_File)] : List T_api_File), optR p21.1 (fun z => T_ship_Sender.obj F21_0 b21_0 b10_0 z), diskO 54 59 5 F21_p0 b10_0 p21.2.2, T_limnographref18_Disk.obj F28_p0 b15_0 p28.2, boxR b34 36 [.int .i64 (p28.1.Ack), .bool (p28.1.Is), .int .i64 (p28.1.E)]] := hm33.addBox hb34 e34 m34
          refine Rn.regEnd (Rn.seq ?_)
          refine Rn.drawH rfl hm36 ?_
          intro w37 hm37
          refine RH.take 0 (by kernel_rfl) rfl rfl rfl rfl (fun w' hDr => V.mv rfl) ?_
          refine RH.here fun hS1 => RH.one 1 (by kernel_rfl) rfl rfl rfl rfl (V.fa Try.underlying36 rfl Try.sizeOf32 rfl rfl) hS1 ?_
          refine RH.here fun hS2 => RH.one 2 (by kernel_rfl) rfl rfl rfl rfl (V.ldB Try.isAgg32 rfl (hm37.get 5 rfl) rfl) hS2 ?_
          refine RH.here fun hS3 => RH.one 3 (by kernel_rfl) rfl rfl rfl rfl (V.eql rfl rfl) hS3 ?_
          refine RH.here fun hS4 => RH.one 4 (by kernel_rfl) rfl rfl rfl rfl (V.mv rfl) hS4 ?_
          refine RH.partD (t := 38) rfl (fun h38 => ?_) (fun h38 => ?_)
          · replace hM := iteT h38 hM
            refine RH.take 5 (by kernel_rfl) rfl rfl rfl rfl (fun w' hDr => V.mv rfl) ?_
            refine RH.take 6 (by kernel_rfl) rfl rfl rfl rfl (fun w' hDr => V.eqlO Try.underlying31 rfl rfl) ?_
            refine RH.here fun hS7 => RH.one 7 (by kernel_rfl) rfl rfl rfl rfl (V.mv rfl) hS7 ?_
            refine RH.here fun hS8 => RH.one 8 (by kernel_rfl) rfl rfl rfl rfl (V.neq rfl rfl) hS8 ?_
            refine RH.here fun hS9 => RH.one 9 (by kernel_rfl) rfl rfl rfl rfl (V.eqlB Try.underlying4 rfl rfl) hS9 ?_
            refine RH.here fun hS10 => RH.one 10 (by kernel_rfl) rfl rfl rfl rfl (V.pkT rfl rfl) hS10 ?_
            refine RH.here fun hS11 => RH.one 11 (by kernel_rfl) rfl rfl rfl rfl (V.mv rfl) hS11 ?_
            refine RH.partD (t := 45) rfl (fun h39 => ?_) (fun h39 => ?_)
            · replace hM := iteT h39 hM
              refine RH.here fun hS12 => RH.one 12 (by kernel_rfl) rfl rfl rfl rfl (V.mv rfl) hS12 ?_
              refine RH.here fun hS13 => RH.one 13 (by kernel_rfl) rfl rfl rfl rfl (V.eqlO Try.underlying31 rfl rfl) hS13 ?_
              refine RH.here fun hS14 => RH.one 14 (by kernel_rfl) rfl rfl rfl rfl (V.mv rfl) hS14 ?_
              refine RH.part (t := 48) rfl (fun h40 => ?_) (fun h40 => ?_)
              · replace hM := iteT h40 hM
                refine RH.no 15 (by kernel_rfl) rfl rfl rfl rfl ?_
                refine RH.no 16 (by kernel_rfl) rfl rfl rfl rfl ?_
                refine RH.no 17 (by kernel_rfl) rfl rfl rfl rfl ?_
                refine RH.no 18 (by kernel_rfl) rfl rfl rfl rfl ?_
                refine RH.no 19 (by kernel_rfl) rfl rfl rfl rfl ?_
                refine RH.here fun hS20 => RH.one 20 (by kernel_rfl) rfl rfl rfl rfl (V.pkT rfl rfl) hS20 ?_
                refine RH.here fun hS21 => RH.one 21 (by kernel_rfl) rfl rfl rfl rfl (V.pkT rfl rfl) hS21 ?_
                refine RH.here fun hS22 => RH.one 22 (by kernel_rfl) rfl rfl rfl rfl (V.as rfl) hS22 ?_
                refine RH.doneP (by kernel_rfl) ?_
                refine Rn.retG1 Try.func3 rfl (rvT rfl) ?_
                obtain rfl := someE hM
                exact ⟨rfl, hm37.pick [] rfl (by decide)⟩
              · replace hM := iteF (by rw [h40]; exact Bool.false_ne_true) hM
                refine RH.take 15 (by kernel_rfl) rfl rfl rfl rfl (fun w' hDr => V.mv rfl) ?_
                refine RH.take 17 (by kernel_rfl) rfl rfl rfl rfl (fun w' hDr => V.fa Try.underlying36 rfl Try.sizeOf3 rfl rfl) ?_
                refine RH.take 18 (by kernel_rfl) rfl rfl rfl rfl (fun w' hDr => V.ldB Try.isAgg3 rfl ((hm37.ext hDr).get 5 rfl) rfl) ?_
                obtain ⟨z42, e42, hM⟩ := bindE hM
                have hm43 : Hp Z0 No w w37 [slR A0 c0 byteR x0, slR (some ⟨b7, 0, none⟩) 1 T_api_File.rep ([({ Name := ([97, 99, 107] : List UInt8), Data := x0 } : T_api_File)] : List T_api_File), T_ship_Sender.obj F21_0 b21_0 b10_0 z42, diskO 54 59 5 F21_p0 b10_0 p21.2.2, T_limnographref18_Disk.obj F28_p0 b15_0 p28.2, boxR b34 36 [.int .i64 (p28.1.Ack), .bool (p28.1.Is), .int .i64 (p28.1.E)]] := hm37.optSome 2 rfl e42
                refine RH.say (t := 49) (.pointer (some ⟨b21_0, 0, none⟩)) rfl (by rw [e42]; rfl) ?_
                obtain ⟨p41, e41, hM⟩ := bindE hM
                refine RH.cl ck10 16 (by kernel_rfl) rfl rfl rfl rfl (m_ship_Sender_Ack_sim (Z0 := All) _ F21_0 b21_0 z42 F21_p0 b10_0 p21.2.2 (fz_all (hm43.get 2 rfl)) (fz_all (hm43.get 3 rfl)) e41) ?_
                rintro _ w41 ⟨rfl, hq41⟩
                refine ⟨_, rfl, ((Ext.refl _).trans hq41.fr), ?_⟩
                have hm44 := hm43.call0 hq41
                refine RH.here fun hS19 => RH.one 19 (by kernel_rfl) rfl rfl rfl rfl (V.eql rfl rfl) hS19 ?_
                refine RH.here fun hS20 => RH.one 20 (by kernel_rfl) rfl rfl rfl rfl (V.pkF rfl rfl) hS20 ?_
                refine RH.here fun hS21 => RH.one 21 (by kernel_rfl) rfl rfl rfl rfl (V.pkT rfl rfl) hS21 ?_
                refine RH.here fun hS22 => RH.one 22 (by kernel_rfl) rfl rfl rfl rfl (V.as rfl) hS22 ?_
                refine RH.doneP (by kernel_rfl) ?_
                refine Rn.retG1 Try.func3 rfl (rvT rfl) ?_
                obtain rfl := someE hM
                exact ⟨rfl, hm44.pick [] rfl (by decide)⟩
            · replace hM := iteF h39 hM
              refine RH.no 12 (by kernel_rfl) rfl rfl rfl rfl ?_
              refine RH.no 13 (by kernel_rfl) rfl rfl rfl rfl ?_
              refine RH.no 14 (by kernel_rfl) rfl rfl rfl rfl ?_
              refine RH.no 15 (by kernel_rfl) rfl rfl rfl rfl ?_
              refine RH.no 16 (by kernel_rfl) rfl rfl rfl rfl ?_
              refine RH.no 17 (by kernel_rfl) rfl rfl rfl rfl ?_
              refine RH.no 18 (by kernel_rfl) rfl rfl rfl rfl ?_
              refine RH.no 19 (by kernel_rfl) rfl rfl rfl rfl ?_
              refine RH.no 20 (by kernel_rfl) rfl rfl rfl rfl ?_
              refine RH.here fun hS21 => RH.one 21 (by kernel_rfl) rfl rfl rfl rfl (V.pkF rfl rfl) hS21 ?_
              refine RH.here fun hS22 => RH.one 22 (by kernel_rfl) rfl rfl rfl rfl (V.as rfl) hS22 ?_
              refine RH.doneP (by kernel_rfl) ?_
              refine Rn.retG1 Try.func3 rfl (rvT rfl) ?_
              obtain rfl := someE hM
              exact ⟨rfl, hm37.pick [] rfl (by decide)⟩
          · replace hM := iteF h38 hM
            refine RH.no 5 (by kernel_rfl) rfl rfl rfl rfl ?_
            refine RH.no 6 (by kernel_rfl) rfl rfl rfl rfl ?_
            refine RH.no 7 (by kernel_rfl) rfl rfl rfl rfl ?_
            refine RH.no 8 (by kernel_rfl) rfl rfl rfl rfl ?_
            refine RH.no 9 (by kernel_rfl) rfl rfl rfl rfl ?_
            refine RH.here fun hS10 => RH.one 10 (by kernel_rfl) rfl rfl rfl rfl (V.pkF rfl rfl) hS10 ?_
            refine RH.here fun hS11 => RH.one 11 (by kernel_rfl) rfl rfl rfl rfl (V.mv rfl) hS11 ?_
            refine RH.no 12 (by kernel_rfl) rfl rfl rfl rfl ?_
            refine RH.no 13 (by kernel_rfl) rfl rfl rfl rfl ?_
            refine RH.no 14 (by kernel_rfl) rfl rfl rfl rfl ?_
            refine RH.no 15 (by kernel_rfl) rfl rfl rfl rfl ?_
            refine RH.no 16 (by kernel_rfl) rfl rfl rfl rfl ?_
            refine RH.no 17 (by kernel_rfl) rfl rfl rfl rfl ?_
            refine RH.no 18 (by kernel_rfl) rfl rfl rfl rfl ?_
            refine RH.no 19 (by kernel_rfl) rfl rfl rfl rfl ?_
            refine RH.no 20 (by kernel_rfl) rfl rfl rfl rfl ?_
            refine RH.here fun hS21 => RH.one 21 (by kernel_rfl) rfl rfl rfl rfl (V.pkF rfl rfl) hS21 ?_
            refine RH.here fun hS22 => RH.one 22 (by kernel_rfl) rfl rfl rfl rfl (V.as rfl) hS22 ?_
            refine RH.doneP (by kernel_rfl) ?_
            refine Rn.retG1 Try.func3 rfl (rvT rfl) ?_
            obtain rfl := someE hM
            exact ⟨rfl, hm37.pick [] rfl (by decide)⟩
      intro hk1
      clear hj1
      refine Rn.part (t := 23) rfl (fun h45 => ?_) (fun h45 => ?_)
      · replace hM := iteT h45 hM
        refine Rn.no rfl rfl rfl rfl (Rn.no rfl rfl rfl rfl (Rn.v rfl rfl rfl rfl (V.pkT rfl rfl) ?_))
        exact hk1 true _ _ (Sub.cons rfl (Sub.cons rfl (Sub.cons rfl (Sub.nil _)))) (hm17.pick [0, 1, 2, 3] rfl (by decide)) hM
      · replace hM := iteF (by rw [h45]; exact Bool.false_ne_true) hM
        refine Rn.v rfl rfl rfl rfl (V.mv rfl) (Rn.v rfl rfl rfl rfl (V.eqlO Try.underlying29 rfl rfl) (Rn.v rfl rfl rfl rfl (V.pkF rfl rfl) ?_))
        exact hk1 ((p15).isNone) _ _ (Sub.cons rfl (Sub.cons rfl (Sub.cons rfl (Sub.nil _)))) (hm17.pick [0, 1, 2, 3] rfl (by decide)) hM

set_option maxRecDepth 20000 in
theorem m_ship_Sender_Due_sim {Z0 : Nat → Prop} (w : World) (F0 : Nat → Prop) (b0 : Nat) (x0 : T_ship_Sender) (A1 : Option Addr) (c1 : Nat) (x1 : (List T_api_Span)) (x2 : Int) (FD : Nat → Prop) (bD : Nat) (xD : PD) {r : (List T_api_Span)} (f0 : (fzR (T_ship_Sender.obj F0 b0 bD x0)).H Z0 w) (f1 : (slR A1 c1 T_api_Span.rep x1).H Z0 w) (f2 : (fzR (diskO 54 59 5 FD bD xD)).H Z0 w) (hM : m_ship_Sender_Due x0 x1 x2 xD = some r) :
    Calls Try.prog 13 #[.pointer (some ⟨b0, 0, none⟩), .slice A1 (x1).length c1, .int .i64 (x2)] w fun x w' => ∃ A_0_0 c_0_0, x = .returned (.slice A_0_0 (r).length c_0_0) ∧ Hp Z0 No w w' [ownR 44 A_0_0 c_0_0 T_api_Span.rep r] := by
  have hm0 := Hp.nil Z0 No w
  have hc0 := Calm.nil
  have hm3 := hm0.know (fzR (T_ship_Sender.obj F0 b0 bD x0)) (fun _ h => h) (hm0.in0 hc0 f0)
  replace hc0 := hc0.snoc (r := fzR (T_ship_Sender.obj F0 b0 bD x0)) (fun _ h => h)
  have hm4 := hm3.know (slR A1 c1 T_api_Span.rep x1) (fun _ h => h) (hm3.in0 hc0 f1)
  replace hc0 := hc0.snoc (r := slR A1 c1 T_api_Span.rep x1) (fun _ h => h)
  have hm5 := hm4.know (fzR (diskO 54 59 5 FD bD xD)) (fun _ h => h) (hm4.in0 hc0 f2)
  replace hc0 := hc0.snoc (r := fzR (diskO 54 59 5 FD bD xD)) (fun _ h => h)
  refine Rn.enter Try.func13 rfl rfl (Nat.le_of_ble_eq_true rfl) ?_
  refine Rn.seq (Rn.reg (Rn.v rfl rfl rfl rfl (V.as rfl) (Rn.regEnd (Rn.seq (Rn.reg (Rn.v rfl rfl rfl rfl (V.as rfl) (Rn.regEnd (Rn.seq (Rn.seq (Rn.reg (Rn.v rfl rfl rfl rfl (V.mv rfl) (Rn.v rfl rfl rfl rfl (V.lenV Try.underlying40 rfl) (Rn.v rfl rfl rfl rfl (V.mv rfl) (Rn.regEnd ?_))))))))))))))
  obtain ⟨j1, hj1, hM⟩ := jnE hM
  refine Rn.joinG (r := r) (G := (List T_api_Span) × Option Addr × Nat) (fun g => [(7, .slice (g.2.1) ((g.1)).length (g.2.2))]) (fun g w' => Hp Z0 No w w' [fzR (T_ship_Sender.obj F0 b0 bD x0), slR A1 c1 T_api_Span.rep x1, fzR (diskO 54 59 5 FD bD xD), ownR 44 (g.2.1) (g.2.2) T_api_Span.rep (g.1)]) (fun g => j1 g.1) ?_ ?_
  · subst hj1
    clear hM
    rintro ⟨y6, A7, c7⟩ w9 hm9 hM
    replace hm9 : Hp Z0 No w w9 [fzR (T_ship_Sender.obj F0 b0 bD x0), slR A1 c1 T_api_Span.rep x1, fzR (diskO 54 59 5 FD bD xD), ownR 44 A7 c7 T_api_Span.rep y6] := hm9
    show Rn _ _ _ _ _ [(7, .slice A7 (y6).length c7)] _
    try dsimp only at hM
    refine Rn.seq (Rn.reg (Rn.v rfl rfl rfl rfl (V.mv rfl) (Rn.v rfl rfl rfl rfl (V.as rfl) (Rn.regEnd ?_))))
    refine Rn.retG1 Try.func13 rfl (rvT rfl) ?_
    obtain rfl := someE hM
    exact ⟨A7, c7, rfl, hm9.pick [3] rfl (by decide)⟩
  intro hk1
  clear hj1
  refine Rn.block ?_
  have hm14 := hm5.addNil 44 T_api_Span.rep
  refine Rn.loopF (G := (List T_api_Span) × Int × Option Addr × Nat) (fun g => [(0, .pointer (some ⟨b0, 0, none⟩)), (2, .int .i64 (x2)), (7, .slice (g.2.2.1) ((g.1)).length (g.2.2.2)), (10, .slice A1 (x1).length c1), (11, .int .i64 ((x1.length : Int))), (12, .int .i64 ((g.2.1)))]) (fun g w' => Hp Z0 No w w' [fzR (T_ship_Sender.obj F0 b0 bD x0), slR A1 c1 T_api_Span.rep x1, fzR (diskO 54 59 5 FD bD xD), ownR 44 (g.2.2.1) (g.2.2.2) T_api_Span.rep (g.1)]) (fun n g => m_ship_Sender_Due_L1 x0 x1 x2 j1 n g.1 g.2.1) fuel (([] : List T_api_Span), 0, none, 0) (Sub.cons rfl (Sub.cons rfl (Sub.cons rfl (Sub.cons rfl (Sub.cons rfl (Sub.cons rfl (Sub.nil _))))))) (hm14.pick [0, 1, 2, 3] rfl (by decide)) hM (fun _ => rfl) ?_
  clear hM
  rintro m16 ⟨y10, y13, A11, c11⟩ w16 hm16 hM hn16
  replace hm16 : Hp Z0 No w w16 [fzR (T_ship_Sender.obj F0 b0 bD x0), slR A1 c1 T_api_Span.rep x1, fzR (diskO 54 59 5 FD bD xD), ownR 44 A11 c11 T_api_Span.rep y10] := hm16
  show Rn _ _ _ _ _ [(0, .pointer (some ⟨b0, 0, none⟩)), (2, .int .i64 (x2)), (7, .slice A11 (y10).length c11), (10, .slice A1 (x1).length c1), (11, .int .i64 ((x1.length : Int))), (12, .int .i64 (y13))] _
  replace hM : m_ship_Sender_Due_L1 x0 x1 x2 j1 (m16 + 1) y10 y13 = some r := hM
  rw [m_ship_Sender_Due_L1] at hM
  refine Rn.seq (Rn.reg (Rn.v rfl rfl rfl rfl (V.lss rfl rfl) (Rn.regEnd (Rn.seq ?_))))
  refine Rn.condD rfl (fun h17 => ?_) (fun h17 => ?_)
  · replace hM := iteT h17 hM
    refine Rn.skip (Rn.seq ?_)
    obtain ⟨j2, hj2, hM⟩ := jnE hM
    refine Rn.joinG (r := r) (G := (List T_api_Span) × Option Addr × Nat) (fun g => [(0, .pointer (some ⟨b0, 0, none⟩)), (2, .int .i64 (x2)), (7, .slice (g.2.1) ((g.1)).length (g.2.2)), (10, .slice A1 (x1).length c1), (11, .int .i64 ((x1.length : Int))), (12, .int .i64 (y13))]) (fun g w' => Hp Z0 No w w' [fzR (T_ship_Sender.obj F0 b0 bD x0), slR A1 c1 T_api_Span.rep x1, fzR (diskO 54 59 5 FD bD xD), ownR 44 (g.2.1) (g.2.2) T_api_Span.rep (g.1)]) (fun g => j2 g.1) ?_ ?_
    · subst hj2
      clear hM
      rintro ⟨y18, A19, c19⟩ w21 hm21 hM
      replace hm21 : Hp Z0 No w w21 [fzR (T_ship_Sender.obj F0 b0 bD x0), slR A1 c1 T_api_Span.rep x1, fzR (diskO 54 59 5 FD bD xD), ownR 44 A19 c19 T_api_Span.rep y18] := hm21
      show Rn _ _ _ _ _ [(0, .pointer (some ⟨b0, 0, none⟩)), (2, .int .i64 (x2)), (7, .slice A19 (y18).length c19), (10, .slice A1 (x1).length c1), (11, .int .i64 ((x1.length : Int))), (12, .int .i64 (y13))] _
      try dsimp only at hM
      refine Rn.reg (Rn.v rfl rfl rfl rfl (V.addW rfl rfl) (Rn.v rfl rfl rfl rfl (V.mv rfl) (Rn.regEnd ?_)))
      exact hn16 (y18, (W64 (y13 + 1)), A19, c19) _ _ (Sub.cons rfl (Sub.cons rfl (Sub.cons rfl (Sub.cons rfl (Sub.cons rfl (Sub.cons rfl (Sub.nil _))))))) (hm21.pick [0, 1, 2, 3] rfl (by decide)) hM
    intro hk2
    clear hj2
    refine Rn.block (Rn.seq (Rn.reg ?_))
    obtain ⟨z22, e22, hM⟩ := bindE hM
    refine Rn.ixH hm16 1 rfl e22 rfl rfl rfl Try.underlying40 Try.sizeOf44 rfl rfl rfl rfl ?_
    rintro b22 o22 vs22 ⟨_, _, rfl, ⟨rfl, _⟩, ⟨rfl, _⟩⟩ hm22
    refine Rn.v rfl rfl rfl rfl (V.ldA Try.isAgg44 Try.sizeOf44 rfl (Rd.pre (hm22.get 4 rfl).2 2) rfl) (Rn.als rfl rfl rfl Try.zeroValue44 rfl Try.sizeOf44 rfl rfl rfl rfl (by first | exact ones rfl | (simp [Value.oneCell']; done)) ?_)
    intro b24 w24 hb24 m24 e24
    have hm26 : Hp Z0 No w w24 [fzR (T_ship_Sender.obj F0 b0 bD x0), slR A1 c1 T_api_Span.rep x1, fzR (diskO 54 59 5 FD bD xD), ownR 44 A11 c11 T_api_Span.rep y10, rdR b22 o22 [.int .i64 (z22.First), .int .i64 (z22.End)], boxR b24 44 [.int .i64 (z22.First), .int .i64 (z22.End)]] := hm22.addBox hb24 e24 m24
    refine Rn.regEnd (Rn.seq ?_)
    obtain ⟨j3, hj3, hM⟩ := jnE hM
    refine Rn.joinG (r := r) (G := Bool) (fun g => [(0, .pointer (some ⟨b0, 0, none⟩)), (2, .int .i64 (x2)), (7, .slice A11 (y10).length c11), (9, .pointer (some ⟨b24, 0, none⟩)), (10, .slice A1 (x1).length c1), (11, .int .i64 ((x1.length : Int))), (12, .int .i64 (y13)), (28, .bool (g))]) (fun g w' => Hp Z0 No w w' [fzR (T_ship_Sender.obj F0 b0 bD x0), slR A1 c1 T_api_Span.rep x1, fzR (diskO 54 59 5 FD bD xD), ownR 44 A11 c11 T_api_Span.rep y10, rdR b22 o22 [.int .i64 (z22.First), .int .i64 (z22.End)], boxR b24 44 [.int .i64 (z22.First), .int .i64 (z22.End)]]) (fun g => j3 g) ?_ ?_
    · subst hj3
      clear hM
      rintro y27 w28 hm28 hM
      replace hm28 : Hp Z0 No w w28 [fzR (T_ship_Sender.obj F0 b0 bD x0), slR A1 c1 T_api_Span.rep x1, fzR (diskO 54 59 5 FD bD xD), ownR 44 A11 c11 T_api_Span.rep y10, rdR b22 o22 [.int .i64 (z22.First), .int .i64 (z22.End)], boxR b24 44 [.int .i64 (z22.First), .int .i64 (z22.End)]] := hm28
      show Rn _ _ _ _ _ [(0, .pointer (some ⟨b0, 0, none⟩)), (2, .int .i64 (x2)), (7, .slice A11 (y10).length c11), (9, .pointer (some ⟨b24, 0, none⟩)), (10, .slice A1 (x1).length c1), (11, .int .i64 ((x1.length : Int))), (12, .int .i64 (y13)), (28, .bool (y27))] _
      try dsimp only at hM
      refine Rn.condS rfl (fun h29 => ?_) (fun h29 => ?_)
      · replace hM := iteT h29 hM
        refine Rn.reg (Rn.v rfl rfl rfl rfl (V.mv rfl) (Rn.v rfl rfl rfl rfl (V.ldBA _ Try.isAgg44 Try.sizeOf44 rfl (hm28.get 5 rfl) rfl rfl) ?_))
        obtain ⟨z30, e30, hM⟩ := bindE hM
        refine Rn.pushH (z := ({ First := z22.First, End := z22.End } : T_api_Span)) (vs := [.int .i64 (z22.First), .int .i64 (z22.End)]) hm28 3 rfl e30 rfl rfl rfl rfl Try.underlying40 el44 rfl rfl rfl rfl (fun _ => rfl) (⟨_, _, rfl, ⟨rfl, trivial⟩, ⟨rfl, trivial⟩⟩) ?_
        intro A30 c30 w30 u30 hm30
        refine Rn.v rfl rfl rfl rfl (V.as rfl) (Rn.regEnd (Rn.inBlock ?_))
        exact hk2 (z30, A30, c30) _ _ (Sub.cons rfl (Sub.cons rfl (Sub.cons rfl (Sub.cons rfl (Sub.cons rfl (Sub.cons rfl (Sub.nil _))))))) (hm30.pick [0, 1, 2, 3] rfl (by decide)) hM
      · replace hM := iteF (by rw [h29]; exact Bool.false_ne_true) hM
        refine Rn.skip (Rn.inBlock ?_)
        exact hk2 (y10, A11, c11) _ _ (Sub.cons rfl (Sub.cons rfl (Sub.cons rfl (Sub.cons rfl (Sub.cons rfl (Sub.cons rfl (Sub.nil _))))))) (hm28.pick [0, 1, 2, 3] rfl (by decide)) hM
    intro hk3
    clear hj3
    refine Rn.drawP rfl hm26 ?_
    intro w32 hm32
    refine RH.takeP 0 (by kernel_rfl) rfl rfl rfl rfl (V.fa Try.underlying44 rfl Try.sizeOf3 rfl rfl) ?_
    refine RH.takeP 1 (by kernel_rfl) rfl rfl rfl rfl (V.ldB Try.isAgg3 rfl (hm32.get 5 rfl) rfl) ?_
    refine RH.takeP 2 (by kernel_rfl) rfl rfl rfl rfl (V.mv rfl) ?_
    refine RH.takeP 3 (by kernel_rfl) rfl rfl rfl rfl (V.nil rfl) ?_
    refine RH.takeP 4 (by kernel_rfl) rfl rfl rfl rfl (V.fa Try.underlying70 rfl Try.sizeOf3 rfl rfl) ?_
    obtain ⟨_, rfl, hm33⟩ := hm32.unfz 0 rfl
    replace hm33 : Hp Z0 No w w32 [fzR (T_ship_Sender.obj F0 b0 bD x0), slR A1 c1 T_api_Span.rep x1, fzR (diskO 54 59 5 FD bD xD), ownR 44 A11 c11 T_api_Span.rep y10, rdR b22 o22 [.int .i64 (z22.First), .int .i64 (z22.End)], boxR b24 44 [.int .i64 (z22.First), .int .i64 (z22.End)], fzR (boxR b0 70 [.pointer (some ⟨bD, 0, none⟩), .int .i64 (x0.ack)])] := hm33
    refine RH.takeP 5 (by kernel_rfl) rfl rfl rfl rfl (V.ldB Try.isAgg3 rfl (hm33.getz 6 rfl) rfl) ?_
    refine RH.takeP 6 (by kernel_rfl) rfl rfl rfl rfl (V.gtr rfl rfl) ?_
    refine RH.takeP 7 (by kernel_rfl) rfl rfl rfl rfl (V.mv rfl) ?_
    refine RH.partD (t := 23) rfl (fun h36 => ?_) (fun h36 => ?_)
    · replace hM := iteT h36 hM
      refine RH.takeP 8 (by kernel_rfl) rfl rfl rfl rfl (V.mv rfl) ?_
      refine RH.takeP 9 (by kernel_rfl) rfl rfl rfl rfl (V.lenV Try.underlying40 rfl) ?_
      refine RH.takeP 10 (by kernel_rfl) rfl rfl rfl rfl (V.mv rfl) ?_
      refine RH.takeP 11 (by kernel_rfl) rfl rfl rfl rfl (V.lss rfl rfl) ?_
      refine RH.takeP 12 (by kernel_rfl) rfl rfl rfl rfl (V.pkT rfl rfl) ?_
      refine RH.doneP (by kernel_rfl) ?_
      exact hk3 (decide ((y10.length : Int) < x2)) _ _ (Sub.cons rfl (Sub.cons rfl (Sub.cons rfl (Sub.cons rfl (Sub.cons rfl (Sub.cons rfl (Sub.cons rfl (Sub.cons rfl (Sub.nil _))))))))) (hm33.pick [0, 1, 2, 3, 4, 5] rfl (by decide)) hM
    · replace hM := iteF h36 hM
      refine RH.no 8 (by kernel_rfl) rfl rfl rfl rfl ?_
      refine RH.no 9 (by kernel_rfl) rfl rfl rfl rfl ?_
      refine RH.no 10 (by kernel_rfl) rfl rfl rfl rfl ?_
      refine RH.no 11 (by kernel_rfl) rfl rfl rfl rfl ?_
      refine RH.takeP 12 (by kernel_rfl) rfl rfl rfl rfl (V.pkF rfl rfl) ?_
      refine RH.doneP (by kernel_rfl) ?_
      exact hk3 false _ _ (Sub.cons rfl (Sub.cons rfl (Sub.cons rfl (Sub.cons rfl (Sub.cons rfl (Sub.cons rfl (Sub.cons rfl (Sub.cons rfl (Sub.nil _))))))))) (hm33.pick [0, 1, 2, 3, 4, 5] rfl (by decide)) hM
  · replace hM := iteF h17 hM
    refine Rn.exit rfl ?_
    exact hk1 (y10, A11, c11) _ _ (Sub.cons rfl (Sub.nil _)) (hm16.pick [0, 1, 2, 3] rfl (by decide)) hM

set_option maxRecDepth 20000 in
theorem m_limnographref25_Due_sim {Z0 : Nat → Prop} (w : World) (A0 : Option Addr) (c0 : Nat) (x0 : (List T_api_Span)) (x1 : Int) (x2 : Int) {r : (List T_api_Span)} (f0 : (slR A0 c0 T_api_Span.rep x0).H Z0 w) (hM : m_limnographref25_Due x0 x1 x2 = some r) :
    Calls Try.prog 14 #[.slice A0 (x0).length c0, .int .i64 (x1), .int .i64 (x2)] w fun x w' => ∃ A_0_0 c_0_0, x = .returned (.slice A_0_0 (r).length c_0_0) ∧ Hp Z0 No w w' [ownR 44 A_0_0 c_0_0 T_api_Span.rep r] := by
  have hm0 := Hp.nil Z0 No w
  have hc0 := Calm.nil
  have hm2 := hm0.know (slR A0 c0 T_api_Span.rep x0) (fun _ h => h) (hm0.in0 hc0 f0)
  replace hc0 := hc0.snoc (r := slR A0 c0 T_api_Span.rep x0) (fun _ h => h)
  refine Rn.enter Try.func14 rfl rfl (Nat.le_of_ble_eq_true rfl) ?_
  refine Rn.seq (Rn.reg (Rn.v rfl rfl rfl rfl (V.as rfl) (Rn.regEnd (Rn.seq (Rn.reg (Rn.v rfl rfl rfl rfl (V.as rfl) (Rn.regEnd (Rn.seq (Rn.seq (Rn.reg (Rn.v rfl rfl rfl rfl (V.as rfl) (Rn.regEnd ?_))))))))))))
  obtain ⟨j1, hj1, hM⟩ := jnE hM
  refine Rn.joinG (r := r) (G := (List T_api_Span) × Option Addr × Nat) (fun g => [(7, .slice (g.2.1) ((g.1)).length (g.2.2))]) (fun g w' => Hp Z0 No w w' [slR A0 c0 T_api_Span.rep x0, ownR 44 (g.2.1) (g.2.2) T_api_Span.rep (g.1)]) (fun g => j1 g.1) ?_ ?_
  · subst hj1
    clear hM
    rintro ⟨y3, A4, c4⟩ w6 hm6 hM
    replace hm6 : Hp Z0 No w w6 [slR A0 c0 T_api_Span.rep x0, ownR 44 A4 c4 T_api_Span.rep y3] := hm6
    show Rn _ _ _ _ _ [(7, .slice A4 (y3).length c4)] _
    try dsimp only at hM
    refine Rn.seq (Rn.reg (Rn.v rfl rfl rfl rfl (V.mv rfl) (Rn.v rfl rfl rfl rfl (V.as rfl) (Rn.regEnd ?_))))
    refine Rn.retG1 Try.func14 rfl (rvT rfl) ?_
    obtain rfl := someE hM
    exact ⟨A4, c4, rfl, hm6.pick [1] rfl (by decide)⟩
  intro hk1
  clear hj1
  refine Rn.block ?_
  have hm11 := hm2.addNil 44 T_api_Span.rep
  refine Rn.loopF (G := (List T_api_Span) × Int × Option Addr × Nat) (fun g => [(0, .slice A0 (x0).length c0), (1, .int .i64 (x1)), (2, .int .i64 (x2)), (7, .slice (g.2.2.1) ((g.1)).length (g.2.2.2)), (8, .int .i64 ((g.2.1)))]) (fun g w' => Hp Z0 No w w' [slR A0 c0 T_api_Span.rep x0, ownR 44 (g.2.2.1) (g.2.2.2) T_api_Span.rep (g.1)]) (fun n g => m_limnographref25_Due_L1 x0 x1 x2 j1 n g.1 g.2.1) fuel (([] : List T_api_Span), 0, none, 0) (Sub.cons rfl (Sub.cons rfl (Sub.cons rfl (Sub.cons rfl (Sub.cons rfl (Sub.nil _)))))) (hm11.pick [0, 1] rfl (by decide)) hM (fun _ => rfl) ?_
  clear hM
  rintro m13 ⟨y7, y10, A8, c8⟩ w13 hm13 hM hn13
  replace hm13 : Hp Z0 No w w13 [slR A0 c0 T_api_Span.rep x0, ownR 44 A8 c8 T_api_Span.rep y7] := hm13
  show Rn _ _ _ _ _ [(0, .slice A0 (x0).length c0), (1, .int .i64 (x1)), (2, .int .i64 (x2)), (7, .slice A8 (y7).length c8), (8, .int .i64 (y10))] _
  replace hM : m_limnographref25_Due_L1 x0 x1 x2 j1 (m13 + 1) y7 y10 = some r := hM
  rw [m_limnographref25_Due_L1] at hM
  refine Rn.seq (Rn.seq (Rn.reg (Rn.v rfl rfl rfl rfl (V.mv rfl) (Rn.v rfl rfl rfl rfl (V.mv rfl) (Rn.v rfl rfl rfl rfl (V.lenV Try.underlying40 rfl) (Rn.v rfl rfl rfl rfl (V.lss rfl rfl) (Rn.regEnd ?_)))))))
  refine Rn.condD rfl (fun h14 => ?_) (fun h14 => ?_)
  · replace hM := iteT h14 hM
    refine Rn.skip (Rn.seq ?_)
    obtain ⟨j2, hj2, hM⟩ := jnE hM
    refine Rn.joinG (r := r) (G := (List T_api_Span) × Option Addr × Nat) (fun g => [(0, .slice A0 (x0).length c0), (1, .int .i64 (x1)), (2, .int .i64 (x2)), (7, .slice (g.2.1) ((g.1)).length (g.2.2)), (8, .int .i64 (y10))]) (fun g w' => Hp Z0 No w w' [slR A0 c0 T_api_Span.rep x0, ownR 44 (g.2.1) (g.2.2) T_api_Span.rep (g.1)]) (fun g => j2 g.1) ?_ ?_
    · subst hj2
      clear hM
      rintro ⟨y15, A16, c16⟩ w18 hm18 hM
      replace hm18 : Hp Z0 No w w18 [slR A0 c0 T_api_Span.rep x0, ownR 44 A16 c16 T_api_Span.rep y15] := hm18
      show Rn _ _ _ _ _ [(0, .slice A0 (x0).length c0), (1, .int .i64 (x1)), (2, .int .i64 (x2)), (7, .slice A16 (y15).length c16), (8, .int .i64 (y10))] _
      try dsimp only at hM
      refine Rn.reg (Rn.v rfl rfl rfl rfl (V.mv rfl) (Rn.v rfl rfl rfl rfl (V.addW rfl rfl) (Rn.v rfl rfl rfl rfl (V.as rfl) (Rn.regEnd ?_))))
      exact hn13 (y15, (W64 (y10 + 1)), A16, c16) _ _ (Sub.cons rfl (Sub.cons rfl (Sub.cons rfl (Sub.cons rfl (Sub.cons rfl (Sub.nil _)))))) (hm18.pick [0, 1] rfl (by decide)) hM
    intro hk2
    clear hj2
    refine Rn.block (Rn.seq (Rn.reg (Rn.v rfl rfl rfl rfl (V.mv rfl) (Rn.v rfl rfl rfl rfl (V.mv rfl) ?_))))
    obtain ⟨z19, e19, hM⟩ := bindE hM
    refine Rn.ixH hm13 0 rfl e19 rfl rfl rfl Try.underlying40 Try.sizeOf44 rfl rfl rfl rfl ?_
    rintro b19 o19 vs19 ⟨_, _, rfl, ⟨rfl, _⟩, ⟨rfl, _⟩⟩ hm19
    refine Rn.v rfl rfl rfl rfl (V.fa Try.underlying44 rfl Try.sizeOf3 rfl rfl) (Rn.v rfl rfl rfl rfl (V.ldR Try.isAgg3 rfl (hm19.get 2 rfl).2 rfl) (Rn.v rfl rfl rfl rfl (V.mv rfl) (Rn.v rfl rfl rfl rfl (V.gtr rfl rfl) (Rn.v rfl rfl rfl rfl (V.mv rfl) ?_))))
    refine Rn.cutR [] [(0, .slice A0 (x0).length c0), (1, .int .i64 (x1)), (2, .int .i64 (x2)), (7, .slice A8 (y7).length c8), (8, .int .i64 (y10)), (27, .bool (decide ((z19.End > x1) ∧ ((y7.length : Int) < x2))))] (fun hk21 => ?_) ?_
    · refine Rn.partD (t := 22) rfl (fun h22 => ?_) (fun h22 => ?_)
      · refine Rn.v rfl rfl rfl rfl (V.mv rfl) (Rn.v rfl rfl rfl rfl (V.lenV Try.underlying40 rfl) (Rn.v rfl rfl rfl rfl (V.mv rfl) (Rn.v rfl rfl rfl rfl (V.lss rfl rfl) (Rn.v rfl rfl rfl rfl (V.pkT rfl rfl) ?_))))
        refine hk21 _ ?_
        exact Sub.cons rfl (Sub.cons rfl (Sub.cons rfl (Sub.cons rfl (Sub.cons rfl (Sub.cons (lkv _ rfl (by first | exact andT h22 | exact andF h22 | exact orT h22 | exact orF h22 | exact nandF h22 | exact nandT h22 | exact norT h22 | exact norF h22 | (simp [h22]; done) | grind)) (Sub.nil _))))))
      · refine Rn.no rfl rfl rfl rfl (Rn.no rfl rfl rfl rfl (Rn.no rfl rfl rfl rfl (Rn.no rfl rfl rfl rfl (Rn.v rfl rfl rfl rfl (V.pkF rfl rfl) ?_))))
        refine hk21 _ ?_
        exact Sub.cons rfl (Sub.cons rfl (Sub.cons rfl (Sub.cons rfl (Sub.cons rfl (Sub.cons (lkv _ rfl (by first | exact andT h22 | exact andF h22 | exact orT h22 | exact orF h22 | exact nandF h22 | exact nandT h22 | exact norT h22 | exact norF h22 | (simp [h22]; done) | grind)) (Sub.nil _))))))
    refine Rn.regEnd ?_
    refine Rn.condD rfl (fun h23 => ?_) (fun h23 => ?_)
    · replace hM := iteT h23 hM
      refine Rn.reg (Rn.v rfl rfl rfl rfl (V.mv rfl) (Rn.v rfl rfl rfl rfl (V.mv rfl) (Rn.v rfl rfl rfl rfl (V.mv rfl) ?_)))
      obtain ⟨z24, e24, hM⟩ := bindE hM
      refine Rn.ixH hm19 0 rfl e24 rfl rfl rfl Try.underlying40 Try.sizeOf44 rfl rfl rfl rfl ?_
      rintro b24 o24 vs24 ⟨_, _, rfl, ⟨rfl, _⟩, ⟨rfl, _⟩⟩ hm24
      refine Rn.v rfl rfl rfl rfl (V.ldA Try.isAgg44 Try.sizeOf44 rfl (Rd.pre (hm24.get 3 rfl).2 2) rfl) ?_
      obtain ⟨z26, e26, hM⟩ := bindE hM
      refine Rn.pushH (z := z24) (vs := [.int .i64 (z24.First), .int .i64 (z24.End)]) hm24 1 rfl e26 rfl rfl rfl rfl Try.underlying40 el44 rfl rfl rfl rfl (fun _ => rfl) (⟨_, _, rfl, ⟨rfl, trivial⟩, ⟨rfl, trivial⟩⟩) ?_
      intro A26 c26 w26 u26 hm26
      refine Rn.v rfl rfl rfl rfl (V.as rfl) (Rn.regEnd (Rn.inBlock ?_))
      exact hk2 (z26, A26, c26) _ _ (Sub.cons rfl (Sub.cons rfl (Sub.cons rfl (Sub.cons rfl (Sub.cons rfl (Sub.nil _)))))) (hm26.pick [0, 1] rfl (by decide)) hM
    · replace hM := iteF h23 hM
      refine Rn.skip (Rn.inBlock ?_)
      exact hk2 (y7, A8, c8) _ _ (Sub.cons rfl (Sub.cons rfl (Sub.cons rfl (Sub.cons rfl (Sub.cons rfl (Sub.nil _)))))) (hm19.pick [0, 1] rfl (by decide)) hM
  · replace hM := iteF h14 hM
    refine Rn.exit rfl ?_
    exact hk1 (y7, A8, c8) _ _ (Sub.cons rfl (Sub.nil _)) (hm13.pick [0, 1] rfl (by decide)) hM

set_option maxRecDepth 20000 in
theorem m_limnographref22_SameSpans_sim {Z0 : Nat → Prop} (w : World) (A0 : Option Addr) (c0 : Nat) (x0 : (List T_api_Span)) (A1 : Option Addr) (c1 : Nat) (x1 : (List T_api_Span)) {r : Bool} (f0 : (slR A0 c0 T_api_Span.rep x0).H Z0 w) (f1 : (slR A1 c1 T_api_Span.rep x1).H Z0 w) (hM : m_limnographref22_SameSpans x0 x1 = some r) :
    Calls Try.prog 12 #[.slice A0 (x0).length c0, .slice A1 (x1).length c1] w fun x w' => x = .returned (.bool (r)) ∧ Hp Z0 No w w' [] := by
  have hm0 := Hp.nil Z0 No w
  have hc0 := Calm.nil
  have hm3 := hm0.know (slR A0 c0 T_api_Span.rep x0) (fun _ h => h) (hm0.in0 hc0 f0)
  replace hc0 := hc0.snoc (r := slR A0 c0 T_api_Span.rep x0) (fun _ h => h)
  have hm4 := hm3.know (slR A1 c1 T_api_Span.rep x1) (fun _ h => h) (hm3.in0 hc0 f1)
  replace hc0 := hc0.snoc (r := slR A1 c1 T_api_Span.rep x1) (fun _ h => h)
  refine Rn.enter Try.func12 rfl rfl (Nat.le_of_ble_eq_true rfl) ?_
  refine Rn.seq (Rn.reg (Rn.v rfl rfl rfl rfl (V.as rfl) (Rn.regEnd (Rn.seq (Rn.seq (Rn.reg (Rn.v rfl rfl rfl rfl (V.mv rfl) (Rn.v rfl rfl rfl rfl (V.lenV Try.underlying40 rfl) (Rn.v rfl rfl rfl rfl (V.mv rfl) (Rn.v rfl rfl rfl rfl (V.lenV Try.underlying40 rfl) (Rn.v rfl rfl rfl rfl (V.neq rfl rfl) (Rn.regEnd ?_))))))))))))
  refine Rn.condD rfl (fun h5 => ?_) (fun h5 => ?_)
  · replace hM := iteT h5 hM
    refine Rn.seq (Rn.reg (Rn.v rfl rfl rfl rfl (V.as rfl) (Rn.regEnd ?_)))
    refine Rn.retG1 Try.func12 rfl (rvT rfl) ?_
    obtain rfl := someE hM
    exact ⟨rfl, hm4.pick [] rfl (by decide)⟩
  · replace hM := iteF h5 hM
    refine Rn.skip (Rn.seq (Rn.seq (Rn.reg (Rn.v rfl rfl rfl rfl (V.as rfl) (Rn.regEnd ?_)))))
    obtain ⟨j1, hj1, hM⟩ := jnE hM
    refine Rn.joinG (r := r) (G := Unit) (fun g => []) (fun g w' => Hp Z0 No w w' [slR A0 c0 T_api_Span.rep x0, slR A1 c1 T_api_Span.rep x1]) (fun g => j1 ()) ?_ ?_
    · subst hj1
      clear hM
      rintro _ w6 hm6 hM
      replace hm6 : Hp Z0 No w w6 [slR A0 c0 T_api_Span.rep x0, slR A1 c1 T_api_Span.rep x1] := hm6
      show Rn _ _ _ _ _ [] _
      try dsimp only at hM
      refine Rn.seq (Rn.reg (Rn.v rfl rfl rfl rfl (V.as rfl) (Rn.regEnd ?_)))
      refine Rn.retG1 Try.func12 rfl (rvT rfl) ?_
      obtain rfl := someE hM
      exact ⟨rfl, hm6.pick [] rfl (by decide)⟩
    intro hk1
    clear hj1
    refine Rn.block ?_
    refine Rn.loopF (G := Int) (fun g => [(0, .slice A0 (x0).length c0), (1, .slice A1 (x1).length c1), (5, .int .i64 (g))]) (fun g w' => Hp Z0 No w w' [slR A0 c0 T_api_Span.rep x0, slR A1 c1 T_api_Span.rep x1]) (fun n g => m_limnographref22_SameSpans_L1 x0 x1 j1 n g) fuel 0 (Sub.cons rfl (Sub.cons rfl (Sub.cons rfl (Sub.nil _)))) (hm4.pick [0, 1] rfl (by decide)) hM (fun _ => rfl) ?_
    clear hM
    rintro m8 y7 w8 hm8 hM hn8
    replace hm8 : Hp Z0 No w w8 [slR A0 c0 T_api_Span.rep x0, slR A1 c1 T_api_Span.rep x1] := hm8
    show Rn _ _ _ _ _ [(0, .slice A0 (x0).length c0), (1, .slice A1 (x1).length c1), (5, .int .i64 (y7))] _
    replace hM : m_limnographref22_SameSpans_L1 x0 x1 j1 (m8 + 1) y7 = some r := hM
    rw [m_limnographref22_SameSpans_L1] at hM
    refine Rn.seq (Rn.seq (Rn.reg (Rn.v rfl rfl rfl rfl (V.mv rfl) (Rn.v rfl rfl rfl rfl (V.mv rfl) (Rn.v rfl rfl rfl rfl (V.lenV Try.underlying40 rfl) (Rn.v rfl rfl rfl rfl (V.lss rfl rfl) (Rn.regEnd ?_)))))))
    refine Rn.condD rfl (fun h9 => ?_) (fun h9 => ?_)
    · replace hM := iteT h9 hM
      refine Rn.skip (Rn.seq (Rn.block (Rn.seq ?_)))
      refine Rn.drawP rfl hm8 ?_
      intro w10 hm10
      refine RH.takeP 0 (by kernel_rfl) rfl rfl rfl rfl (V.mv rfl) ?_
      refine RH.takeP 1 (by kernel_rfl) rfl rfl rfl rfl (V.mv rfl) ?_
      obtain ⟨z11, e11, hM⟩ := bindE hM
      obtain ⟨kk11, ke11, kz11, kl11⟩ := idxE e11
      obtain ⟨b11, o11, vs11, hA11, hD11, hR11, hrel11⟩ := Hp.at hm10 0 rfl kz11
      obtain ⟨_, _, rfl, ⟨rfl, _⟩, ⟨rfl, _⟩⟩ := hrel11
      have hm13 : Hp Z0 No w w10 [slR A0 c0 T_api_Span.rep x0, slR A1 c1 T_api_Span.rep x1, rdR b11 (o11 + kk11 * 2) [.int .i64 (z11.First), .int .i64 (z11.End)]] := Hp.knowL [rdR b11 (o11 + kk11 * 2) [.int .i64 (z11.First), .int .i64 (z11.End)]] _ hm10 (knC (fun _ h => h) ⟨fun _ => hD11, hR11⟩ kn0)
      refine RH.takeP 2 (by kernel_rfl) rfl rfl rfl rfl (V.ixA' hA11 kk11 Try.underlying40 Try.sizeOf44 rfl rfl ke11 kl11) ?_
      refine RH.takeP 3 (by kernel_rfl) rfl rfl rfl rfl (V.ldA Try.isAgg44 Try.sizeOf44 rfl (Rd.pre (hm13.get 2 rfl).2 2) rfl) ?_
      refine RH.takeP 4 (by kernel_rfl) rfl rfl rfl rfl (V.mv rfl) ?_
      refine RH.takeP 5 (by kernel_rfl) rfl rfl rfl rfl (V.mv rfl) ?_
      obtain ⟨z14, e14, hM⟩ := bindE hM
      obtain ⟨kk14, ke14, kz14, kl14⟩ := idxE e14
      obtain ⟨b14, o14, vs14, hA14, hD14, hR14, hrel14⟩ := Hp.at hm13 1 rfl kz14
      obtain ⟨_, _, rfl, ⟨rfl, _⟩, ⟨rfl, _⟩⟩ := hrel14
      have hm16 : Hp Z0 No w w10 [slR A0 c0 T_api_Span.rep x0, slR A1 c1 T_api_Span.rep x1, rdR b11 (o11 + kk11 * 2) [.int .i64 (z11.First), .int .i64 (z11.End)], rdR b14 (o14 + kk14 * 2) [.int .i64 (z14.First), .int .i64 (z14.End)]] := Hp.knowL [rdR b14 (o14 + kk14 * 2) [.int .i64 (z14.First), .int .i64 (z14.End)]] _ hm13 (knC (fun _ h => h) ⟨fun _ => hD14, hR14⟩ kn0)
      refine RH.takeP 6 (by kernel_rfl) rfl rfl rfl rfl (V.ixA' hA14 kk14 Try.underlying40 Try.sizeOf44 rfl rfl ke14 kl14) ?_
      refine RH.takeP 7 (by kernel_rfl) rfl rfl rfl rfl (V.ldA Try.isAgg44 Try.sizeOf44 rfl (Rd.pre (hm16.get 3 rfl).2 2) rfl) ?_
      refine RH.takeP 8 (by kernel_rfl) rfl rfl rfl rfl (V.neqT Try.eqGuardType44 rfl rfl (eq44 _ _)) ?_
      refine RH.doneP (by kernel_rfl) ?_
      refine Rn.condD rfl (fun h17 => ?_) (fun h17 => ?_)
      · replace hM := iteT h17 hM
        refine Rn.seq (Rn.reg (Rn.v rfl rfl rfl rfl (V.as rfl) (Rn.regEnd ?_)))
        refine Rn.retG1 Try.func12 rfl (rvT rfl) ?_
        obtain rfl := someE hM
        exact ⟨rfl, hm16.pick [] rfl (by decide)⟩
      · replace hM := iteF h17 hM
        refine Rn.skip (Rn.inBlock (Rn.reg (Rn.v rfl rfl rfl rfl (V.mv rfl) (Rn.v rfl rfl rfl rfl (V.addW rfl rfl) (Rn.v rfl rfl rfl rfl (V.as rfl) (Rn.regEnd ?_))))))
        exact hn8 (W64 (y7 + 1)) _ _ (Sub.cons rfl (Sub.cons rfl (Sub.cons rfl (Sub.nil _)))) (hm16.pick [0, 1] rfl (by decide)) hM
    · replace hM := iteF h9 hM
      refine Rn.exit rfl ?_
      exact hk1 () _ _ (Sub.nil _) (hm8.pick [0, 1] rfl (by decide)) hM

set_option maxRecDepth 20000 in
theorem m_limnographlaw25_ShipDue_sim {Z0 : Nat → Prop} (w : World) (A0 : Option Addr) (c0 : Nat) (x0 : (List T_api_Span)) (x1 : Int) (x2 : Int) {r : Bool} (f0 : (slR A0 c0 T_api_Span.rep x0).H Z0 w) (hM : m_limnographlaw25_ShipDue x0 x1 x2 = some r) :
    Calls Try.prog 4 #[.slice A0 (x0).length c0, .int .i64 (x1), .int .i64 (x2)] w fun x w' => x = .returned (.bool (r)) ∧ Hp Z0 No w w' [] := by
  have hm0 := Hp.nil Z0 No w
  have hc0 := Calm.nil
  have hm2 := hm0.know (slR A0 c0 T_api_Span.rep x0) (fun _ h => h) (hm0.in0 hc0 f0)
  replace hc0 := hc0.snoc (r := slR A0 c0 T_api_Span.rep x0) (fun _ h => h)
  refine Rn.enter Try.func4 rfl rfl (Nat.le_of_ble_eq_true rfl) ?_
  refine Rn.seq (Rn.reg (Rn.v rfl rfl rfl rfl (V.as rfl) (Rn.regEnd (Rn.seq (Rn.seq (Rn.reg ?_))))))
  obtain ⟨p3, e3, hM⟩ := bindE hM
  refine Rn.cl ck5 rfl rfl rfl rfl (m_limnographlaw25_awake_sim (Z0 := All) _   e3) ?_
  rintro _ w3 ⟨rfl, hq3⟩
  refine ⟨_, rfl, ?_⟩
  have hm4 := hm2.call0 hq3
  refine Rn.v rfl rfl rfl rfl (V.notB rfl) (Rn.regEnd ?_)
  refine Rn.condS rfl (fun h5 => ?_) (fun h5 => ?_)
  · replace hM := iteT h5 hM
    refine Rn.seq (Rn.reg (Rn.v rfl rfl rfl rfl (V.as rfl) (Rn.regEnd ?_)))
    refine Rn.retG1 Try.func4 rfl (rvT rfl) ?_
    obtain rfl := someE hM
    exact ⟨rfl, hm4.pick [] rfl (by decide)⟩
  · replace hM := iteF (by rw [h5]; exact Bool.false_ne_true) hM
    refine Rn.skip (Rn.seq (Rn.seq (Rn.reg (Rn.v rfl rfl rfl rfl (V.mv rfl) (Rn.v rfl rfl rfl rfl (V.lenV Try.underlying40 rfl) (Rn.v rfl rfl rfl rfl (V.gtr rfl rfl) (Rn.regEnd ?_)))))))
    refine Rn.condD rfl (fun h6 => ?_) (fun h6 => ?_)
    · replace hM := iteT h6 hM
      refine Rn.seq (Rn.reg (Rn.v rfl rfl rfl rfl (V.as rfl) (Rn.regEnd ?_)))
      refine Rn.retG1 Try.func4 rfl (rvT rfl) ?_
      obtain rfl := someE hM
      exact ⟨rfl, hm4.pick [] rfl (by decide)⟩
    · replace hM := iteF h6 hM
      refine Rn.skip (Rn.seq (Rn.reg ?_))
      have hm8 := hm4.addNil 25 T_api_File.rep
      have hm11 := hm8.freeze 1 rfl
      obtain ⟨p7, e7, hM⟩ := bindE hM
      refine Rn.cl ck6 rfl rfl rfl rfl (m_disk_New_sim (Z0 := Zo Z0 No w [slR A0 c0 T_api_Span.rep x0, slR none 0 T_api_File.rep ([] : List T_api_File)]) _ none 0 ([] : List T_api_File) 1000 (hm11.get 1 rfl) e7) ?_
      rintro _ w7 ⟨F7_0, b7_0, rfl, hq7⟩
      refine ⟨_, rfl, ?_⟩
      have hm13 : Hp Z0 No w w7 [slR A0 c0 T_api_Span.rep x0, slR none 0 T_api_File.rep ([] : List T_api_File), optR p7 (fun z => diskO 54 59 5 F7_0 b7_0 z)] := hm11.callZ hq7
      refine Rn.v rfl rfl rfl rfl (V.as rfl) (Rn.regEnd (Rn.seq (Rn.reg (Rn.v rfl rfl rfl rfl (V.mv rfl) ?_))))
      obtain ⟨z15, e15, hM⟩ := bindE hM
      have hm16 : Hp Z0 No w w7 [slR A0 c0 T_api_Span.rep x0, slR none 0 T_api_File.rep ([] : List T_api_File), diskO 54 59 5 F7_0 b7_0 z15] := hm13.optSome 2 rfl e15
      refine Rn.say (t := 20) (.pointer (some ⟨b7_0, 0, none⟩)) rfl (by rw [e15]; rfl) ?_
      obtain ⟨p14, e14, hM⟩ := bindE hM
      have hm17 : Hp Z0 No w w7 ([slR A0 c0 T_api_Span.rep x0, slR none 0 T_api_File.rep ([] : List T_api_File)] ++ [diskO 54 59 5 F7_0 b7_0 z15]) := hm16.pick [0, 1, 2] rfl (by decide)
      refine Rn.cl ck8 rfl rfl rfl rfl (m_ship_Open_sim (Z0 := _) _ F7_0 b7_0 z15 hm17.lend e14) ?_
      rintro _ w14 ⟨F14_0, b14_0, F14_p0, rfl, hq14⟩
      refine ⟨_, rfl, ?_⟩
      have hm20 : Hp Z0 No w w14 [slR A0 c0 T_api_Span.rep x0, slR none 0 T_api_File.rep ([] : List T_api_File), optR p14.1 (fun z => T_ship_Sender.obj F14_0 b14_0 b7_0 z), diskO 54 59 5 F14_p0 b7_0 p14.2.2] := hm17.callAZ hq14
      refine Rn.v rfl rfl rfl rfl (V.mv rfl) (Rn.v rfl rfl rfl rfl (V.ext rfl rfl) (Rn.v rfl rfl rfl rfl (V.ext rfl rfl) (Rn.v rfl rfl rfl rfl (V.as rfl) (Rn.v rfl rfl rfl rfl (V.as rfl) (Rn.regEnd (Rn.seq (Rn.seq (Rn.reg (Rn.v rfl rfl rfl rfl (V.mv rfl) (Rn.v rfl rfl rfl rfl (V.eqlO Try.underlying31 rfl rfl) (Rn.regEnd ?_)))))))))))
      refine Rn.condS rfl (fun h21 => ?_) (fun h21 => ?_)
      · replace hM := iteT h21 hM
        refine Rn.seq (Rn.reg (Rn.v rfl rfl rfl rfl (V.as rfl) (Rn.regEnd ?_)))
        refine Rn.retG1 Try.func4 rfl (rvT rfl) ?_
        obtain rfl := someE hM
        exact ⟨rfl, hm20.pick [] rfl (by decide)⟩
      · replace hM := iteF (by rw [h21]; exact Bool.false_ne_true) hM
        refine Rn.skip (Rn.seq (Rn.reg (Rn.v rfl rfl rfl rfl (V.mv rfl) (Rn.v rfl rfl rfl rfl (V.mv rfl) ?_))))
        obtain ⟨z23, e23, hM⟩ := bindE hM
        have hm24 : Hp Z0 No w w14 [slR A0 c0 T_api_Span.rep x0, slR none 0 T_api_File.rep ([] : List T_api_File), T_ship_Sender.obj F14_0 b14_0 b7_0 z23, diskO 54 59 5 F14_p0 b7_0 p14.2.2] := hm20.optSome 2 rfl e23
        refine Rn.say (t := 26) (.pointer (some ⟨b14_0, 0, none⟩)) rfl (by rw [e23]; rfl) ?_
        obtain ⟨p22, e22, hM⟩ := bindE hM
        have hm25 : Hp Z0 No w w14 ([slR A0 c0 T_api_Span.rep x0, slR none 0 T_api_File.rep ([] : List T_api_File)] ++ [T_ship_Sender.obj F14_0 b14_0 b7_0 z23, diskO 54 59 5 F14_p0 b7_0 p14.2.2]) := hm24.pick [0, 1, 2, 3] rfl (by decide)
        refine Rn.cl ck11 rfl rfl rfl rfl (m_ship_Sender_Take_sim (Z0 := _) _ F14_0 b14_0 z23 x1 4503599627370496 F14_p0 b7_0 p14.2.2 hm25.lend e22) ?_
        rintro _ w22 ⟨F22_p0, F22_pD, rfl, hq22⟩
        refine ⟨_, rfl, ?_⟩
        have hm28 : Hp Z0 No w w22 [slR A0 c0 T_api_Span.rep x0, slR none 0 T_api_File.rep ([] : List T_api_File), T_ship_Sender.obj F22_p0 b14_0 b7_0 p22.2.2.1, diskO 54 59 5 F22_pD b7_0 p22.2.2.2] := hm25.callAZ hq22
        refine Rn.regEnd (Rn.seq (Rn.reg (Rn.v rfl rfl rfl rfl (V.as rfl) (Rn.regEnd (Rn.seq (Rn.seq (Rn.reg (Rn.v rfl rfl rfl rfl (V.mv rfl) (Rn.v rfl rfl rfl rfl (V.gtr rfl rfl) (Rn.v rfl rfl rfl rfl (V.mv rfl) ?_))))))))))
        refine Rn.cutR [] [(0, .slice A0 (x0).length c0), (1, .int .i64 (x1)), (2, .int .i64 (x2)), (8, .pointer (optP b14_0 p14.1)), (10, .int .i64 (0)), (34, .bool (decide ((x1 > 0) ∧ (x1 ≤ 4503599627370496))))] (fun hk29 => ?_) ?_
        · refine Rn.partD (t := 31) rfl (fun h30 => ?_) (fun h30 => ?_)
          · refine Rn.v rfl rfl rfl rfl (V.mv rfl) (Rn.v rfl rfl rfl rfl (V.leq rfl rfl) (Rn.v rfl rfl rfl rfl (V.pkT rfl rfl) ?_))
            refine hk29 _ ?_
            exact Sub.cons rfl (Sub.cons rfl (Sub.cons rfl (Sub.cons rfl (Sub.cons rfl (Sub.cons (lkv _ rfl (by first | exact andT h30 | exact andF h30 | exact orT h30 | exact orF h30 | exact nandF h30 | exact nandT h30 | exact norT h30 | exact norF h30 | (simp [h30]; done) | grind)) (Sub.nil _))))))
          · refine Rn.no rfl rfl rfl rfl (Rn.no rfl rfl rfl rfl (Rn.v rfl rfl rfl rfl (V.pkF rfl rfl) ?_))
            refine hk29 _ ?_
            exact Sub.cons rfl (Sub.cons rfl (Sub.cons rfl (Sub.cons rfl (Sub.cons rfl (Sub.cons (lkv _ rfl (by first | exact andT h30 | exact andF h30 | exact orT h30 | exact orF h30 | exact nandF h30 | exact nandT h30 | exact norT h30 | exact norF h30 | (simp [h30]; done) | grind)) (Sub.nil _))))))
        refine Rn.regEnd ?_
        obtain ⟨j1, hj1, hM⟩ := jnE hM
        refine Rn.joinG (r := r) (G := Int × (Nat → Prop) × (Nat → Prop)) (fun g => [(0, .slice A0 (x0).length c0), (1, .int .i64 (x1)), (2, .int .i64 (x2)), (8, .pointer (optP b14_0 p14.1)), (10, .int .i64 ((g.1)))]) (fun g w' => Hp Z0 No w w' [slR A0 c0 T_api_Span.rep x0, slR none 0 T_api_File.rep ([] : List T_api_File), T_ship_Sender.obj (g.2.1) b14_0 b7_0 p22.2.2.1, diskO 54 59 5 (g.2.2) b7_0 p22.2.2.2]) (fun g => j1 g.1) ?_ ?_
        · subst hj1
          clear hM
          rintro ⟨y33, F31, F32⟩ w34 hm34 hM
          replace hm34 : Hp Z0 No w w34 [slR A0 c0 T_api_Span.rep x0, slR none 0 T_api_File.rep ([] : List T_api_File), T_ship_Sender.obj F31 b14_0 b7_0 p22.2.2.1, diskO 54 59 5 F32 b7_0 p22.2.2.2] := hm34
          show Rn _ _ _ _ _ [(0, .slice A0 (x0).length c0), (1, .int .i64 (x1)), (2, .int .i64 (x2)), (8, .pointer (optP b14_0 p14.1)), (10, .int .i64 (y33))] _
          try dsimp only at hM
          refine Rn.seq (Rn.reg (Rn.v rfl rfl rfl rfl (V.as rfl) (Rn.regEnd (Rn.seq (Rn.seq (Rn.reg (Rn.v rfl rfl rfl rfl (V.as rfl) (Rn.regEnd ?_))))))))
          obtain ⟨j2, hj2, hM⟩ := jnE hM
          refine Rn.joinG (r := r) (G := Int × (Nat → Prop) × (Nat → Prop)) (fun g => [(0, .slice A0 (x0).length c0), (1, .int .i64 (x1)), (2, .int .i64 (x2)), (8, .pointer (optP b14_0 p14.1)), (10, .int .i64 (y33)), (11, .int .i64 ((g.1)))]) (fun g w' => Hp Z0 No w w' [slR A0 c0 T_api_Span.rep x0, slR none 0 T_api_File.rep ([] : List T_api_File), T_ship_Sender.obj (g.2.1) b14_0 b7_0 p22.2.2.1, diskO 54 59 5 (g.2.2) b7_0 p22.2.2.2]) (fun g => j2 g.1) ?_ ?_
          · subst hj2
            clear hM
            rintro ⟨y37, F35, F36⟩ w38 hm38 hM
            replace hm38 : Hp Z0 No w w38 [slR A0 c0 T_api_Span.rep x0, slR none 0 T_api_File.rep ([] : List T_api_File), T_ship_Sender.obj F35 b14_0 b7_0 p22.2.2.1, diskO 54 59 5 F36 b7_0 p22.2.2.2] := hm38
            show Rn _ _ _ _ _ [(0, .slice A0 (x0).length c0), (1, .int .i64 (x1)), (2, .int .i64 (x2)), (8, .pointer (optP b14_0 p14.1)), (10, .int .i64 (y33)), (11, .int .i64 (y37))] _
            try dsimp only at hM
            refine Rn.seq (Rn.reg (Rn.v rfl rfl rfl rfl (V.mv rfl) ?_))
            refine Rn.say (t := 51) (.pointer (some ⟨b14_0, 0, none⟩)) rfl (by rw [e23]; rfl) ?_
            obtain ⟨p39, e39, hM⟩ := bindE hM
            refine Rn.cl ck10 rfl rfl rfl rfl (m_ship_Sender_Ack_sim (Z0 := All) _ F35 b14_0 p22.2.2.1 F36 b7_0 p22.2.2.2 (fz_all (hm38.get 2 rfl)) (fz_all (hm38.get 3 rfl)) e39) ?_
            rintro _ w39 ⟨rfl, hq39⟩
            refine ⟨_, rfl, ?_⟩
            have hm40 := hm38.call0 hq39
            refine Rn.v rfl rfl rfl rfl (V.mv rfl) (Rn.v rfl rfl rfl rfl (V.eql rfl rfl) (Rn.v rfl rfl rfl rfl (V.mv rfl) ?_))
            obtain ⟨j3, hj3, hM⟩ := jnE hM
            refine Rn.joinR (r := r) (G := Bool × (Nat → Prop) × (Nat → Prop)) [15, 16, 17, 18, 19, 20, 21, 22] (fun g => [(0, .slice A0 (x0).length c0), (1, .int .i64 (x1)), (11, .int .i64 (y37)), (65, .bool ((g.1)))]) (fun g w' => Hp Z0 No w w' [slR A0 c0 T_api_Span.rep x0, slR none 0 T_api_File.rep ([] : List T_api_File), T_ship_Sender.obj (g.2.1) b14_0 b7_0 p22.2.2.1, diskO 54 59 5 (g.2.2) b7_0 p22.2.2.2]) (fun g => j3 g.1) ?_ ?_
            · subst hj3
              clear hM
              rintro ⟨y43, F41, F42⟩ w44 hm44 hM
              replace hm44 : Hp Z0 No w w44 [slR A0 c0 T_api_Span.rep x0, slR none 0 T_api_File.rep ([] : List T_api_File), T_ship_Sender.obj F41 b14_0 b7_0 p22.2.2.1, diskO 54 59 5 F42 b7_0 p22.2.2.2] := hm44
              show Rn _ _ _ _ _ [(0, .slice A0 (x0).length c0), (1, .int .i64 (x1)), (11, .int .i64 (y37)), (65, .bool (y43))] _
              try dsimp only at hM
              refine Rn.v rfl rfl rfl rfl (V.mv rfl) ?_
              obtain ⟨j4, hj4, hM⟩ := jnE hM
              refine Rn.joinR (r := r) (G := Bool × (Nat → Prop) × (Nat → Prop)) [22] (fun g => [(72, .bool ((g.1)))]) (fun g w' => Hp Z0 No w w' [slR A0 c0 T_api_Span.rep x0, slR none 0 T_api_File.rep ([] : List T_api_File), T_ship_Sender.obj (g.2.1) b14_0 b7_0 p22.2.2.1, diskO 54 59 5 (g.2.2) b7_0 p22.2.2.2]) (fun g => j4 g.1) ?_ ?_
              · subst hj4
                clear hM
                rintro ⟨y47, F45, F46⟩ w48 hm48 hM
                replace hm48 : Hp Z0 No w w48 [slR A0 c0 T_api_Span.rep x0, slR none 0 T_api_File.rep ([] : List T_api_File), T_ship_Sender.obj F45 b14_0 b7_0 p22.2.2.1, diskO 54 59 5 F46 b7_0 p22.2.2.2] := hm48
                show Rn _ _ _ _ _ [(72, .bool (y47))] _
                try dsimp only at hM
                refine Rn.v rfl rfl rfl rfl (V.as rfl) (Rn.regEnd ?_)
                refine Rn.retG1 Try.func4 rfl (rvT rfl) ?_
                obtain rfl := someE hM
                exact ⟨rfl, hm48.pick [] rfl (by decide)⟩
              intro hk4
              clear hj4
              refine Rn.part (t := 66) rfl (fun h49 => ?_) (fun h49 => ?_)
              · replace hM := iteT h49 hM
                refine Rn.v rfl rfl rfl rfl (V.mv rfl) (Rn.v rfl rfl rfl rfl (V.mv rfl) ?_)
                obtain ⟨p50, e50, hM⟩ := bindE hM
                refine Rn.cl ck15 rfl rfl rfl rfl (m_ship_Left_sim (Z0 := All) _ A0 c0 x0 x1 (slR_all (hm44.get 0 rfl)) e50) ?_
                rintro _ w50 ⟨rfl, hq50⟩
                refine ⟨_, rfl, ?_⟩
                have hm51 := hm44.call0 hq50
                refine Rn.v rfl rfl rfl rfl (V.mv rfl) (Rn.v rfl rfl rfl rfl (V.eql rfl rfl) (Rn.v rfl rfl rfl rfl (V.pkT rfl rfl) ?_))
                exact hk4 ((decide (p50 = y37)), F41, F42) _ _ (Sub.cons rfl (Sub.nil _)) (hm51.pick [0, 1, 2, 3] rfl (by decide)) hM
              · replace hM := iteF (by rw [h49]; exact Bool.false_ne_true) hM
                refine Rn.no rfl rfl rfl rfl (Rn.no rfl rfl rfl rfl (Rn.no rfl rfl rfl rfl (Rn.no rfl rfl rfl rfl (Rn.no rfl rfl rfl rfl (Rn.v rfl rfl rfl rfl (V.pkF rfl rfl) ?_)))))
                exact hk4 (false, F41, F42) _ _ (Sub.cons rfl (Sub.nil _)) (hm44.pick [0, 1, 2, 3] rfl (by decide)) hM
            intro hk3
            clear hj3
            refine Rn.partD (t := 55) rfl (fun h52 => ?_) (fun h52 => ?_)
            · replace hM := iteT h52 hM
              refine Rn.v rfl rfl rfl rfl (V.mv rfl) (Rn.v rfl rfl rfl rfl (V.mv rfl) (Rn.v rfl rfl rfl rfl (V.mv rfl) ?_))
              refine Rn.say (t := 56) (.pointer (some ⟨b14_0, 0, none⟩)) rfl (by rw [e23]; rfl) ?_
              obtain ⟨p53, e53, hM⟩ := bindE hM
              refine Rn.cl ck13 rfl rfl rfl rfl (m_ship_Sender_Due_sim (Z0 := All) _ F35 b14_0 p22.2.2.1 A0 c0 x0 x2 F36 b7_0 p22.2.2.2 (fz_all (hm40.get 2 rfl)) (slR_all (hm40.get 0 rfl)) (fz_all (hm40.get 3 rfl)) e53) ?_
              rintro _ w53 ⟨A53_0_0, c53_0_0, rfl, hq53⟩
              refine ⟨_, rfl, ?_⟩
              have hm55 : Hp Z0 No w w53 [slR A0 c0 T_api_Span.rep x0, slR none 0 T_api_File.rep ([] : List T_api_File), T_ship_Sender.obj F35 b14_0 b7_0 p22.2.2.1, diskO 54 59 5 F36 b7_0 p22.2.2.2, ownR 44 A53_0_0 c53_0_0 T_api_Span.rep p53] := hm40.callF (flC (ownR_flat T_api_Span.flat _ _ _ _) fl0) hq53
              refine Rn.v rfl rfl rfl rfl (V.mv rfl) (Rn.v rfl rfl rfl rfl (V.mv rfl) (Rn.v rfl rfl rfl rfl (V.mv rfl) ?_))
              obtain ⟨p56, e56, hM⟩ := bindE hM
              refine Rn.cl ck14 rfl rfl rfl rfl (m_limnographref25_Due_sim (Z0 := All) _ A0 c0 x0 y33 x2 (slR_all (hm55.get 0 rfl)) e56) ?_
              rintro _ w56 ⟨A56_0_0, c56_0_0, rfl, hq56⟩
              refine ⟨_, rfl, ?_⟩
              have hm58 : Hp Z0 No w w56 [slR A0 c0 T_api_Span.rep x0, slR none 0 T_api_File.rep ([] : List T_api_File), T_ship_Sender.obj F35 b14_0 b7_0 p22.2.2.1, diskO 54 59 5 F36 b7_0 p22.2.2.2, ownR 44 A53_0_0 c53_0_0 T_api_Span.rep p53, ownR 44 A56_0_0 c56_0_0 T_api_Span.rep p56] := hm55.callF (flC (ownR_flat T_api_Span.flat _ _ _ _) fl0) hq56
              obtain ⟨p59, e59, hM⟩ := bindE hM
              refine Rn.cl ck12 rfl rfl rfl rfl (m_limnographref22_SameSpans_sim (Z0 := All) _ A53_0_0 c53_0_0 p53 A56_0_0 c56_0_0 p56 (own_slR (hm58.get 4 rfl)) (own_slR (hm58.get 5 rfl)) e59) ?_
              rintro _ w59 ⟨rfl, hq59⟩
              refine ⟨_, rfl, ?_⟩
              have hm60 := hm58.call0 hq59
              refine Rn.v rfl rfl rfl rfl (V.pkT rfl rfl) ?_
              exact hk3 (p59, F35, F36) _ _ (Sub.cons rfl (Sub.cons rfl (Sub.cons rfl (Sub.cons rfl (Sub.nil _))))) (hm60.pick [0, 1, 2, 3] rfl (by decide)) hM
            · replace hM := iteF h52 hM
              refine Rn.no rfl rfl rfl rfl (Rn.no rfl rfl rfl rfl (Rn.no rfl rfl rfl rfl (Rn.no rfl rfl rfl rfl (Rn.no rfl rfl rfl rfl (Rn.no rfl rfl rfl rfl (Rn.no rfl rfl rfl rfl (Rn.no rfl rfl rfl rfl (Rn.no rfl rfl rfl rfl (Rn.v rfl rfl rfl rfl (V.pkF rfl rfl) ?_)))))))))
              exact hk3 (false, F35, F36) _ _ (Sub.cons rfl (Sub.cons rfl (Sub.cons rfl (Sub.cons rfl (Sub.nil _))))) (hm40.pick [0, 1, 2, 3] rfl (by decide)) hM
          intro hk2
          clear hj2
          refine Rn.block ?_
          refine Rn.loopF (G := Int × Int × (Nat → Prop) × (Nat → Prop)) (fun g => [(0, .slice A0 (x0).length c0), (1, .int .i64 (x1)), (2, .int .i64 (x2)), (8, .pointer (optP b14_0 p14.1)), (10, .int .i64 (y33)), (11, .int .i64 ((g.1))), (12, .int .i64 ((g.2.1)))]) (fun g w' => Hp Z0 No w w' [slR A0 c0 T_api_Span.rep x0, slR none 0 T_api_File.rep ([] : List T_api_File), T_ship_Sender.obj (g.2.2.1) b14_0 b7_0 p22.2.2.1, diskO 54 59 5 (g.2.2.2) b7_0 p22.2.2.2]) (fun n g => m_limnographlaw25_ShipDue_L1 x0 x1 j2 n g.1 g.2.1) fuel (0, 0, F31, F32) (Sub.cons rfl (Sub.cons rfl (Sub.cons rfl (Sub.cons rfl (Sub.cons rfl (Sub.cons rfl (Sub.cons rfl (Sub.nil _)))))))) (hm34.pick [0, 1, 2, 3] rfl (by decide)) hM (fun _ => rfl) ?_
          clear hM
          rintro m65 ⟨y63, y64, F61, F62⟩ w65 hm65 hM hn65
          replace hm65 : Hp Z0 No w w65 [slR A0 c0 T_api_Span.rep x0, slR none 0 T_api_File.rep ([] : List T_api_File), T_ship_Sender.obj F61 b14_0 b7_0 p22.2.2.1, diskO 54 59 5 F62 b7_0 p22.2.2.2] := hm65
          show Rn _ _ _ _ _ [(0, .slice A0 (x0).length c0), (1, .int .i64 (x1)), (2, .int .i64 (x2)), (8, .pointer (optP b14_0 p14.1)), (10, .int .i64 (y33)), (11, .int .i64 (y63)), (12, .int .i64 (y64))] _
          replace hM : m_limnographlaw25_ShipDue_L1 x0 x1 j2 (m65 + 1) y63 y64 = some r := hM
          rw [m_limnographlaw25_ShipDue_L1] at hM
          refine Rn.seq (Rn.seq (Rn.reg (Rn.v rfl rfl rfl rfl (V.mv rfl) (Rn.v rfl rfl rfl rfl (V.mv rfl) (Rn.v rfl rfl rfl rfl (V.lenV Try.underlying40 rfl) (Rn.v rfl rfl rfl rfl (V.lss rfl rfl) (Rn.regEnd ?_)))))))
          refine Rn.condD rfl (fun h66 => ?_) (fun h66 => ?_)
          · replace hM := iteT h66 hM
            refine Rn.skip (Rn.seq ?_)
            obtain ⟨j5, hj5, hM⟩ := jnE hM
            refine Rn.joinG (r := r) (G := Int × (Nat → Prop) × (Nat → Prop)) (fun g => [(0, .slice A0 (x0).length c0), (1, .int .i64 (x1)), (2, .int .i64 (x2)), (8, .pointer (optP b14_0 p14.1)), (10, .int .i64 (y33)), (11, .int .i64 ((g.1))), (12, .int .i64 (y64))]) (fun g w' => Hp Z0 No w w' [slR A0 c0 T_api_Span.rep x0, slR none 0 T_api_File.rep ([] : List T_api_File), T_ship_Sender.obj (g.2.1) b14_0 b7_0 p22.2.2.1, diskO 54 59 5 (g.2.2) b7_0 p22.2.2.2]) (fun g => j5 g.1) ?_ ?_
            · subst hj5
              clear hM
              rintro ⟨y69, F67, F68⟩ w70 hm70 hM
              replace hm70 : Hp Z0 No w w70 [slR A0 c0 T_api_Span.rep x0, slR none 0 T_api_File.rep ([] : List T_api_File), T_ship_Sender.obj F67 b14_0 b7_0 p22.2.2.1, diskO 54 59 5 F68 b7_0 p22.2.2.2] := hm70
              show Rn _ _ _ _ _ [(0, .slice A0 (x0).length c0), (1, .int .i64 (x1)), (2, .int .i64 (x2)), (8, .pointer (optP b14_0 p14.1)), (10, .int .i64 (y33)), (11, .int .i64 (y69)), (12, .int .i64 (y64))] _
              try dsimp only at hM
              refine Rn.reg (Rn.v rfl rfl rfl rfl (V.mv rfl) (Rn.v rfl rfl rfl rfl (V.addW rfl rfl) (Rn.v rfl rfl rfl rfl (V.as rfl) (Rn.regEnd ?_))))
              exact hn65 (y69, (W64 (y64 + 1)), F67, F68) _ _ (Sub.cons rfl (Sub.cons rfl (Sub.cons rfl (Sub.cons rfl (Sub.cons rfl (Sub.cons rfl (Sub.cons rfl (Sub.nil _)))))))) (hm70.pick [0, 1, 2, 3] rfl (by decide)) hM
            intro hk5
            clear hj5
            refine Rn.block (Rn.seq (Rn.reg (Rn.v rfl rfl rfl rfl (V.mv rfl) (Rn.v rfl rfl rfl rfl (V.mv rfl) ?_))))
            obtain ⟨z71, e71, hM⟩ := bindE hM
            refine Rn.ixH hm65 0 rfl e71 rfl rfl rfl Try.underlying40 Try.sizeOf44 rfl rfl rfl rfl ?_
            rintro b71 o71 vs71 ⟨_, _, rfl, ⟨rfl, _⟩, ⟨rfl, _⟩⟩ hm71
            refine Rn.v rfl rfl rfl rfl (V.fa Try.underlying44 rfl Try.sizeOf3 rfl rfl) (Rn.v rfl rfl rfl rfl (V.ldR Try.isAgg3 rfl (hm71.get 4 rfl).2 rfl) (Rn.v rfl rfl rfl rfl (V.mv rfl) (Rn.v rfl rfl rfl rfl (V.gtr rfl rfl) (Rn.regEnd ?_))))
            refine Rn.condD rfl (fun h73 => ?_) (fun h73 => ?_)
            · replace hM := iteT h73 hM
              refine Rn.reg (Rn.v rfl rfl rfl rfl (V.mv rfl) (Rn.v rfl rfl rfl rfl (V.addW rfl rfl) (Rn.v rfl rfl rfl rfl (V.as rfl) (Rn.regEnd (Rn.inBlock ?_)))))
              exact hk5 ((W64 (y63 + 1)), F61, F62) _ _ (Sub.cons rfl (Sub.cons rfl (Sub.cons rfl (Sub.cons rfl (Sub.cons rfl (Sub.cons rfl (Sub.cons rfl (Sub.nil _)))))))) (hm71.pick [0, 1, 2, 3] rfl (by decide)) hM
            · replace hM := iteF h73 hM
              refine Rn.skip (Rn.inBlock ?_)
              exact hk5 (y63, F61, F62) _ _ (Sub.cons rfl (Sub.cons rfl (Sub.cons rfl (Sub.cons rfl (Sub.cons rfl (Sub.cons rfl (Sub.cons rfl (Sub.nil _)))))))) (hm71.pick [0, 1, 2, 3] rfl (by decide)) hM
          · replace hM := iteF h66 hM
            refine Rn.exit rfl ?_
            exact hk2 (y63, F61, F62) _ _ (Sub.cons rfl (Sub.cons rfl (Sub.cons rfl (Sub.cons rfl (Sub.cons rfl (Sub.cons rfl (Sub.nil _))))))) (hm65.pick [0, 1, 2, 3] rfl (by decide)) hM
        intro hk1
        clear hj1
        refine Rn.condD rfl (fun h74 => ?_) (fun h74 => ?_)
        · replace hM := iteT h74 hM
          refine Rn.reg (Rn.v rfl rfl rfl rfl (V.mv rfl) (Rn.v rfl rfl rfl rfl (V.as rfl) (Rn.regEnd ?_)))
          exact hk1 (x1, F22_p0, F22_pD) _ _ (Sub.cons rfl (Sub.cons rfl (Sub.cons rfl (Sub.cons rfl (Sub.cons rfl (Sub.nil _)))))) (hm28.pick [0, 1, 2, 3] rfl (by decide)) hM
        · replace hM := iteF h74 hM
          refine Rn.skip ?_
          exact hk1 (0, F22_p0, F22_pD) _ _ (Sub.cons rfl (Sub.cons rfl (Sub.cons rfl (Sub.cons rfl (Sub.cons rfl (Sub.nil _)))))) (hm28.pick [0, 1, 2, 3] rfl (by decide)) hM

end Go.Proofs.Ytpeloppldpdonaa
